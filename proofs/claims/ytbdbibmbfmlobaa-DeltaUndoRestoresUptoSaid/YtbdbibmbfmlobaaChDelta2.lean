import Derived.Test.YtbdbibmbfmlobaaChDelta
set_option linter.unusedVariables false
set_option linter.unusedSimpArgs false
set_option maxRecDepth 100000
set_option maxHeartbeats 4000000
open Go Go.Proofs Go.Ab
namespace Go.Ch
theorem fc_dRaw (f : List Elem) (l : List DStep) (hv : DValid l) (hd : DN 400000000000 l) (ha : AN 400000000000 f) (hlen : oldD l = f.length) : FC Try.prog 108 [.t (.lst 3 (List.map elemT f)), .t (.lst 4 (List.map dstepT l))] (app emp []) (.t (.lst 3 (List.map elemT (rawD f l)))) (app emp []) := by
  refine FC.of_sim (fn := Try.f108) (nx := 0) (by kernel_rfl) rfl (by kernel_rfl) rfl ?_
  show Sim _ _ _ _ ⟨[(0, .t (.lst 3 (List.map elemT f))), (1, .t (.lst 4 (List.map dstepT l)))], app emp [], 0⟩ _
  refine Sim.len (t := 0) (k := 3) rfl (fun hl0 => ?_)
  rw [List.length_map] at hl0
  refine Sim.len (t := 1) (k := 4) rfl (fun hl1 => ?_)
  rw [List.length_map] at hl1
  refine Sim.seq ?_
  refine Sim.reg (orcs := []) (keys := [0, 1]) (τ := []) (nx := 8)
    (sl := [(0, .t (.lst 3 (List.map elemT f))), (1, .t (.lst 4 (List.map dstepT l)))]) (l := [])
    (C := []) (by kernel_rfl) ?_ ?_
  · -- region 0
    trivial
  refine andThen_normal ?_
  refine Sim.seq ?_
  refine Sim.reg (orcs := []) (keys := [0, 1, 5]) (τ := []) (nx := 16)
    (sl := [(0, .t (.lst 3 (List.map elemT f))), (1, .t (.lst 4 (List.map dstepT l))), (5, .t (.sc (.slice none 0 0)))]) (l := [])
    (C := []) (by kernel_rfl) ?_ ?_
  · -- region 1
    trivial
  refine andThen_normal ?_
  refine Sim.seq ?_
  refine Sim.seq ?_
  refine Sim.reg (orcs := [(1, ⟨some (.t (.sc (.int .i64 (l.length : Int)))), none, none, none⟩)]) (keys := [0, 5, 8, 9, 10]) (τ := []) (nx := 40)
    (sl := [(0, .t (.lst 3 (List.map elemT f))), (5, .t (.sc (.slice none 0 0))), (8, .t (.lst 4 (List.map dstepT l))), (9, .t (.sc (.int .i64 (l.length : Int)))), (10, .t (.sc (.int .i64 0)))]) (l := [])
    (C := [Weak (.t (.sc (.int .i64 ((List.map dstepT l).length : Int)))) (.t (.sc (.int .i64 (l.length : Int))))]) (by kernel_rfl) ?_ ?_
  · -- region 2
    exact ⟨(Weak.of_eq len_map), trivial⟩
  refine andThen_normal ?_
  refine Sim.block ?_
  refine Sim.weaken (Le.nilRow (t := 5) (k := 3) (id := 40) rfl rfl rfl) ?_
  refine Sim.weaken (Le.ren (τ := [(40, 40)]) (keys := [0, 5, 8, 9, 10]) (nx := 41) (sl := [(0, .t (.lst 3 (List.map elemT f))), (5, .row 40 0), (8, .t (.lst 4 (List.map dstepT l))), (9, .t (.sc (.int .i64 (l.length : Int)))), (10, .t (.sc (.int .i64 ((0 : Nat) : Int))))]) (l := [(40, .row 3 false (List.map elemT []))]) (by kernel_rfl)) ?_
  refine Sim.loop ?_
  refine loop_ind (α := (List Elem) × Nat × (List Elem)) (fun (r, i, o) => ⟨[(0, .t (.lst 3 (List.map elemT r))), (5, .row 40 o.length), (8, .t (.lst 4 (List.map dstepT l))), (9, .t (.sc (.int .i64 (l.length : Int)))), (10, .t (.sc (.int .i64 (i : Int))))], app emp [(40, .row 3 false (List.map elemT o))], 41⟩) (fun (r, i, o) => i ≤ l.length ∧ AN 400000000000 r ∧ oldD (l.drop i) = r.length ∧ o.length + newD (l.drop i) = newD l ∧ rawD f l = o ++ applyU (exD (l.drop i)) r) (fun (r, i, o) => l.length - i) ?_ (f, 0, []) ?_
  rotate_left
  · -- loop 3, start
    exact ⟨by omega, ha, by simpa using hlen, by simp, by simp [rawD]⟩
  rintro ⟨r, i, o⟩ I3 ih3
  show LoopSim _ _ _ _ ⟨[(0, .t (.lst 3 (List.map elemT r))), (5, .row 40 o.length), (8, .t (.lst 4 (List.map dstepT l))), (9, .t (.sc (.int .i64 (l.length : Int)))), (10, .t (.sc (.int .i64 (i : Int))))], app emp [(40, .row 3 false (List.map elemT o))], 41⟩ _
  replace I3 : i ≤ l.length ∧ AN 400000000000 r ∧ oldD (l.drop i) = r.length ∧ o.length + newD (l.drop i) = newD l ∧ rawD f l = o ++ applyU (exD (l.drop i)) r := I3
  have hv1 := hv.2.1
  have hv2 := hv.2.2
  refine LoopSim.step ?_
  refine Sim.seq ?_
  refine Sim.reg (orcs := []) (keys := [0, 5, 8, 9, 10, 11]) (τ := [(40, 40)]) (nx := 49)
    (sl := [(0, .t (.lst 3 (List.map elemT r))), (5, .row 40 o.length), (8, .t (.lst 4 (List.map dstepT l))), (9, .t (.sc (.int .i64 (l.length : Int)))), (10, .t (.sc (.int .i64 (i : Int)))), (11, .t (.sc (.bool (decide ((i : Int) < (l.length : Int))))))]) (l := [(40, .row 3 false (List.map elemT o))])
    (C := []) (by kernel_rfl) ?_ ?_
  · -- region 3
    trivial
  refine andThen_normal ?_
  refine Sim.seq ?_
  refine Sim.cond (b := decide ((i : Int) < (l.length : Int))) (by kernel_rfl) (fun h3 => ?_) (fun h3 => ?_)
  · (try simp only [decide_eq_true_eq, decide_eq_false_iff_not, Int.not_lt, Int.not_le] at h3)
    refine Sim.skip ?_
    refine andThen_normal ?_
    refine Sim.seq ?_
    refine Sim.block ?_
    refine Sim.seq ?_
    refine Sim.reg (orcs := [(0, ⟨none, none, some (dstepT (l.getD i default)), none⟩)]) (keys := [0, 5, 7, 8, 9, 10]) (τ := [(40, 40), (65, 65)]) (nx := 81)
      (sl := [(0, .t (.lst 3 (List.map elemT r))), (5, .row 40 o.length), (7, .ptr 65 0), (8, .t (.lst 4 (List.map dstepT l))), (9, .t (.sc (.int .i64 (l.length : Int)))), (10, .t (.sc (.int .i64 (i : Int))))]) (l := [(40, .row 3 false (List.map elemT o)), (65, .box [.t (.sc (.int .i64 (((l.getD i default)).kind))), .t (.sc (.int .i64 (((l.getD i default)).n))), .t (.lst 2 (List.map attrT (((l.getD i default)).attrs))), .t (.lst 3 (List.map elemT (((l.getD i default)).elems)))])])
      (C := [(0:Int) ≤ (i : Int), (List.map dstepT l)[i]? = some (dstepT (l.getD i default))]) (by kernel_rfl) ?_ ?_
    · -- region 4
      refine ⟨?_, (elt_nat ?_), trivial⟩
      all_goals omega
    refine andThen_normal ?_
    refine Sim.seq ?_
    have hst := dlens_step (l := l) (i := i) (by omega) hv.1
    obtain ⟨hx, hx2, hx3⟩ := hd.at_ (k := i) (by omega)
    have hr := raw_at (d := l) (i := i) (by omega) r
    refine Sim.reg (orcs := []) (keys := [0, 5, 7, 8, 9, 10, 15]) (τ := [(40, 40), (65, 65)]) (nx := 97)
      (sl := [(0, .t (.lst 3 (List.map elemT r))), (5, .row 40 o.length), (7, .ptr 65 0), (8, .t (.lst 4 (List.map dstepT l))), (9, .t (.sc (.int .i64 (l.length : Int)))), (10, .t (.sc (.int .i64 (i : Int)))), (15, .t (.sc (.int .i64 (((l.getD i default)).kind))))]) (l := [(40, .row 3 false (List.map elemT o)), (65, .box [.t (.sc (.int .i64 (((l.getD i default)).kind))), .t (.sc (.int .i64 (((l.getD i default)).n))), .t (.lst 2 (List.map attrT (((l.getD i default)).attrs))), .t (.lst 3 (List.map elemT (((l.getD i default)).elems)))])])
      (C := []) (by kernel_rfl) ?_ ?_
    · -- region 5
      trivial
    refine andThen_normal ?_
    refine Sim.block ?_
    refine Sim.seq ?_
    refine Sim.reg (orcs := []) (keys := [0, 5, 7, 8, 9, 10, 15, 20]) (τ := [(40, 40), (65, 65)]) (nx := 113)
      (sl := [(0, .t (.lst 3 (List.map elemT r))), (5, .row 40 o.length), (7, .ptr 65 0), (8, .t (.lst 4 (List.map dstepT l))), (9, .t (.sc (.int .i64 (l.length : Int)))), (10, .t (.sc (.int .i64 (i : Int)))), (15, .t (.sc (.int .i64 (((l.getD i default)).kind)))), (20, .t (.sc (.bool ((((l.getD i default)).kind) == 0))))]) (l := [(40, .row 3 false (List.map elemT o)), (65, .box [.t (.sc (.int .i64 (((l.getD i default)).kind))), .t (.sc (.int .i64 (((l.getD i default)).n))), .t (.lst 2 (List.map attrT (((l.getD i default)).attrs))), .t (.lst 3 (List.map elemT (((l.getD i default)).elems)))])])
      (C := []) (by kernel_rfl) ?_ ?_
    · -- region 7
      trivial
    refine andThen_normal ?_
    refine Sim.cond (b := ((((l.getD i default)).kind) == 0)) (by kernel_rfl) (fun h7 => ?_) (fun h7 => ?_)
    · (try simp only [beq_iff_eq, beq_eq_false_iff_ne, ne_eq] at h7)
      refine Sim.seq ?_
      obtain ⟨s1, s2, s3, s4, s5, s6, s7, s8⟩ := hst
      rw [if_neg (by omega)] at s1 s2
      have hz : szD (l.getD i default) = (l.getD i default).n := by unfold szD; rw [if_neg (by omega)]
      have hl8 : (r.take (l.getD i default).n.toNat).length = (l.getD i default).n.toNat := by rw [List.length_take]; omega
      have hs8 : ∀ x ∈ r.take (l.getD i default).n.toNat, x.attrs.length + (l.getD i default).attrs.length < 1099511627776 := fun x hx => by have := I3.2.1 x (List.mem_of_mem_take hx); omega
      refine Sim.regD (by kernel_rfl) (orcs := [(4, ⟨some (.t (.lst 3 (List.map elemT (r.take (Int.toNat (((l.getD i default)).n)))))), none, none, none⟩), (7, ⟨none, none, none, some (⟨1, [], .t (.lst 3 (List.map elemT (List.map (chgE (((l.getD i default)).attrs)) (r.take (Int.toNat (((l.getD i default)).n)))))), []⟩)⟩), (8, ⟨some (.row 40 ((o ++ (List.map (chgE (((l.getD i default)).attrs)) (r.take (Int.toNat (((l.getD i default)).n))))).length)), some ([(40, .row 3 false (List.map elemT (o ++ (List.map (chgE (((l.getD i default)).attrs)) (r.take (Int.toNat (((l.getD i default)).n)))))))]), none, none⟩)]) (keys := [0, 5, 7, 8, 9, 10]) (τ := [(40, 40), (65, 65)]) (nx := 193)
        (sl := [(0, .t (.lst 3 (List.map elemT r))), (5, .row 40 ((o ++ (List.map (chgE (((l.getD i default)).attrs)) (r.take (Int.toNat (((l.getD i default)).n))))).length)), (7, .ptr 65 0), (8, .t (.lst 4 (List.map dstepT l))), (9, .t (.sc (.int .i64 (l.length : Int)))), (10, .t (.sc (.int .i64 (i : Int))))]) (l := [(40, .row 3 false (List.map elemT (o ++ (List.map (chgE (((l.getD i default)).attrs)) (r.take (Int.toNat (((l.getD i default)).n))))))), (65, .box [.t (.sc (.int .i64 (((l.getD i default)).kind))), .t (.sc (.int .i64 (((l.getD i default)).n))), .t (.lst 2 (List.map attrT (((l.getD i default)).attrs))), .t (.lst 3 (List.map elemT (((l.getD i default)).elems)))])])
        (C := [(0:Int) ≤ (((l.getD i default)).n), (((l.getD i default)).n) ≤ (((List.map elemT r).length : Nat) : Int), Weak (.t (.lst 3 ((List.map elemT r).take (Int.toNat (((l.getD i default)).n))))) (.t (.lst 3 (List.map elemT (r.take (Int.toNat (((l.getD i default)).n)))))), callable Try.prog 114 = true, FC Try.prog 114 [.t (.lst 3 (List.map elemT (r.take (Int.toNat (((l.getD i default)).n))))), .t (.lst 2 (List.map attrT (((l.getD i default)).attrs)))] emp (.t (.lst 3 (List.map elemT (List.map (chgE (((l.getD i default)).attrs)) (r.take (Int.toNat (((l.getD i default)).n))))))) (app emp []), (o.length : Nat) = (List.map elemT o).length, (o.length : Nat) + (List.map elemT (List.map (chgE (((l.getD i default)).attrs)) (r.take (Int.toNat (((l.getD i default)).n))))).length ≤ 1099511627776, Weak (.row 40 (o.length + (List.map elemT (List.map (chgE (((l.getD i default)).attrs)) (r.take (Int.toNat (((l.getD i default)).n))))).length)) (.row 40 ((o ++ (List.map (chgE (((l.getD i default)).attrs)) (r.take (Int.toNat (((l.getD i default)).n))))).length)), ([(40, .row 3 false (List.map elemT (o ++ (List.map (chgE (((l.getD i default)).attrs)) (r.take (Int.toNat (((l.getD i default)).n)))))))] : List (Nat × Ob)) = [(40, .row 3 false (List.map elemT o ++ List.map elemT (List.map (chgE (((l.getD i default)).attrs)) (r.take (Int.toNat (((l.getD i default)).n))))))]]) (by kernel_rfl) ?_ ?_
      · -- region 8
        refine ⟨?_, ?_, (Weak.of_eq sl_take), (by kernel_rfl), (fc_changed (r.take (Int.toNat (((l.getD i default)).n))) (((l.getD i default)).attrs) (by omega) (by assumption)), ?_, ?_, (Weak.of_eq (by simp)), (row_append rfl), trivial⟩
        all_goals (first | omega | with_reducible exact fun h => h | (intro hg hq; rw [hg, hq]; rfl) | (intro hq; rw [hq]; done) | (intro hq; rw [hq]; rfl) | ((try intro hg); (try simp [-List.getD_eq_getElem?_getD] at hg); (try simp only [List.length_map]); first | done | omega | rfl | (simp; done) | (simp; omega) | (simp [hg]; done) | (intro hq; simp [hg, hq]; done) | (intro hq; simp [hg, hq]; omega)))
      refine andThen_normal ?_
      refine Sim.reg (orcs := [(3, ⟨some (.t (.lst 3 (List.map elemT (r.drop (Int.toNat (((l.getD i default)).n)))))), none, none, none⟩)]) (keys := [0, 5, 8, 9, 10]) (τ := [(40, 40)]) (nx := 233)
        (sl := [(0, .t (.lst 3 (List.map elemT (r.drop (Int.toNat (((l.getD i default)).n)))))), (5, .row 40 ((o ++ (List.map (chgE (((l.getD i default)).attrs)) (r.take (Int.toNat (((l.getD i default)).n))))).length)), (8, .t (.lst 4 (List.map dstepT l))), (9, .t (.sc (.int .i64 (l.length : Int)))), (10, .t (.sc (.int .i64 (i : Int))))]) (l := [(40, .row 3 false (List.map elemT (o ++ (List.map (chgE (((l.getD i default)).attrs)) (r.take (Int.toNat (((l.getD i default)).n)))))))])
        (C := [(0:Int) ≤ (((l.getD i default)).n), (((l.getD i default)).n) ≤ (((List.map elemT r).length : Nat) : Int), Weak (.t (.lst 3 ((List.map elemT r).drop (Int.toNat (((l.getD i default)).n))))) (.t (.lst 3 (List.map elemT (r.drop (Int.toNat (((l.getD i default)).n))))))]) (by kernel_rfl) ?_ ?_
      · -- region 9
        refine ⟨?_, ?_, (Weak.of_eq sl_drop), trivial⟩
        all_goals (first | omega | with_reducible exact fun h => h | (intro hg hq; rw [hg, hq]; rfl) | (intro hq; rw [hq]; done) | (intro hq; rw [hq]; rfl) | ((try intro hg); (try simp [-List.getD_eq_getElem?_getD] at hg); (try simp only [List.length_map]); first | done | omega | rfl | (simp; done) | (simp; omega) | (simp [hg]; done) | (intro hq; simp [hg, hq]; done) | (intro hq; simp [hg, hq]; omega)))
      refine inBlk_normal ?_
      refine inBlk_normal ?_
      refine andThen_normal ?_
      refine Sim.reg (orcs := [(0, ⟨some (.t (.sc (.int .i64 ((i : Int) + 1)))), none, none, none⟩)]) (keys := [0, 5, 8, 9, 10]) (τ := [(40, 40)]) (nx := 249)
        (sl := [(0, .t (.lst 3 (List.map elemT (r.drop (Int.toNat (((l.getD i default)).n)))))), (5, .row 40 ((o ++ (List.map (chgE (((l.getD i default)).attrs)) (r.take (Int.toNat (((l.getD i default)).n))))).length)), (8, .t (.lst 4 (List.map dstepT l))), (9, .t (.sc (.int .i64 (l.length : Int)))), (10, .t (.sc (.int .i64 ((i : Int) + 1))))]) (l := [(40, .row 3 false (List.map elemT (o ++ (List.map (chgE (((l.getD i default)).attrs)) (r.take (Int.toNat (((l.getD i default)).n)))))))])
        (C := [Weak (.t (.sc (.int .i64 (IntKind.i64.wrap ((i : Int) + 1))))) (.t (.sc (.int .i64 ((i : Int) + 1))))]) (by kernel_rfl) ?_ ?_
      · -- region 12
        refine ⟨(Weak.of_eq (nw ?_)), trivial⟩
        all_goals omega
      refine andThen_normal ?_
      refine LoopSim.weaken (Le.ren (τ := [(40, 40)]) (keys := [0, 5, 8, 9, 10]) (nx := 41) (sl := [(0, .t (.lst 3 (List.map elemT (r.drop (Int.toNat (((l.getD i default)).n)))))), (5, .row 40 ((o ++ (List.map (chgE (((l.getD i default)).attrs)) (r.take (Int.toNat (((l.getD i default)).n))))).length)), (8, .t (.lst 4 (List.map dstepT l))), (9, .t (.sc (.int .i64 (l.length : Int)))), (10, .t (.sc (.int .i64 (((i + 1) : Nat) : Int))))]) (l := [(40, .row 3 false (List.map elemT (o ++ (List.map (chgE (((l.getD i default)).attrs)) (r.take (Int.toNat (((l.getD i default)).n)))))))]) (by kernel_rfl)) ?_
      refine ih3 ((r.drop (Int.toNat (((l.getD i default)).n))), (i + 1), (o ++ (List.map (chgE (((l.getD i default)).attrs)) (r.take (Int.toNat (((l.getD i default)).n)))))) ?_ ?_
      · -- back 3.1, invariant
        refine ⟨by omega, fun x hx => I3.2.1 x (List.mem_of_mem_drop hx), by (rw [List.length_drop]; omega), by (simp only [List.length_append, List.length_map]; omega), ?_⟩
        rw [I3.2.2.2.2, hr, if_neg (by omega), if_neg (by omega), List.append_assoc]
      · -- back 3.1, measure
        show l.length - (i + 1) < l.length - i; omega
    · (try simp only [beq_iff_eq, beq_eq_false_iff_ne, ne_eq] at h7)
      refine Sim.seq ?_
      refine Sim.reg (orcs := []) (keys := [0, 5, 7, 8, 9, 10, 35]) (τ := [(40, 40), (65, 65)]) (nx := 129)
        (sl := [(0, .t (.lst 3 (List.map elemT r))), (5, .row 40 o.length), (7, .ptr 65 0), (8, .t (.lst 4 (List.map dstepT l))), (9, .t (.sc (.int .i64 (l.length : Int)))), (10, .t (.sc (.int .i64 (i : Int)))), (35, .t (.sc (.bool ((((l.getD i default)).kind) == 1))))]) (l := [(40, .row 3 false (List.map elemT o)), (65, .box [.t (.sc (.int .i64 (((l.getD i default)).kind))), .t (.sc (.int .i64 (((l.getD i default)).n))), .t (.lst 2 (List.map attrT (((l.getD i default)).attrs))), .t (.lst 3 (List.map elemT (((l.getD i default)).elems)))])])
        (C := []) (by kernel_rfl) ?_ ?_
      · -- region 10
        trivial
      refine andThen_normal ?_
      refine Sim.cond (b := ((((l.getD i default)).kind) == 1)) (by kernel_rfl) (fun h10 => ?_) (fun h10 => ?_)
      · (try simp only [beq_iff_eq, beq_eq_false_iff_ne, ne_eq] at h10)
        obtain ⟨s1, s2, s3, s4, s5, s6, s7, s8⟩ := hst
        rw [if_pos (by omega)] at s1
        rw [if_neg (by omega)] at s2
        have hz : szD (l.getD i default) = (l.getD i default).elems.length := by unfold szD; rw [if_pos (by omega)]
        refine Sim.reg (orcs := [(3, ⟨none, none, none, some (⟨1, [], .t (.lst 3 (List.map elemT (((l.getD i default)).elems))), []⟩)⟩), (4, ⟨some (.row 40 ((o ++ (((l.getD i default)).elems)).length)), some ([(40, .row 3 false (List.map elemT (o ++ (((l.getD i default)).elems))))]), none, none⟩)]) (keys := [0, 5, 8, 9, 10]) (τ := [(40, 40)]) (nx := 177)
          (sl := [(0, .t (.lst 3 (List.map elemT r))), (5, .row 40 ((o ++ (((l.getD i default)).elems)).length)), (8, .t (.lst 4 (List.map dstepT l))), (9, .t (.sc (.int .i64 (l.length : Int)))), (10, .t (.sc (.int .i64 (i : Int))))]) (l := [(40, .row 3 false (List.map elemT (o ++ (((l.getD i default)).elems))))])
          (C := [callable Try.prog 137 = true, FC Try.prog 137 [.t (.lst 3 (List.map elemT (((l.getD i default)).elems)))] emp (.t (.lst 3 (List.map elemT (((l.getD i default)).elems)))) (app emp []), (o.length : Nat) = (List.map elemT o).length, (o.length : Nat) + (List.map elemT (((l.getD i default)).elems)).length ≤ 1099511627776, Weak (.row 40 (o.length + (List.map elemT (((l.getD i default)).elems)).length)) (.row 40 ((o ++ (((l.getD i default)).elems)).length)), ([(40, .row 3 false (List.map elemT (o ++ (((l.getD i default)).elems))))] : List (Nat × Ob)) = [(40, .row 3 false (List.map elemT o ++ List.map elemT (((l.getD i default)).elems)))]]) (by kernel_rfl) ?_ ?_
        · -- region 11
          refine ⟨(by kernel_rfl), (fc_copy (((l.getD i default)).elems) (by omega) (by assumption)), ?_, ?_, (Weak.of_eq (by simp)), (row_append rfl), trivial⟩
          all_goals (first | omega | with_reducible exact fun h => h | (intro hg hq; rw [hg, hq]; rfl) | (intro hq; rw [hq]; done) | (intro hq; rw [hq]; rfl) | ((try intro hg); (try simp [-List.getD_eq_getElem?_getD] at hg); (try simp only [List.length_map]); first | done | omega | rfl | (simp; done) | (simp; omega) | (simp [hg]; done) | (intro hq; simp [hg, hq]; done) | (intro hq; simp [hg, hq]; omega)))
        refine inBlk_normal ?_
        refine inBlk_normal ?_
        refine andThen_normal ?_
        refine Sim.reg (orcs := [(0, ⟨some (.t (.sc (.int .i64 ((i : Int) + 1)))), none, none, none⟩)]) (keys := [0, 5, 8, 9, 10]) (τ := [(40, 40)]) (nx := 193)
          (sl := [(0, .t (.lst 3 (List.map elemT r))), (5, .row 40 ((o ++ (((l.getD i default)).elems)).length)), (8, .t (.lst 4 (List.map dstepT l))), (9, .t (.sc (.int .i64 (l.length : Int)))), (10, .t (.sc (.int .i64 ((i : Int) + 1))))]) (l := [(40, .row 3 false (List.map elemT (o ++ (((l.getD i default)).elems))))])
          (C := [Weak (.t (.sc (.int .i64 (IntKind.i64.wrap ((i : Int) + 1))))) (.t (.sc (.int .i64 ((i : Int) + 1))))]) (by kernel_rfl) ?_ ?_
        · -- region 12
          refine ⟨(Weak.of_eq (nw ?_)), trivial⟩
          all_goals omega
        refine andThen_normal ?_
        refine LoopSim.weaken (Le.ren (τ := [(40, 40)]) (keys := [0, 5, 8, 9, 10]) (nx := 41) (sl := [(0, .t (.lst 3 (List.map elemT r))), (5, .row 40 ((o ++ (((l.getD i default)).elems)).length)), (8, .t (.lst 4 (List.map dstepT l))), (9, .t (.sc (.int .i64 (l.length : Int)))), (10, .t (.sc (.int .i64 (((i + 1) : Nat) : Int))))]) (l := [(40, .row 3 false (List.map elemT (o ++ (((l.getD i default)).elems))))]) (by kernel_rfl)) ?_
        refine ih3 (r, (i + 1), (o ++ (((l.getD i default)).elems))) ?_ ?_
        · -- back 3.2, invariant
          refine ⟨by omega, I3.2.1, by omega, by (simp only [List.length_append]; omega), ?_⟩
          rw [I3.2.2.2.2, hr, if_pos (by omega), List.append_assoc]
        · -- back 3.2, measure
          show l.length - (i + 1) < l.length - i; omega
      · (try simp only [beq_iff_eq, beq_eq_false_iff_ne, ne_eq] at h10)
        obtain ⟨s1, s2, s3, s4, s5, s6, s7, s8⟩ := hst
        rw [if_neg (by omega)] at s1
        rw [if_pos (by omega)] at s2
        refine Sim.reg (orcs := [(3, ⟨some (.t (.lst 3 (List.map elemT (r.drop (Int.toNat (((l.getD i default)).n)))))), none, none, none⟩)]) (keys := [0, 5, 8, 9, 10]) (τ := [(40, 40)]) (nx := 169)
          (sl := [(0, .t (.lst 3 (List.map elemT (r.drop (Int.toNat (((l.getD i default)).n)))))), (5, .row 40 o.length), (8, .t (.lst 4 (List.map dstepT l))), (9, .t (.sc (.int .i64 (l.length : Int)))), (10, .t (.sc (.int .i64 (i : Int))))]) (l := [(40, .row 3 false (List.map elemT o))])
          (C := [(0:Int) ≤ (((l.getD i default)).n), (((l.getD i default)).n) ≤ (((List.map elemT r).length : Nat) : Int), Weak (.t (.lst 3 ((List.map elemT r).drop (Int.toNat (((l.getD i default)).n))))) (.t (.lst 3 (List.map elemT (r.drop (Int.toNat (((l.getD i default)).n))))))]) (by kernel_rfl) ?_ ?_
        · -- region 6
          refine ⟨?_, ?_, (Weak.of_eq sl_drop), trivial⟩
          all_goals (first | omega | with_reducible exact fun h => h | (intro hg hq; rw [hg, hq]; rfl) | (intro hq; rw [hq]; done) | (intro hq; rw [hq]; rfl) | ((try intro hg); (try simp [-List.getD_eq_getElem?_getD] at hg); (try simp only [List.length_map]); first | done | omega | rfl | (simp; done) | (simp; omega) | (simp [hg]; done) | (intro hq; simp [hg, hq]; done) | (intro hq; simp [hg, hq]; omega)))
        refine inBlk_normal ?_
        refine inBlk_normal ?_
        refine andThen_normal ?_
        refine Sim.reg (orcs := [(0, ⟨some (.t (.sc (.int .i64 ((i : Int) + 1)))), none, none, none⟩)]) (keys := [0, 5, 8, 9, 10]) (τ := [(40, 40)]) (nx := 185)
          (sl := [(0, .t (.lst 3 (List.map elemT (r.drop (Int.toNat (((l.getD i default)).n)))))), (5, .row 40 o.length), (8, .t (.lst 4 (List.map dstepT l))), (9, .t (.sc (.int .i64 (l.length : Int)))), (10, .t (.sc (.int .i64 ((i : Int) + 1))))]) (l := [(40, .row 3 false (List.map elemT o))])
          (C := [Weak (.t (.sc (.int .i64 (IntKind.i64.wrap ((i : Int) + 1))))) (.t (.sc (.int .i64 ((i : Int) + 1))))]) (by kernel_rfl) ?_ ?_
        · -- region 12
          refine ⟨(Weak.of_eq (nw ?_)), trivial⟩
          all_goals omega
        refine andThen_normal ?_
        refine LoopSim.weaken (Le.ren (τ := [(40, 40)]) (keys := [0, 5, 8, 9, 10]) (nx := 41) (sl := [(0, .t (.lst 3 (List.map elemT (r.drop (Int.toNat (((l.getD i default)).n)))))), (5, .row 40 o.length), (8, .t (.lst 4 (List.map dstepT l))), (9, .t (.sc (.int .i64 (l.length : Int)))), (10, .t (.sc (.int .i64 (((i + 1) : Nat) : Int))))]) (l := [(40, .row 3 false (List.map elemT o))]) (by kernel_rfl)) ?_
        refine ih3 ((r.drop (Int.toNat (((l.getD i default)).n))), (i + 1), o) ?_ ?_
        · -- back 3.3, invariant
          refine ⟨by omega, fun x hx => I3.2.1 x (List.mem_of_mem_drop hx), by (rw [List.length_drop]; omega), by omega, ?_⟩
          rw [I3.2.2.2.2, hr, if_neg (by omega), if_pos (by omega)]
        · -- back 3.3, measure
          show l.length - (i + 1) < l.length - i; omega
  · (try simp only [decide_eq_true_eq, decide_eq_false_iff_not, Int.not_lt, Int.not_le] at h3)
    refine Sim.exit ?_
    refine andThen_exit ?_
    refine andThen_exit ?_
    refine inBlk_same ?_
    refine andThen_normal ?_
    refine Sim.seq ?_
    refine Sim.reg (orcs := []) (keys := [4]) (τ := [(40, 40)]) (nx := 65)
      (sl := [(4, .row 40 o.length)]) (l := [(40, .row 3 false (List.map elemT o))])
      (C := []) (by kernel_rfl) ?_ ?_
    · -- region 13
      trivial
    refine andThen_normal ?_
    refine Sim.ret ?_
    refine Fin.le (Le.freeze (t := 4) (v' := .t (.lst 3 (List.map elemT o))) (g := [(40, .row 3 true (List.map elemT o))]) (p := [(o.length : Nat) = (List.map elemT o).length]) rfl (by kernel_rfl) ⟨(by (first | omega | with_reducible exact fun h => h | (intro hq; rw [hq]; done) | (intro hq; rw [hq]; rfl) | (simp only [List.length_map]; done) | (simp only [List.length_map]; omega) | (simp; omega) | (simp; done))), trivial⟩ (by kernel_rfl)) ?_
    refine Fin.mk2 (.inl rfl) (τ := []) (keys := [4]) (nx := 65) (sl := [(4, .t (.lst 3 (List.map elemT o)))]) (l := []) (res' := .t (.lst 3 (List.map elemT o))) (by kernel_rfl) ?_ (by kernel_rfl) ?_
    · -- end 1, objects
      first | done | rfl
    · -- end 1, result
      have e1 : ((rawD f l)) = o := by
        rw [I3.2.2.2.2, List.drop_eq_nil_of_le (by omega)]; simp [exD, applyU]
      show AVal.t (.lst 3 (List.map elemT o)) = .t (.lst 3 (List.map elemT (rawD f l)))
      rw [e1]
      try rfl

theorem fc_dFits (f : List Elem) (l : List DStep) (hp : partE f 0 = 0) (hv : DValid l) (hd : DN 400000000000 l) (hlen : oldD l = f.length) : FC Try.prog 107 [.t (.lst 3 (List.map elemT f)), .t (.lst 4 (List.map dstepT l))] (app emp []) (.t (.sc (.int .i64 0))) (app emp []) := by
  refine FC.of_sim (fn := Try.f107) (nx := 0) (by kernel_rfl) rfl (by kernel_rfl) rfl ?_
  show Sim _ _ _ _ ⟨[(0, .t (.lst 3 (List.map elemT f))), (1, .t (.lst 4 (List.map dstepT l)))], app emp [], 0⟩ _
  refine Sim.len (t := 0) (k := 3) rfl (fun hl0 => ?_)
  rw [List.length_map] at hl0
  refine Sim.len (t := 1) (k := 4) rfl (fun hl1 => ?_)
  rw [List.length_map] at hl1
  have hc := checkD_iff.2 hv
  refine Sim.seq ?_
  refine Sim.reg (orcs := []) (keys := [0, 1]) (τ := []) (nx := 8)
    (sl := [(0, .t (.lst 3 (List.map elemT f))), (1, .t (.lst 4 (List.map dstepT l)))]) (l := [])
    (C := []) (by kernel_rfl) ?_ ?_
  · -- region 0
    trivial
  refine andThen_normal ?_
  refine Sim.seq ?_
  refine Sim.seq ?_
  refine Sim.reg (orcs := [(1, ⟨none, none, none, some (⟨0, [], .t (.sc (.int .i64 (partE f 0))), []⟩)⟩)]) (keys := [0, 1, 5]) (τ := []) (nx := 32)
    (sl := [(0, .t (.lst 3 (List.map elemT f))), (1, .t (.lst 4 (List.map dstepT l))), (5, .t (.sc (.int .i64 (partE f 0))))]) (l := [])
    (C := [callable Try.prog 115 = true, FC Try.prog 115 [.t (.lst 3 (List.map elemT f))] emp (.t (.sc (.int .i64 (partE f 0)))) emp]) (by kernel_rfl) ?_ ?_
  · -- region 1
    exact ⟨(by kernel_rfl), (fc_checkPart f), trivial⟩
  refine andThen_normal ?_
  refine Sim.seq ?_
  refine Sim.reg (orcs := []) (keys := [0, 1, 5, 12]) (τ := []) (nx := 48)
    (sl := [(0, .t (.lst 3 (List.map elemT f))), (1, .t (.lst 4 (List.map dstepT l))), (5, .t (.sc (.int .i64 (partE f 0)))), (12, .t (.sc (.bool ((partE f 0) != 0))))]) (l := [])
    (C := []) (by kernel_rfl) ?_ ?_
  · -- region 2
    trivial
  refine andThen_normal ?_
  refine Sim.cond (b := ((partE f 0) != 0)) (by kernel_rfl) (fun h2 => ?_) (fun h2 => ?_)
  · (try simp only [bne_iff_ne, bne_eq_false_iff_eq, ne_eq] at h2)
    exfalso
    omega
  · (try simp only [bne_iff_ne, bne_eq_false_iff_eq, ne_eq] at h2)
    refine Sim.skip ?_
    refine andThen_normal ?_
    refine Sim.seq ?_
    refine Sim.seq ?_
    refine Sim.reg (orcs := [(1, ⟨none, none, none, some (⟨0, [], .t (.sc (.int .i64 (checkD l))), []⟩)⟩)]) (keys := [0, 1, 6]) (τ := []) (nx := 72)
      (sl := [(0, .t (.lst 3 (List.map elemT f))), (1, .t (.lst 4 (List.map dstepT l))), (6, .t (.sc (.int .i64 (checkD l))))]) (l := [])
      (C := [callable Try.prog 109 = true, FC Try.prog 109 [.t (.lst 4 (List.map dstepT l))] emp (.t (.sc (.int .i64 (checkD l)))) emp]) (by kernel_rfl) ?_ ?_
    · -- region 4
      exact ⟨(by kernel_rfl), (fc_dCheck l (by assumption)), trivial⟩
    refine andThen_normal ?_
    refine Sim.seq ?_
    refine Sim.reg (orcs := []) (keys := [0, 1, 6, 17]) (τ := []) (nx := 88)
      (sl := [(0, .t (.lst 3 (List.map elemT f))), (1, .t (.lst 4 (List.map dstepT l))), (6, .t (.sc (.int .i64 (checkD l)))), (17, .t (.sc (.bool ((checkD l) != 0))))]) (l := [])
      (C := []) (by kernel_rfl) ?_ ?_
    · -- region 5
      trivial
    refine andThen_normal ?_
    refine Sim.cond (b := ((checkD l) != 0)) (by kernel_rfl) (fun h5 => ?_) (fun h5 => ?_)
    · (try simp only [bne_iff_ne, bne_eq_false_iff_eq, ne_eq] at h5)
      exfalso
      omega
    · (try simp only [bne_iff_ne, bne_eq_false_iff_eq, ne_eq] at h5)
      refine Sim.skip ?_
      refine andThen_normal ?_
      refine Sim.seq ?_
      refine Sim.seq ?_
      refine Sim.reg (orcs := [(1, ⟨none, none, none, some (⟨0, [], .tup [.t (.sc (.int .i64 (oldD l))), .t (.sc (.int .i64 (newD l)))], []⟩)⟩)]) (keys := [0, 7]) (τ := []) (nx := 144)
        (sl := [(0, .t (.lst 3 (List.map elemT f))), (7, .t (.sc (.int .i64 (oldD l))))]) (l := [])
        (C := [callable Try.prog 110 = true, FC Try.prog 110 [.t (.lst 4 (List.map dstepT l))] emp (.tup [.t (.sc (.int .i64 (oldD l))), .t (.sc (.int .i64 (newD l)))]) emp]) (by kernel_rfl) ?_ ?_
      · -- region 7
        exact ⟨(by kernel_rfl), (fc_dLens l (by assumption)), trivial⟩
      refine andThen_normal ?_
      refine Sim.seq ?_
      refine Sim.reg (orcs := [(2, ⟨some (.t (.sc (.int .i64 (f.length : Int)))), none, none, none⟩)]) (keys := [27]) (τ := []) (nx := 176)
        (sl := [(27, .t (.sc (.bool ((oldD l) != (f.length : Int)))))]) (l := [])
        (C := [Weak (.t (.sc (.int .i64 ((List.map elemT f).length : Int)))) (.t (.sc (.int .i64 (f.length : Int))))]) (by kernel_rfl) ?_ ?_
      · -- region 8
        exact ⟨(Weak.of_eq len_map), trivial⟩
      refine andThen_normal ?_
      refine Sim.cond (b := ((oldD l) != (f.length : Int))) (by kernel_rfl) (fun h8 => ?_) (fun h8 => ?_)
      · (try simp only [bne_iff_ne, bne_eq_false_iff_eq, ne_eq] at h8)
        exfalso
        omega
      · (try simp only [bne_iff_ne, bne_eq_false_iff_eq, ne_eq] at h8)
        refine Sim.skip ?_
        refine andThen_normal ?_
        refine Sim.seq ?_
        refine Sim.reg (orcs := []) (keys := [4]) (τ := []) (nx := 184)
          (sl := [(4, .t (.sc (.int .i64 0)))]) (l := [])
          (C := []) (by kernel_rfl) ?_ ?_
        · -- region 10
          trivial
        refine andThen_normal ?_
        refine Sim.ret ?_
        refine Fin.mk2 (.inl rfl) (τ := []) (keys := [4]) (nx := 184) (sl := [(4, .t (.sc (.int .i64 0)))]) (l := []) (res' := .t (.sc (.int .i64 0))) (by kernel_rfl) ?_ (by kernel_rfl) ?_
        · -- end 1, objects
          first | done | rfl
        · -- end 1, result
          first | done | rfl

theorem fc_dApply (f : List Elem) (l : List DStep) (hp : partE f 0 = 0) (hv : DValid l) (hd : DN 400000000000 l) (ha : AN 400000000000 f) (hlen : oldD l = f.length) : FC Try.prog 53 [.t (.lst 3 (List.map elemT f)), .t (.lst 4 (List.map dstepT l))] (app emp []) (.tup [.t (.lst 3 (List.map elemT (rawD f l))), .t (.sc (.int .i64 0))]) (app emp []) := by
  refine FC.of_sim (fn := Try.f53) (nx := 0) (by kernel_rfl) rfl (by kernel_rfl) rfl ?_
  show Sim _ _ _ _ ⟨[(0, .t (.lst 3 (List.map elemT f))), (1, .t (.lst 4 (List.map dstepT l)))], app emp [], 0⟩ _
  refine Sim.len (t := 0) (k := 3) rfl (fun hl0 => ?_)
  rw [List.length_map] at hl0
  refine Sim.len (t := 1) (k := 4) rfl (fun hl1 => ?_)
  rw [List.length_map] at hl1
  refine Sim.seq ?_
  refine Sim.reg (orcs := []) (keys := [0, 1]) (τ := []) (nx := 16)
    (sl := [(0, .t (.lst 3 (List.map elemT f))), (1, .t (.lst 4 (List.map dstepT l)))]) (l := [])
    (C := []) (by kernel_rfl) ?_ ?_
  · -- region 0
    trivial
  refine andThen_normal ?_
  refine Sim.seq ?_
  refine Sim.seq ?_
  refine Sim.reg (orcs := [(2, ⟨none, none, none, some (⟨0, [], .t (.sc (.int .i64 0)), []⟩)⟩)]) (keys := [0, 1, 6]) (τ := []) (nx := 48)
    (sl := [(0, .t (.lst 3 (List.map elemT f))), (1, .t (.lst 4 (List.map dstepT l))), (6, .t (.sc (.int .i64 0)))]) (l := [])
    (C := [callable Try.prog 107 = true, FC Try.prog 107 [.t (.lst 3 (List.map elemT f)), .t (.lst 4 (List.map dstepT l))] emp (.t (.sc (.int .i64 0))) emp]) (by kernel_rfl) ?_ ?_
  · -- region 1
    exact ⟨(by kernel_rfl), (fc_dFits f l (by assumption) (by assumption) (by assumption) (by omega)), trivial⟩
  refine andThen_normal ?_
  refine Sim.seq ?_
  refine Sim.reg (orcs := []) (keys := [0, 1, 6, 11]) (τ := []) (nx := 64)
    (sl := [(0, .t (.lst 3 (List.map elemT f))), (1, .t (.lst 4 (List.map dstepT l))), (6, .t (.sc (.int .i64 0))), (11, .t (.sc (.bool false)))]) (l := [])
    (C := []) (by kernel_rfl) ?_ ?_
  · -- region 2
    trivial
  refine andThen_normal ?_
  refine Sim.cond (b := false) (by kernel_rfl) (fun h2 => ?_) (fun h2 => ?_)
  · cases h2
  · skip
    refine Sim.skip ?_
    refine andThen_normal ?_
    refine Sim.seq ?_
    refine Sim.reg (orcs := [(2, ⟨none, none, none, some (⟨1, [], .t (.lst 3 (List.map elemT (rawD f l))), []⟩)⟩)]) (keys := [4, 5]) (τ := []) (nx := 104)
      (sl := [(4, .t (.lst 3 (List.map elemT (rawD f l)))), (5, .t (.sc (.int .i64 0)))]) (l := [])
      (C := [callable Try.prog 108 = true, FC Try.prog 108 [.t (.lst 3 (List.map elemT f)), .t (.lst 4 (List.map dstepT l))] emp (.t (.lst 3 (List.map elemT (rawD f l)))) (app emp [])]) (by kernel_rfl) ?_ ?_
    · -- region 4
      exact ⟨(by kernel_rfl), (fc_dRaw f l (by assumption) (by assumption) (by assumption) (by omega)), trivial⟩
    refine andThen_normal ?_
    refine Sim.ret ?_
    refine Fin.mk2 (.inl rfl) (τ := []) (keys := [4, 5]) (nx := 104) (sl := [(4, .t (.lst 3 (List.map elemT (rawD f l)))), (5, .t (.sc (.int .i64 0)))]) (l := []) (res' := .tup [.t (.lst 3 (List.map elemT (rawD f l))), .t (.sc (.int .i64 0))]) (by kernel_rfl) ?_ (by kernel_rfl) ?_
    · -- end 1, objects
      first | done | rfl
    · -- end 1, result
      first | done | rfl

def DSz (l : List DStep) : Prop := ∀ s ∈ l, Szd s.attrs ∧ SzE s.elems
theorem DSz.at_ {l : List DStep} (h : DSz l) {k : Nat} (hk : k < l.length) : Szd (l.getD k default).attrs ∧ SzE (l.getD k default).elems := by
  refine h _ ?_
  rw [show l.getD k default = l[k] by simp [List.getD, List.getElem?_eq_getElem hk]]
  exact List.getElem_mem hk

theorem fc_stepR (x : DStep) (hz : Szd x.attrs) (hz2 : SzE x.elems) : FC Try.prog 106 [.t (dstepT x)] (app emp []) (.t (.sc (.int .i64 (stepD x)))) (app emp []) := by
  refine FC.of_sim (fn := Try.f106) (nx := 0) (by kernel_rfl) rfl (by kernel_rfl) rfl ?_
  show Sim _ _ _ _ ⟨[(0, .t (dstepT x))], app emp [], 0⟩ _
  refine Sim.seq ?_
  refine Sim.reg (orcs := []) (keys := [1]) (τ := [(0, 0)]) (nx := 16)
    (sl := [(1, .ptr 0 0)]) (l := [(0, .box [.t (.sc (.int .i64 x.kind)), .t (.sc (.int .i64 x.n)), .t (.lst 2 (List.map attrT x.attrs)), .t (.lst 3 (List.map elemT x.elems))])])
    (C := []) (by kernel_rfl) ?_ ?_
  · -- region 0
    trivial
  refine andThen_normal ?_
  refine Sim.seq ?_
  refine Sim.seq ?_
  refine Sim.reg (orcs := [(2, ⟨none, none, none, some (⟨0, [], .t (.sc (.bool (decide (0 ≤ x.kind ∧ x.kind ≤ 2)))), []⟩)⟩)]) (keys := [1, 6]) (τ := [(0, 0)]) (nx := 48)
    (sl := [(1, .ptr 0 0), (6, .t (.sc (.bool (!(decide (0 ≤ x.kind ∧ x.kind ≤ 2))))))]) (l := [(0, .box [.t (.sc (.int .i64 x.kind)), .t (.sc (.int .i64 x.n)), .t (.lst 2 (List.map attrT x.attrs)), .t (.lst 3 (List.map elemT x.elems))])])
    (C := [callable Try.prog 57 = true, FC Try.prog 57 [.t (.sc (.int .i64 x.kind)), .t (.sc (.int .i64 0)), .t (.sc (.int .i64 2))] emp (.t (.sc (.bool (decide (0 ≤ x.kind ∧ x.kind ≤ 2))))) emp]) (by kernel_rfl) ?_ ?_
  · -- region 1
    exact ⟨(by kernel_rfl), (fc_in x.kind 0 2), trivial⟩
  refine andThen_normal ?_
  refine Sim.cond (b := !(decide (0 ≤ x.kind ∧ x.kind ≤ 2))) (by kernel_rfl) (fun h1 => ?_) (fun h1 => ?_)
  · (try simp only [decide_eq_true_eq, decide_eq_false_iff_not, Int.not_lt, Int.not_le, Bool.not_eq_true', Bool.not_eq_false'] at h1)
    refine Sim.seq ?_
    refine Sim.reg (orcs := []) (keys := [2]) (τ := []) (nx := 56)
      (sl := [(2, .t (.sc (.int .i64 8)))]) (l := [])
      (C := []) (by kernel_rfl) ?_ ?_
    · -- region 2
      trivial
    refine andThen_normal ?_
    refine Sim.ret ?_
    refine andThen_ret ?_
    refine Fin.mk2 (.inl rfl) (τ := []) (keys := [2]) (nx := 56) (sl := [(2, .t (.sc (.int .i64 8)))]) (l := []) (res' := .t (.sc (.int .i64 8))) (by kernel_rfl) ?_ (by kernel_rfl) ?_
    · -- end 1, objects
      first | done | rfl
    · -- end 1, result
      have e1 : ((stepD x) : Int) = 8 := by
        (try rw [errA_eq true x.attrs _ 0 rfl]); unfold stepD; ((repeat' split) <;> first | rfl | omega | (simp_all; done) | (simp_all; omega))
      show AVal.t (.sc (.int .i64 8)) = .t (.sc (.int .i64 (stepD x)))
      rw [e1]
      try rfl
  · (try simp only [decide_eq_true_eq, decide_eq_false_iff_not, Int.not_lt, Int.not_le, Bool.not_eq_true', Bool.not_eq_false'] at h1)
    refine Sim.skip ?_
    refine andThen_normal ?_
    refine Sim.seq ?_
    refine Sim.seq ?_
    refine Sim.reg (orcs := []) (keys := [1, 9]) (τ := [(0, 0)]) (nx := 72)
      (sl := [(1, .ptr 0 0), (9, .t (.sc (.bool (x.kind == 1))))]) (l := [(0, .box [.t (.sc (.int .i64 x.kind)), .t (.sc (.int .i64 x.n)), .t (.lst 2 (List.map attrT x.attrs)), .t (.lst 3 (List.map elemT x.elems))])])
      (C := []) (by kernel_rfl) ?_ ?_
    · -- region 3
      trivial
    refine andThen_normal ?_
    refine Sim.cond (b := (x.kind == 1)) (by kernel_rfl) (fun h3 => ?_) (fun h3 => ?_)
    · (try simp only [beq_iff_eq, beq_eq_false_iff_ne, ne_eq] at h3)
      refine Sim.seq ?_
      refine Sim.seq ?_
      refine Sim.reg (orcs := [(6, ⟨some (.t (.sc (.int .i64 (x.attrs.length : Int)))), none, none, none⟩)]) (keys := [1, 18]) (τ := [(0, 0)]) (nx := 144)
        (sl := [(1, .ptr 0 0), (18, .t (.sc (.bool ((x.n != 0) || decide ((x.attrs.length : Int) > 0)))))]) (l := [(0, .box [.t (.sc (.int .i64 x.kind)), .t (.sc (.int .i64 x.n)), .t (.lst 2 (List.map attrT x.attrs)), .t (.lst 3 (List.map elemT x.elems))])])
        (C := [(!(x.n != 0)) = true → (!(x.n != 0)) = true, (!(x.n != 0)) = true → (!(x.n != 0)) = true, (!(x.n != 0)) = true → Weak (.t (.sc (.int .i64 ((List.map attrT x.attrs).length : Int)))) (.t (.sc (.int .i64 (x.attrs.length : Int)))), (!(x.n != 0)) = true → (!(x.n != 0)) = true, (x.n != 0) = false → (!(x.n != 0)) = true]) (by kernel_rfl) ?_ ?_
      · -- region 4
        refine ⟨?_, ?_, (fun hg => by (try simp only [Bool.not_eq_true', Bool.not_eq_false', bne_iff_ne, bne_eq_false_iff_eq, ne_eq] at hg); exact (Weak.of_eq len_map)), ?_, ?_, trivial⟩
        all_goals (first | omega | with_reducible exact fun h => h | (intro hg hq; rw [hg, hq]; rfl) | (intro hq; rw [hq]; done) | (intro hq; rw [hq]; rfl) | ((try intro hg); (try simp [-List.getD_eq_getElem?_getD] at hg); (try simp only [List.length_map]); first | done | omega | rfl | (simp; done) | (simp; omega) | (simp [hg]; done) | (intro hq; simp [hg, hq]; done) | (intro hq; simp [hg, hq]; omega)))
      refine andThen_normal ?_
      refine Sim.cond (b := ((x.n != 0) || decide ((x.attrs.length : Int) > 0))) (by kernel_rfl) (fun h4 => ?_) (fun h4 => ?_)
      · (try simp only [decide_eq_true_eq, decide_eq_false_iff_not, Int.not_lt, Int.not_le, gt_iff_lt, Bool.or_eq_true, Bool.or_eq_false_iff, bne_iff_ne, bne_eq_false_iff_eq, ne_eq] at h4)
        refine Sim.seq ?_
        refine Sim.reg (orcs := []) (keys := [2]) (τ := []) (nx := 152)
          (sl := [(2, .t (.sc (.int .i64 4)))]) (l := [])
          (C := []) (by kernel_rfl) ?_ ?_
        · -- region 5
          trivial
        refine andThen_normal ?_
        refine Sim.ret ?_
        refine andThen_ret ?_
        refine andThen_ret ?_
        refine Fin.mk2 (.inl rfl) (τ := []) (keys := [2]) (nx := 152) (sl := [(2, .t (.sc (.int .i64 4)))]) (l := []) (res' := .t (.sc (.int .i64 4))) (by kernel_rfl) ?_ (by kernel_rfl) ?_
        · -- end 2, objects
          first | done | rfl
        · -- end 2, result
          have e2 : ((stepD x) : Int) = 4 := by
            (try rw [errA_eq true x.attrs _ 0 rfl]); unfold stepD; ((repeat' split) <;> first | rfl | omega | (simp_all; done) | (simp_all; omega))
          show AVal.t (.sc (.int .i64 4)) = .t (.sc (.int .i64 (stepD x)))
          rw [e2]
          try rfl
      · (try simp only [decide_eq_true_eq, decide_eq_false_iff_not, Int.not_lt, Int.not_le, gt_iff_lt, Bool.or_eq_true, Bool.or_eq_false_iff, bne_iff_ne, bne_eq_false_iff_eq, ne_eq] at h4)
        refine Sim.skip ?_
        refine andThen_normal ?_
        refine Sim.seq ?_
        refine Sim.seq ?_
        refine Sim.reg (orcs := [(2, ⟨some (.t (.sc (.int .i64 (x.elems.length : Int)))), none, none, none⟩)]) (keys := [1, 22]) (τ := [(0, 0)]) (nx := 176)
          (sl := [(1, .ptr 0 0), (22, .t (.sc (.bool ((x.elems.length : Int) == 0))))]) (l := [(0, .box [.t (.sc (.int .i64 x.kind)), .t (.sc (.int .i64 x.n)), .t (.lst 2 (List.map attrT x.attrs)), .t (.lst 3 (List.map elemT x.elems))])])
          (C := [Weak (.t (.sc (.int .i64 ((List.map elemT x.elems).length : Int)))) (.t (.sc (.int .i64 (x.elems.length : Int))))]) (by kernel_rfl) ?_ ?_
        · -- region 6
          exact ⟨(Weak.of_eq len_map), trivial⟩
        refine andThen_normal ?_
        refine Sim.cond (b := ((x.elems.length : Int) == 0)) (by kernel_rfl) (fun h6 => ?_) (fun h6 => ?_)
        · (try simp only [beq_iff_eq, beq_eq_false_iff_ne, ne_eq] at h6)
          refine Sim.seq ?_
          refine Sim.reg (orcs := []) (keys := [2]) (τ := []) (nx := 184)
            (sl := [(2, .t (.sc (.int .i64 11)))]) (l := [])
            (C := []) (by kernel_rfl) ?_ ?_
          · -- region 7
            trivial
          refine andThen_normal ?_
          refine Sim.ret ?_
          refine andThen_ret ?_
          refine andThen_ret ?_
          refine Fin.mk2 (.inl rfl) (τ := []) (keys := [2]) (nx := 184) (sl := [(2, .t (.sc (.int .i64 11)))]) (l := []) (res' := .t (.sc (.int .i64 11))) (by kernel_rfl) ?_ (by kernel_rfl) ?_
          · -- end 3, objects
            first | done | rfl
          · -- end 3, result
            have e3 : ((stepD x) : Int) = 11 := by
              (try rw [errA_eq true x.attrs _ 0 rfl]); unfold stepD; ((repeat' split) <;> first | rfl | omega | (simp_all; done) | (simp_all; omega))
            show AVal.t (.sc (.int .i64 11)) = .t (.sc (.int .i64 (stepD x)))
            rw [e3]
            try rfl
        · (try simp only [beq_iff_eq, beq_eq_false_iff_ne, ne_eq] at h6)
          refine Sim.skip ?_
          refine andThen_normal ?_
          refine Sim.seq ?_
          refine Sim.reg (orcs := [(2, ⟨none, none, none, some (⟨0, [], .t (.sc (.int .i64 (partE x.elems 0))), []⟩)⟩)]) (keys := [2]) (τ := []) (nx := 208)
            (sl := [(2, .t (.sc (.int .i64 (partE x.elems 0))))]) (l := [])
            (C := [callable Try.prog 47 = true, FC Try.prog 47 [.t (.lst 3 (List.map elemT x.elems))] emp (.t (.sc (.int .i64 (partE x.elems 0)))) emp]) (by kernel_rfl) ?_ ?_
          · -- region 8
            exact ⟨(by kernel_rfl), (fc_partError x.elems (by assumption)), trivial⟩
          refine andThen_normal ?_
          refine Sim.ret ?_
          refine andThen_ret ?_
          refine Fin.mk2 (.inl rfl) (τ := []) (keys := [2]) (nx := 208) (sl := [(2, .t (.sc (.int .i64 (partE x.elems 0))))]) (l := []) (res' := .t (.sc (.int .i64 (partE x.elems 0)))) (by kernel_rfl) ?_ (by kernel_rfl) ?_
          · -- end 4, objects
            first | done | rfl
          · -- end 4, result
            have e4 : ((stepD x) : Int) = (partE x.elems 0) := by
              (try rw [errA_eq true x.attrs _ 0 rfl]); unfold stepD; ((repeat' split) <;> first | rfl | omega | (simp_all; done) | (simp_all; omega))
            show AVal.t (.sc (.int .i64 (partE x.elems 0))) = .t (.sc (.int .i64 (stepD x)))
            rw [e4]
            try rfl
    · (try simp only [beq_iff_eq, beq_eq_false_iff_ne, ne_eq] at h3)
      refine Sim.skip ?_
      refine andThen_normal ?_
      refine Sim.seq ?_
      refine Sim.seq ?_
      refine Sim.reg (orcs := [(2, ⟨some (.t (.sc (.int .i64 (x.elems.length : Int)))), none, none, none⟩), (11, ⟨some (.t (.sc (.int .i64 (x.attrs.length : Int)))), none, none, none⟩)]) (keys := [1, 40]) (τ := [(0, 0)]) (nx := 192)
        (sl := [(1, .ptr 0 0), (40, .t (.sc (.bool (decide ((x.elems.length : Int) > 0) || ((x.kind == 2) && decide ((x.attrs.length : Int) > 0))))))]) (l := [(0, .box [.t (.sc (.int .i64 x.kind)), .t (.sc (.int .i64 x.n)), .t (.lst 2 (List.map attrT x.attrs)), .t (.lst 3 (List.map elemT x.elems))])])
        (C := [Weak (.t (.sc (.int .i64 ((List.map elemT x.elems).length : Int)))) (.t (.sc (.int .i64 (x.elems.length : Int)))), (!(decide ((x.elems.length : Int) > 0))) = true → (!(decide ((x.elems.length : Int) > 0))) = true, (!(decide ((x.elems.length : Int) > 0))) = true → (!(decide ((x.elems.length : Int) > 0))) = true, (!(decide ((x.elems.length : Int) > 0))) = true → (!(decide ((x.elems.length : Int) > 0))) = true, ((!(decide ((x.elems.length : Int) > 0))) && (x.kind == 2)) = true → ((!(decide ((x.elems.length : Int) > 0))) && (x.kind == 2)) = true, ((!(decide ((x.elems.length : Int) > 0))) && (x.kind == 2)) = true → ((!(decide ((x.elems.length : Int) > 0))) && (x.kind == 2)) = true, ((!(decide ((x.elems.length : Int) > 0))) && (x.kind == 2)) = true → Weak (.t (.sc (.int .i64 ((List.map attrT x.attrs).length : Int)))) (.t (.sc (.int .i64 (x.attrs.length : Int)))), ((!(decide ((x.elems.length : Int) > 0))) && (x.kind == 2)) = true → ((!(decide ((x.elems.length : Int) > 0))) && (x.kind == 2)) = true, (!(decide ((x.elems.length : Int) > 0))) = true → (!(decide ((x.elems.length : Int) > 0))) = true, (!(decide ((x.elems.length : Int) > 0))) = true → (x.kind == 2) = true → ((!(decide ((x.elems.length : Int) > 0))) && (x.kind == 2)) = true, (decide ((x.elems.length : Int) > 0)) = false → (!(decide ((x.elems.length : Int) > 0))) = true]) (by kernel_rfl) ?_ ?_
      · -- region 9
        refine ⟨(Weak.of_eq len_map), ?_, ?_, ?_, ?_, ?_, (fun hg => by (try simp only [decide_eq_true_eq, decide_eq_false_iff_not, Int.not_lt, Int.not_le, gt_iff_lt, Bool.not_eq_true', Bool.not_eq_false', Bool.and_eq_true, Bool.and_eq_false_iff, beq_iff_eq, beq_eq_false_iff_ne, ne_eq] at hg); exact (Weak.of_eq len_map)), ?_, ?_, ?_, ?_, trivial⟩
        all_goals (first | omega | with_reducible exact fun h => h | (intro hg hq; rw [hg, hq]; rfl) | (intro hq; rw [hq]; done) | (intro hq; rw [hq]; rfl) | ((try intro hg); (try simp [-List.getD_eq_getElem?_getD] at hg); (try simp only [List.length_map]); first | done | omega | rfl | (simp; done) | (simp; omega) | (simp [hg]; done) | (intro hq; simp [hg, hq]; done) | (intro hq; simp [hg, hq]; omega)))
      refine andThen_normal ?_
      refine Sim.cond (b := (decide ((x.elems.length : Int) > 0) || ((x.kind == 2) && decide ((x.attrs.length : Int) > 0)))) (by kernel_rfl) (fun h9 => ?_) (fun h9 => ?_)
      · (try simp only [decide_eq_true_eq, decide_eq_false_iff_not, Int.not_lt, Int.not_le, gt_iff_lt, Bool.and_eq_true, Bool.and_eq_false_iff, Bool.not_eq_true', Bool.not_eq_false', Bool.or_eq_true, Bool.or_eq_false_iff, beq_iff_eq, beq_eq_false_iff_ne, ne_eq] at h9)
        refine Sim.seq ?_
        refine Sim.reg (orcs := []) (keys := [2]) (τ := []) (nx := 200)
          (sl := [(2, .t (.sc (.int .i64 4)))]) (l := [])
          (C := []) (by kernel_rfl) ?_ ?_
        · -- region 10
          trivial
        refine andThen_normal ?_
        refine Sim.ret ?_
        refine andThen_ret ?_
        refine Fin.mk2 (.inl rfl) (τ := []) (keys := [2]) (nx := 200) (sl := [(2, .t (.sc (.int .i64 4)))]) (l := []) (res' := .t (.sc (.int .i64 4))) (by kernel_rfl) ?_ (by kernel_rfl) ?_
        · -- end 5, objects
          first | done | rfl
        · -- end 5, result
          have e5 : ((stepD x) : Int) = 4 := by
            (try rw [errA_eq true x.attrs _ 0 rfl]); unfold stepD; ((repeat' split) <;> first | rfl | omega | (simp_all; done) | (simp_all; omega))
          show AVal.t (.sc (.int .i64 4)) = .t (.sc (.int .i64 (stepD x)))
          rw [e5]
          try rfl
      · (try simp only [decide_eq_true_eq, decide_eq_false_iff_not, Int.not_lt, Int.not_le, gt_iff_lt, Bool.and_eq_true, Bool.and_eq_false_iff, Bool.not_eq_true', Bool.not_eq_false', Bool.or_eq_true, Bool.or_eq_false_iff, beq_iff_eq, beq_eq_false_iff_ne, ne_eq] at h9)
        refine Sim.skip ?_
        refine andThen_normal ?_
        refine Sim.seq ?_
        refine Sim.seq ?_
        refine Sim.reg (orcs := [(2, ⟨none, none, none, some (⟨0, [], .t (.sc (.bool (decide (1 ≤ x.n ∧ x.n ≤ 2147483647)))), []⟩)⟩)]) (keys := [1, 44]) (τ := [(0, 0)]) (nx := 224)
          (sl := [(1, .ptr 0 0), (44, .t (.sc (.bool (!(decide (1 ≤ x.n ∧ x.n ≤ 2147483647))))))]) (l := [(0, .box [.t (.sc (.int .i64 x.kind)), .t (.sc (.int .i64 x.n)), .t (.lst 2 (List.map attrT x.attrs)), .t (.lst 3 (List.map elemT x.elems))])])
          (C := [callable Try.prog 57 = true, FC Try.prog 57 [.t (.sc (.int .i64 x.n)), .t (.sc (.int .i64 1)), .t (.sc (.int .i64 2147483647))] emp (.t (.sc (.bool (decide (1 ≤ x.n ∧ x.n ≤ 2147483647))))) emp]) (by kernel_rfl) ?_ ?_
        · -- region 11
          exact ⟨(by kernel_rfl), (fc_in x.n 1 2147483647), trivial⟩
        refine andThen_normal ?_
        refine Sim.cond (b := !(decide (1 ≤ x.n ∧ x.n ≤ 2147483647))) (by kernel_rfl) (fun h11 => ?_) (fun h11 => ?_)
        · (try simp only [decide_eq_true_eq, decide_eq_false_iff_not, Int.not_lt, Int.not_le, Bool.not_eq_true', Bool.not_eq_false'] at h11)
          refine Sim.seq ?_
          refine Sim.reg (orcs := []) (keys := [2]) (τ := []) (nx := 232)
            (sl := [(2, .t (.sc (.int .i64 2)))]) (l := [])
            (C := []) (by kernel_rfl) ?_ ?_
          · -- region 12
            trivial
          refine andThen_normal ?_
          refine Sim.ret ?_
          refine andThen_ret ?_
          refine Fin.mk2 (.inl rfl) (τ := []) (keys := [2]) (nx := 232) (sl := [(2, .t (.sc (.int .i64 2)))]) (l := []) (res' := .t (.sc (.int .i64 2))) (by kernel_rfl) ?_ (by kernel_rfl) ?_
          · -- end 6, objects
            first | done | rfl
          · -- end 6, result
            have e6 : ((stepD x) : Int) = 2 := by
              (try rw [errA_eq true x.attrs _ 0 rfl]); unfold stepD; ((repeat' split) <;> first | rfl | omega | (simp_all; done) | (simp_all; omega))
            show AVal.t (.sc (.int .i64 2)) = .t (.sc (.int .i64 (stepD x)))
            rw [e6]
            try rfl
        · (try simp only [decide_eq_true_eq, decide_eq_false_iff_not, Int.not_lt, Int.not_le, Bool.not_eq_true', Bool.not_eq_false'] at h11)
          refine Sim.skip ?_
          refine andThen_normal ?_
          refine Sim.seq ?_
          refine Sim.reg (orcs := [(2, ⟨none, none, none, some (⟨0, [], .t (.sc (.int .i64 (errA true x.attrs 0))), []⟩)⟩)]) (keys := [2]) (τ := []) (nx := 256)
            (sl := [(2, .t (.sc (.int .i64 (errA true x.attrs 0))))]) (l := [])
            (C := [callable Try.prog 27 = true, FC Try.prog 27 [.t (.lst 2 (List.map attrT x.attrs)), .t (.sc (.bool true))] emp (.t (.sc (.int .i64 (errA true x.attrs 0)))) emp]) (by kernel_rfl) ?_ ?_
          · -- region 13
            exact ⟨(by kernel_rfl), (fc_attrsError x.attrs true (by assumption)), trivial⟩
          refine andThen_normal ?_
          refine Sim.ret ?_
          refine Fin.mk2 (.inl rfl) (τ := []) (keys := [2]) (nx := 256) (sl := [(2, .t (.sc (.int .i64 (errA true x.attrs 0))))]) (l := []) (res' := .t (.sc (.int .i64 (errA true x.attrs 0)))) (by kernel_rfl) ?_ (by kernel_rfl) ?_
          · -- end 7, objects
            first | done | rfl
          · -- end 7, result
            have e7 : ((stepD x) : Int) = (errA true x.attrs 0) := by
              (try rw [errA_eq true x.attrs _ 0 rfl]); unfold stepD; ((repeat' split) <;> first | rfl | omega | (simp_all; done) | (simp_all; omega))
            show AVal.t (.sc (.int .i64 (errA true x.attrs 0))) = .t (.sc (.int .i64 (stepD x)))
            rw [e7]
            try rfl
end Go.Ch
