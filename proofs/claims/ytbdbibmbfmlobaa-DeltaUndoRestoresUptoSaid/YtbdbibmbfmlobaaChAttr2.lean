import Derived.Test.YtbdbibmbfmlobaaChAttr
set_option linter.unusedVariables false
set_option linter.unusedSimpArgs false
set_option maxRecDepth 100000
set_option maxHeartbeats 4000000
open Go Go.Proofs Go.Ab
namespace Go.Ch
theorem fc_both (f : FuncId) (g : Attr → Attr → Option Attr) (hfc : callable Try.prog f = true) (hf : ∀ (o : List Attr) (x y : Attr), o.length < 1099511627776 → FC Try.prog f [.t (attrT x), .t (attrT y), .ptr 0 0] (app emp [(0, .box [.row 1 o.length]), (1, .row 2 false (List.map attrT o))]) (.tup []) (app emp [(0, .box [.row 1 (o ++ (g x y).toList).length]), (1, .row 2 false (List.map attrT (o ++ (g x y).toList)))])) (a b o : List Attr) (hn : o.length + a.length + b.length < 1099511627776) : FC Try.prog 128 [.t (.lst 2 (List.map attrT a)), .t (.lst 2 (List.map attrT b)), .fn f [.ptr 0 0]] (app emp [(0, .box [.row 1 o.length]), (1, .row 2 false (List.map attrT o))]) (.tup []) (app emp [(0, .box [.row 1 ((o ++ fm g a b).length)]), (1, .row 2 false (List.map attrT (o ++ fm g a b)))]) := by
  refine FC.of_sim (fn := Try.f128) (nx := 2) (by kernel_rfl) rfl (by kernel_rfl) rfl ?_
  show Sim _ _ _ _ ⟨[(0, .t (.lst 2 (List.map attrT a))), (1, .t (.lst 2 (List.map attrT b))), (2, .fn f [.ptr 0 0])], app emp [(0, .box [.row 1 o.length]), (1, .row 2 false (List.map attrT o))], 2⟩ _
  refine Sim.len (t := 0) (k := 2) rfl (fun hl0 => ?_)
  rw [List.length_map] at hl0
  refine Sim.len (t := 1) (k := 2) rfl (fun hl1 => ?_)
  rw [List.length_map] at hl1
  refine Sim.seq ?_
  refine Sim.reg (orcs := []) (keys := [0, 1, 2, 6, 7]) (τ := [(0, 0), (1, 1)]) (nx := 18)
    (sl := [(0, .t (.lst 2 (List.map attrT a))), (1, .t (.lst 2 (List.map attrT b))), (2, .fn f [.ptr 0 0]), (6, .t (.sc (.int .i64 0))), (7, .t (.sc (.int .i64 0)))]) (l := [(0, .box [.row 1 o.length]), (1, .row 2 false (List.map attrT o))])
    (C := []) (by kernel_rfl) ?_ ?_
  · -- region 0
    trivial
  refine andThen_normal ?_
  refine Sim.block ?_
  refine Sim.weaken (Le.ren (τ := [(0, 0), (1, 1)]) (keys := [0, 1, 2, 6, 7]) (nx := 18) (sl := [(0, .t (.lst 2 (List.map attrT a))), (1, .t (.lst 2 (List.map attrT b))), (2, .fn f [.ptr 0 0]), (6, .t (.sc (.int .i64 ((0 : Nat) : Int)))), (7, .t (.sc (.int .i64 ((0 : Nat) : Int))))]) (l := [(0, .box [.row 1 o.length]), (1, .row 2 false (List.map attrT o))]) (by kernel_rfl)) ?_
  refine Sim.loop ?_
  refine loop_ind (α := Nat × Nat × (List Attr)) (fun (i, j, p) => ⟨[(0, .t (.lst 2 (List.map attrT a))), (1, .t (.lst 2 (List.map attrT b))), (2, .fn f [.ptr 0 0]), (6, .t (.sc (.int .i64 (i : Int)))), (7, .t (.sc (.int .i64 (j : Int))))], app emp [(0, .box [.row 1 p.length]), (1, .row 2 false (List.map attrT p))], 18⟩) (fun (i, j, p) => i ≤ a.length ∧ j ≤ b.length ∧ p.length ≤ o.length + i + j ∧ o ++ fm g a b = p ++ fm g (a.drop i) (b.drop j)) (fun (i, j, p) => (a.length - i) + (b.length - j)) ?_ (0, 0, o) ?_
  rotate_left
  · -- loop 1, start
    exact ⟨by omega, by omega, by omega, rfl⟩
  rintro ⟨i, j, p⟩ I1 ih1
  show LoopSim _ _ _ _ ⟨[(0, .t (.lst 2 (List.map attrT a))), (1, .t (.lst 2 (List.map attrT b))), (2, .fn f [.ptr 0 0]), (6, .t (.sc (.int .i64 (i : Int)))), (7, .t (.sc (.int .i64 (j : Int))))], app emp [(0, .box [.row 1 p.length]), (1, .row 2 false (List.map attrT p))], 18⟩ _
  replace I1 : i ≤ a.length ∧ j ≤ b.length ∧ p.length ≤ o.length + i + j ∧ o ++ fm g a b = p ++ fm g (a.drop i) (b.drop j) := I1
  refine LoopSim.step ?_
  refine Sim.seq ?_
  refine Sim.seq ?_
  refine Sim.reg (orcs := [(2, ⟨some (.t (.sc (.int .i64 (a.length : Int)))), none, none, none⟩), (7, ⟨some (.t (.sc (.int .i64 (b.length : Int)))), none, none, none⟩)]) (keys := [0, 1, 2, 6, 7, 17]) (τ := [(0, 0), (1, 1)]) (nx := 98)
    (sl := [(0, .t (.lst 2 (List.map attrT a))), (1, .t (.lst 2 (List.map attrT b))), (2, .fn f [.ptr 0 0]), (6, .t (.sc (.int .i64 (i : Int)))), (7, .t (.sc (.int .i64 (j : Int)))), (17, .t (.sc (.bool (decide ((i : Int) < (a.length : Int)) || decide ((j : Int) < (b.length : Int))))))]) (l := [(0, .box [.row 1 p.length]), (1, .row 2 false (List.map attrT p))])
    (C := [Weak (.t (.sc (.int .i64 ((List.map attrT a).length : Int)))) (.t (.sc (.int .i64 (a.length : Int)))), (!(decide ((i : Int) < (a.length : Int)))) = true → (!(decide ((i : Int) < (a.length : Int)))) = true, (!(decide ((i : Int) < (a.length : Int)))) = true → Weak (.t (.sc (.int .i64 ((List.map attrT b).length : Int)))) (.t (.sc (.int .i64 (b.length : Int)))), (!(decide ((i : Int) < (a.length : Int)))) = true → (!(decide ((i : Int) < (a.length : Int)))) = true, (!(decide ((i : Int) < (a.length : Int)))) = true → (!(decide ((i : Int) < (a.length : Int)))) = true, (decide ((i : Int) < (a.length : Int))) = false → (!(decide ((i : Int) < (a.length : Int)))) = true]) (by kernel_rfl) ?_ ?_
  · -- region 1
    refine ⟨(Weak.of_eq len_map), ?_, (fun hg => by (try simp only [decide_eq_true_eq, decide_eq_false_iff_not, Int.not_lt, Int.not_le, Bool.not_eq_true', Bool.not_eq_false'] at hg); exact (Weak.of_eq len_map)), ?_, ?_, ?_, trivial⟩
    all_goals (first | omega | with_reducible exact fun h => h | (intro hg hq; rw [hg, hq]; rfl) | (intro hq; rw [hq]; done) | (intro hq; rw [hq]; rfl) | ((try intro hg); (try simp [-List.getD_eq_getElem?_getD] at hg); (try simp only [List.length_map]); first | done | omega | rfl | (simp; done) | (simp; omega) | (simp [hg]; done) | (intro hq; simp [hg, hq]; done) | (intro hq; simp [hg, hq]; omega)))
  refine andThen_normal ?_
  refine Sim.cond (b := (decide ((i : Int) < (a.length : Int)) || decide ((j : Int) < (b.length : Int)))) (by kernel_rfl) (fun h1 => ?_) (fun h1 => ?_)
  · (try simp only [decide_eq_true_eq, decide_eq_false_iff_not, Int.not_lt, Int.not_le, Bool.or_eq_true, Bool.or_eq_false_iff] at h1)
    refine Sim.skip ?_
    refine andThen_normal ?_
    refine Sim.block ?_
    refine Sim.block ?_
    refine Sim.seq ?_
    refine Sim.regD (by kernel_rfl) (orcs := [(2, ⟨some (.t (.sc (.int .i64 (b.length : Int)))), none, none, none⟩), (7, ⟨some (.t (.sc (.int .i64 (a.length : Int)))), none, none, none⟩), (12, ⟨none, none, some (attrT (a.getD i default)), none⟩), (17, ⟨none, none, some (attrT (b.getD j default)), none⟩)]) (keys := [0, 1, 2, 6, 7, 32]) (τ := [(0, 0), (1, 1)]) (nx := 290)
      (sl := [(0, .t (.lst 2 (List.map attrT a))), (1, .t (.lst 2 (List.map attrT b))), (2, .fn f [.ptr 0 0]), (6, .t (.sc (.int .i64 (i : Int)))), (7, .t (.sc (.int .i64 (j : Int)))), (32, .t (.sc (.bool (((j : Int) == (b.length : Int)) || (decide ((i : Int) < (a.length : Int)) && slt (((a.getD i default)).name) (((b.getD j default)).name))))))]) (l := [(0, .box [.row 1 p.length]), (1, .row 2 false (List.map attrT p))])
      (C := [Weak (.t (.sc (.int .i64 ((List.map attrT b).length : Int)))) (.t (.sc (.int .i64 (b.length : Int)))), (!((j : Int) == (b.length : Int))) = true → (!((j : Int) == (b.length : Int))) = true, (!((j : Int) == (b.length : Int))) = true → Weak (.t (.sc (.int .i64 ((List.map attrT a).length : Int)))) (.t (.sc (.int .i64 (a.length : Int)))), (!((j : Int) == (b.length : Int))) = true → (!((j : Int) == (b.length : Int))) = true, (!((j : Int) == (b.length : Int))) = true → (!((j : Int) == (b.length : Int))) = true, (!((j : Int) == (b.length : Int))) = true → (!((j : Int) == (b.length : Int))) = true, ((!((j : Int) == (b.length : Int))) && (decide ((i : Int) < (a.length : Int)))) = true → ((!((j : Int) == (b.length : Int))) && (decide ((i : Int) < (a.length : Int)))) = true, ((!((j : Int) == (b.length : Int))) && (decide ((i : Int) < (a.length : Int)))) = true → ((!((j : Int) == (b.length : Int))) && (decide ((i : Int) < (a.length : Int)))) = true, ((!((j : Int) == (b.length : Int))) && (decide ((i : Int) < (a.length : Int)))) = true → (0:Int) ≤ (i : Int), ((!((j : Int) == (b.length : Int))) && (decide ((i : Int) < (a.length : Int)))) = true → (List.map attrT a)[i]? = some (attrT (a.getD i default)), ((!((j : Int) == (b.length : Int))) && (decide ((i : Int) < (a.length : Int)))) = true → ((!((j : Int) == (b.length : Int))) && (decide ((i : Int) < (a.length : Int)))) = true, ((!((j : Int) == (b.length : Int))) && (decide ((i : Int) < (a.length : Int)))) = true → ((!((j : Int) == (b.length : Int))) && (decide ((i : Int) < (a.length : Int)))) = true, ((!((j : Int) == (b.length : Int))) && (decide ((i : Int) < (a.length : Int)))) = true → ((!((j : Int) == (b.length : Int))) && (decide ((i : Int) < (a.length : Int)))) = true, ((!((j : Int) == (b.length : Int))) && (decide ((i : Int) < (a.length : Int)))) = true → ((!((j : Int) == (b.length : Int))) && (decide ((i : Int) < (a.length : Int)))) = true, ((!((j : Int) == (b.length : Int))) && (decide ((i : Int) < (a.length : Int)))) = true → (0:Int) ≤ (j : Int), ((!((j : Int) == (b.length : Int))) && (decide ((i : Int) < (a.length : Int)))) = true → (List.map attrT b)[j]? = some (attrT (b.getD j default)), ((!((j : Int) == (b.length : Int))) && (decide ((i : Int) < (a.length : Int)))) = true → ((!((j : Int) == (b.length : Int))) && (decide ((i : Int) < (a.length : Int)))) = true, ((!((j : Int) == (b.length : Int))) && (decide ((i : Int) < (a.length : Int)))) = true → ((!((j : Int) == (b.length : Int))) && (decide ((i : Int) < (a.length : Int)))) = true, ((!((j : Int) == (b.length : Int))) && (decide ((i : Int) < (a.length : Int)))) = true → ((!((j : Int) == (b.length : Int))) && (decide ((i : Int) < (a.length : Int)))) = true, ((!((j : Int) == (b.length : Int))) && (decide ((i : Int) < (a.length : Int)))) = true → ((!((j : Int) == (b.length : Int))) && (decide ((i : Int) < (a.length : Int)))) = true, (!((j : Int) == (b.length : Int))) = true → (!((j : Int) == (b.length : Int))) = true, (!((j : Int) == (b.length : Int))) = true → (decide ((i : Int) < (a.length : Int))) = true → ((!((j : Int) == (b.length : Int))) && (decide ((i : Int) < (a.length : Int)))) = true, ((j : Int) == (b.length : Int)) = false → (!((j : Int) == (b.length : Int))) = true]) (by kernel_rfl) ?_ ?_
    · -- region 4
      refine ⟨(Weak.of_eq len_map), ?_, (fun hg => by (try simp only [Bool.not_eq_true', Bool.not_eq_false', beq_iff_eq, beq_eq_false_iff_ne, ne_eq] at hg); exact (Weak.of_eq len_map)), ?_, ?_, ?_, ?_, ?_, ?_, (fun hg => (elt_nat ?_)), ?_, ?_, ?_, ?_, ?_, (fun hg => (elt_nat ?_)), ?_, ?_, ?_, ?_, ?_, ?_, ?_, trivial⟩
      all_goals (first | omega | with_reducible exact fun h => h | (intro hg hq; rw [hg, hq]; rfl) | (intro hq; rw [hq]; done) | (intro hq; rw [hq]; rfl) | ((try intro hg); (try simp [-List.getD_eq_getElem?_getD] at hg); (try simp only [List.length_map]); first | done | omega | rfl | (simp; done) | (simp; omega) | (simp [hg]; done) | (intro hq; simp [hg, hq]; done) | (intro hq; simp [hg, hq]; omega)))
    refine andThen_normal ?_
    refine Sim.cond (b := (((j : Int) == (b.length : Int)) || (decide ((i : Int) < (a.length : Int)) && slt (((a.getD i default)).name) (((b.getD j default)).name)))) (by kernel_rfl) (fun h4 => ?_) (fun h4 => ?_)
    · (try simp only [decide_eq_true_eq, decide_eq_false_iff_not, Int.not_lt, Int.not_le, Bool.and_eq_true, Bool.and_eq_false_iff, Bool.not_eq_true', Bool.not_eq_false', Bool.or_eq_true, Bool.or_eq_false_iff, beq_iff_eq, beq_eq_false_iff_ne, ne_eq] at h4)
      refine Sim.seq ?_
      refine Sim.reg (orcs := [(3, ⟨none, none, some (attrT (a.getD i default)), none⟩), (6, ⟨none, none, none, some (⟨2, [0, 1], .tup [], [(0, .box [.row 1 ((p ++ (g ((a.getD i default)) ({ name := { data := #[] }, val := { data := #[] } } : Attr)).toList).length)]), (1, .row 2 false (List.map attrT (p ++ (g ((a.getD i default)) ({ name := { data := #[] }, val := { data := #[] } } : Attr)).toList)))]⟩)⟩)]) (keys := [0, 1, 2, 6, 7]) (τ := [(0, 0), (1, 1)]) (nx := 346)
        (sl := [(0, .t (.lst 2 (List.map attrT a))), (1, .t (.lst 2 (List.map attrT b))), (2, .fn f [.ptr 0 0]), (6, .t (.sc (.int .i64 (i : Int)))), (7, .t (.sc (.int .i64 (j : Int))))]) (l := [(0, .box [.row 1 ((p ++ (g ((a.getD i default)) ({ name := { data := #[] }, val := { data := #[] } } : Attr)).toList).length)]), (1, .row 2 false (List.map attrT (p ++ (g ((a.getD i default)) ({ name := { data := #[] }, val := { data := #[] } } : Attr)).toList)))])
        (C := [(0:Int) ≤ (i : Int), (List.map attrT a)[i]? = some (attrT (a.getD i default)), callable Try.prog f = true, FC Try.prog f [.t (attrT ((a.getD i default))), .t (attrT ({ name := { data := #[] }, val := { data := #[] } } : Attr)), .ptr 0 0] (only (only (app emp [(0, .box [.row 1 p.length]), (1, .row 2 false (List.map attrT p))]) [0, 0, 1]) [0, 1]) (.tup []) (app (only (only (app emp [(0, .box [.row 1 p.length]), (1, .row 2 false (List.map attrT p))]) [0, 0, 1]) [0, 1]) [(0, .box [.row 1 ((p ++ (g ((a.getD i default)) ({ name := { data := #[] }, val := { data := #[] } } : Attr)).toList).length)]), (1, .row 2 false (List.map attrT (p ++ (g ((a.getD i default)) ({ name := { data := #[] }, val := { data := #[] } } : Attr)).toList)))])]) (by kernel_rfl) ?_ ?_
      · -- region 5
        refine ⟨?_, (elt_nat ?_), hfc, (FC.at (FC.ren (hf p ((a.getD i default)) ({ name := { data := #[] }, val := { data := #[] } } : Attr) (by first | omega | (simp; omega))) [(0, 0), (1, 1)] [(0, 0), (1, 1)] (l0' := [(0, .box [.row 1 p.length]), (1, .row 2 false (List.map attrT p))]) (args' := [.t (attrT ((a.getD i default))), .t (attrT ({ name := { data := #[] }, val := { data := #[] } } : Attr)), .ptr 0 0]) (res' := .tup []) (l1' := [(0, .box [.row 1 ((p ++ (g ((a.getD i default)) ({ name := { data := #[] }, val := { data := #[] } } : Attr)).toList).length)]), (1, .row 2 false (List.map attrT (p ++ (g ((a.getD i default)) ({ name := { data := #[] }, val := { data := #[] } } : Attr)).toList)))]) (by kernel_rfl) (by kernel_rfl) (by kernel_rfl) (by kernel_rfl) (by kernel_rfl) (by kernel_rfl)) (fun i => by by_cases e0 : i = 0; (subst e0; rfl); by_cases e1 : i = 1; (subst e1; rfl); simp only [only, app, upd, emp, hasId, cond_false, beq_ne e0, beq_ne (Ne.symm e0), beq_ne e1, beq_ne (Ne.symm e1)]) (fun i => by by_cases e0 : i = 0; (subst e0; rfl); by_cases e1 : i = 1; (subst e1; rfl); simp only [only, app, upd, emp, hasId, cond_false, beq_ne e0, beq_ne (Ne.symm e0), beq_ne e1, beq_ne (Ne.symm e1)])), trivial⟩
        all_goals omega
      refine andThen_normal ?_
      refine Sim.reg (orcs := [(1, ⟨some (.t (.sc (.int .i64 ((i : Int) + 1)))), none, none, none⟩)]) (keys := [0, 1, 2, 6, 7]) (τ := [(0, 0), (1, 1)]) (nx := 370)
        (sl := [(0, .t (.lst 2 (List.map attrT a))), (1, .t (.lst 2 (List.map attrT b))), (2, .fn f [.ptr 0 0]), (6, .t (.sc (.int .i64 ((i : Int) + 1)))), (7, .t (.sc (.int .i64 (j : Int))))]) (l := [(0, .box [.row 1 ((p ++ (g ((a.getD i default)) ({ name := { data := #[] }, val := { data := #[] } } : Attr)).toList).length)]), (1, .row 2 false (List.map attrT (p ++ (g ((a.getD i default)) ({ name := { data := #[] }, val := { data := #[] } } : Attr)).toList)))])
        (C := [Weak (.t (.sc (.int .i64 (IntKind.i64.wrap ((i : Int) + 1))))) (.t (.sc (.int .i64 ((i : Int) + 1))))]) (by kernel_rfl) ?_ ?_
      · -- region 6
        refine ⟨(Weak.of_eq (nw ?_)), trivial⟩
        all_goals omega
      refine inBlk_normal ?_
      refine inBlk_normal ?_
      refine andThen_normal ?_
      refine LoopSim.weaken (Le.ren (τ := [(0, 0), (1, 1)]) (keys := [0, 1, 2, 6, 7]) (nx := 18) (sl := [(0, .t (.lst 2 (List.map attrT a))), (1, .t (.lst 2 (List.map attrT b))), (2, .fn f [.ptr 0 0]), (6, .t (.sc (.int .i64 (((i + 1) : Nat) : Int)))), (7, .t (.sc (.int .i64 (j : Int))))]) (l := [(0, .box [.row 1 ((p ++ (g ((a.getD i default)) ({ name := { data := #[] }, val := { data := #[] } } : Attr)).toList).length)]), (1, .row 2 false (List.map attrT (p ++ (g ((a.getD i default)) ({ name := { data := #[] }, val := { data := #[] } } : Attr)).toList)))]) (by kernel_rfl)) ?_
      refine ih1 ((i + 1), j, (p ++ (g ((a.getD i default)) ({ name := { data := #[] }, val := { data := #[] } } : Attr)).toList)) ?_ ?_
      · -- back 1.1, invariant
        have hi : i < a.length := by omega
        have hg := toList_le (o := g (a.getD i default) ⟨{ data := #[] }, { data := #[] }⟩)
        have e := fm_a (g := g) (a := a) (b := b) (j := j) hi (by rcases h4 with h | h; (left; omega); exact .inr h.2)
        refine ⟨by omega, by omega, by simp only [List.length_append]; omega, ?_⟩
        rw [I1.2.2.2, e, List.append_assoc]
      · -- back 1.1, measure
        show (_:Nat) < _; (first | omega | with_reducible exact fun h => h | (intro hq; rw [hq]; done) | (intro hq; rw [hq]; rfl) | (simp only [List.length_map]; done) | (simp only [List.length_map]; omega) | (simp; omega) | (simp; done))
    · (try simp only [decide_eq_true_eq, decide_eq_false_iff_not, Int.not_lt, Int.not_le, Bool.and_eq_true, Bool.and_eq_false_iff, Bool.not_eq_true', Bool.not_eq_false', Bool.or_eq_true, Bool.or_eq_false_iff, beq_iff_eq, beq_eq_false_iff_ne, ne_eq] at h4)
      refine Sim.seq ?_
      refine Sim.regD (by kernel_rfl) (orcs := [(2, ⟨some (.t (.sc (.int .i64 (a.length : Int)))), none, none, none⟩), (7, ⟨none, none, some (attrT (b.getD j default)), none⟩), (12, ⟨none, none, some (attrT (a.getD i default)), none⟩)]) (keys := [0, 1, 2, 6, 7, 65]) (τ := [(0, 0), (1, 1)]) (nx := 434)
        (sl := [(0, .t (.lst 2 (List.map attrT a))), (1, .t (.lst 2 (List.map attrT b))), (2, .fn f [.ptr 0 0]), (6, .t (.sc (.int .i64 (i : Int)))), (7, .t (.sc (.int .i64 (j : Int)))), (65, .t (.sc (.bool (((i : Int) == (a.length : Int)) || slt (((b.getD j default)).name) (((a.getD i default)).name)))))]) (l := [(0, .box [.row 1 p.length]), (1, .row 2 false (List.map attrT p))])
        (C := [Weak (.t (.sc (.int .i64 ((List.map attrT a).length : Int)))) (.t (.sc (.int .i64 (a.length : Int)))), (!((i : Int) == (a.length : Int))) = true → (!((i : Int) == (a.length : Int))) = true, (!((i : Int) == (a.length : Int))) = true → (!((i : Int) == (a.length : Int))) = true, (!((i : Int) == (a.length : Int))) = true → (0:Int) ≤ (j : Int), (!((i : Int) == (a.length : Int))) = true → (List.map attrT b)[j]? = some (attrT (b.getD j default)), (!((i : Int) == (a.length : Int))) = true → (!((i : Int) == (a.length : Int))) = true, (!((i : Int) == (a.length : Int))) = true → (!((i : Int) == (a.length : Int))) = true, (!((i : Int) == (a.length : Int))) = true → (!((i : Int) == (a.length : Int))) = true, (!((i : Int) == (a.length : Int))) = true → (!((i : Int) == (a.length : Int))) = true, (!((i : Int) == (a.length : Int))) = true → (0:Int) ≤ (i : Int), (!((i : Int) == (a.length : Int))) = true → (List.map attrT a)[i]? = some (attrT (a.getD i default)), (!((i : Int) == (a.length : Int))) = true → (!((i : Int) == (a.length : Int))) = true, (!((i : Int) == (a.length : Int))) = true → (!((i : Int) == (a.length : Int))) = true, (!((i : Int) == (a.length : Int))) = true → (!((i : Int) == (a.length : Int))) = true, (!((i : Int) == (a.length : Int))) = true → (!((i : Int) == (a.length : Int))) = true, ((i : Int) == (a.length : Int)) = false → (!((i : Int) == (a.length : Int))) = true]) (by kernel_rfl) ?_ ?_
      · -- region 7
        refine ⟨(Weak.of_eq len_map), ?_, ?_, ?_, (fun hg => (elt_nat ?_)), ?_, ?_, ?_, ?_, ?_, (fun hg => (elt_nat ?_)), ?_, ?_, ?_, ?_, ?_, trivial⟩
        all_goals (first | omega | with_reducible exact fun h => h | (intro hg hq; rw [hg, hq]; rfl) | (intro hq; rw [hq]; done) | (intro hq; rw [hq]; rfl) | ((try intro hg); (try simp [-List.getD_eq_getElem?_getD] at hg); (try simp only [List.length_map]); first | done | omega | rfl | (simp; done) | (simp; omega) | (simp [hg]; done) | (intro hq; simp [hg, hq]; done) | (intro hq; simp [hg, hq]; omega)))
      refine andThen_normal ?_
      refine Sim.cond (b := (((i : Int) == (a.length : Int)) || slt (((b.getD j default)).name) (((a.getD i default)).name))) (by kernel_rfl) (fun h7 => ?_) (fun h7 => ?_)
      · (try simp only [Bool.or_eq_true, Bool.or_eq_false_iff, beq_iff_eq, beq_eq_false_iff_ne, ne_eq] at h7)
        refine Sim.seq ?_
        refine Sim.reg (orcs := [(4, ⟨none, none, some (attrT (b.getD j default)), none⟩), (6, ⟨none, none, none, some (⟨2, [0, 1], .tup [], [(0, .box [.row 1 ((p ++ (g ({ name := { data := #[] }, val := { data := #[] } } : Attr) ((b.getD j default))).toList).length)]), (1, .row 2 false (List.map attrT (p ++ (g ({ name := { data := #[] }, val := { data := #[] } } : Attr) ((b.getD j default))).toList)))]⟩)⟩)]) (keys := [0, 1, 2, 6, 7]) (τ := [(0, 0), (1, 1)]) (nx := 490)
          (sl := [(0, .t (.lst 2 (List.map attrT a))), (1, .t (.lst 2 (List.map attrT b))), (2, .fn f [.ptr 0 0]), (6, .t (.sc (.int .i64 (i : Int)))), (7, .t (.sc (.int .i64 (j : Int))))]) (l := [(0, .box [.row 1 ((p ++ (g ({ name := { data := #[] }, val := { data := #[] } } : Attr) ((b.getD j default))).toList).length)]), (1, .row 2 false (List.map attrT (p ++ (g ({ name := { data := #[] }, val := { data := #[] } } : Attr) ((b.getD j default))).toList)))])
          (C := [(0:Int) ≤ (j : Int), (List.map attrT b)[j]? = some (attrT (b.getD j default)), callable Try.prog f = true, FC Try.prog f [.t (attrT ({ name := { data := #[] }, val := { data := #[] } } : Attr)), .t (attrT ((b.getD j default))), .ptr 0 0] (only (only (app emp [(0, .box [.row 1 p.length]), (1, .row 2 false (List.map attrT p))]) [0, 0, 1]) [0, 1]) (.tup []) (app (only (only (app emp [(0, .box [.row 1 p.length]), (1, .row 2 false (List.map attrT p))]) [0, 0, 1]) [0, 1]) [(0, .box [.row 1 ((p ++ (g ({ name := { data := #[] }, val := { data := #[] } } : Attr) ((b.getD j default))).toList).length)]), (1, .row 2 false (List.map attrT (p ++ (g ({ name := { data := #[] }, val := { data := #[] } } : Attr) ((b.getD j default))).toList)))])]) (by kernel_rfl) ?_ ?_
        · -- region 8
          refine ⟨?_, (elt_nat ?_), hfc, (FC.at (FC.ren (hf p ({ name := { data := #[] }, val := { data := #[] } } : Attr) ((b.getD j default)) (by first | omega | (simp; omega))) [(0, 0), (1, 1)] [(0, 0), (1, 1)] (l0' := [(0, .box [.row 1 p.length]), (1, .row 2 false (List.map attrT p))]) (args' := [.t (attrT ({ name := { data := #[] }, val := { data := #[] } } : Attr)), .t (attrT ((b.getD j default))), .ptr 0 0]) (res' := .tup []) (l1' := [(0, .box [.row 1 ((p ++ (g ({ name := { data := #[] }, val := { data := #[] } } : Attr) ((b.getD j default))).toList).length)]), (1, .row 2 false (List.map attrT (p ++ (g ({ name := { data := #[] }, val := { data := #[] } } : Attr) ((b.getD j default))).toList)))]) (by kernel_rfl) (by kernel_rfl) (by kernel_rfl) (by kernel_rfl) (by kernel_rfl) (by kernel_rfl)) (fun i => by by_cases e0 : i = 0; (subst e0; rfl); by_cases e1 : i = 1; (subst e1; rfl); simp only [only, app, upd, emp, hasId, cond_false, beq_ne e0, beq_ne (Ne.symm e0), beq_ne e1, beq_ne (Ne.symm e1)]) (fun i => by by_cases e0 : i = 0; (subst e0; rfl); by_cases e1 : i = 1; (subst e1; rfl); simp only [only, app, upd, emp, hasId, cond_false, beq_ne e0, beq_ne (Ne.symm e0), beq_ne e1, beq_ne (Ne.symm e1)])), trivial⟩
          all_goals omega
        refine andThen_normal ?_
        refine Sim.reg (orcs := [(1, ⟨some (.t (.sc (.int .i64 ((j : Int) + 1)))), none, none, none⟩)]) (keys := [0, 1, 2, 6, 7]) (τ := [(0, 0), (1, 1)]) (nx := 514)
          (sl := [(0, .t (.lst 2 (List.map attrT a))), (1, .t (.lst 2 (List.map attrT b))), (2, .fn f [.ptr 0 0]), (6, .t (.sc (.int .i64 (i : Int)))), (7, .t (.sc (.int .i64 ((j : Int) + 1))))]) (l := [(0, .box [.row 1 ((p ++ (g ({ name := { data := #[] }, val := { data := #[] } } : Attr) ((b.getD j default))).toList).length)]), (1, .row 2 false (List.map attrT (p ++ (g ({ name := { data := #[] }, val := { data := #[] } } : Attr) ((b.getD j default))).toList)))])
          (C := [Weak (.t (.sc (.int .i64 (IntKind.i64.wrap ((j : Int) + 1))))) (.t (.sc (.int .i64 ((j : Int) + 1))))]) (by kernel_rfl) ?_ ?_
        · -- region 9
          refine ⟨(Weak.of_eq (nw ?_)), trivial⟩
          all_goals omega
        refine inBlk_normal ?_
        refine inBlk_normal ?_
        refine andThen_normal ?_
        refine LoopSim.weaken (Le.ren (τ := [(0, 0), (1, 1)]) (keys := [0, 1, 2, 6, 7]) (nx := 18) (sl := [(0, .t (.lst 2 (List.map attrT a))), (1, .t (.lst 2 (List.map attrT b))), (2, .fn f [.ptr 0 0]), (6, .t (.sc (.int .i64 (i : Int)))), (7, .t (.sc (.int .i64 (((j + 1) : Nat) : Int))))]) (l := [(0, .box [.row 1 ((p ++ (g ({ name := { data := #[] }, val := { data := #[] } } : Attr) ((b.getD j default))).toList).length)]), (1, .row 2 false (List.map attrT (p ++ (g ({ name := { data := #[] }, val := { data := #[] } } : Attr) ((b.getD j default))).toList)))]) (by kernel_rfl)) ?_
        refine ih1 (i, (j + 1), (p ++ (g ({ name := { data := #[] }, val := { data := #[] } } : Attr) ((b.getD j default))).toList)) ?_ ?_
        · -- back 1.2, invariant
          have hj : j < b.length := by omega
          have hg := toList_le (o := g ⟨{ data := #[] }, { data := #[] }⟩ (b.getD j default))
          have e := fm_b (g := g) (a := a) (b := b) (i := i) hj (fun hi => by rcases h4.2 with h | h; omega; exact h) (by rcases h7 with h | h; (left; omega); exact .inr h)
          refine ⟨by omega, by omega, by simp only [List.length_append]; omega, ?_⟩
          rw [I1.2.2.2, e, List.append_assoc]
        · -- back 1.2, measure
          show (_:Nat) < _; (first | omega | with_reducible exact fun h => h | (intro hq; rw [hq]; done) | (intro hq; rw [hq]; rfl) | (simp only [List.length_map]; done) | (simp only [List.length_map]; omega) | (simp; omega) | (simp; done))
      · (try simp only [Bool.or_eq_true, Bool.or_eq_false_iff, beq_iff_eq, beq_eq_false_iff_ne, ne_eq] at h7)
        refine Sim.seq ?_
        refine Sim.regD (by kernel_rfl) (orcs := [(3, ⟨none, none, some (attrT (a.getD i default)), none⟩), (7, ⟨none, none, some (attrT (b.getD j default)), none⟩), (9, ⟨none, none, none, some (⟨2, [0, 1], .tup [], [(0, .box [.row 1 ((p ++ (g ((a.getD i default)) ((b.getD j default))).toList).length)]), (1, .row 2 false (List.map attrT (p ++ (g ((a.getD i default)) ((b.getD j default))).toList)))]⟩)⟩)]) (keys := [0, 1, 2, 6, 7]) (τ := [(0, 0), (1, 1)]) (nx := 514)
          (sl := [(0, .t (.lst 2 (List.map attrT a))), (1, .t (.lst 2 (List.map attrT b))), (2, .fn f [.ptr 0 0]), (6, .t (.sc (.int .i64 (i : Int)))), (7, .t (.sc (.int .i64 (j : Int))))]) (l := [(0, .box [.row 1 ((p ++ (g ((a.getD i default)) ((b.getD j default))).toList).length)]), (1, .row 2 false (List.map attrT (p ++ (g ((a.getD i default)) ((b.getD j default))).toList)))])
          (C := [(0:Int) ≤ (i : Int), (List.map attrT a)[i]? = some (attrT (a.getD i default)), (0:Int) ≤ (j : Int), (List.map attrT b)[j]? = some (attrT (b.getD j default)), callable Try.prog f = true, FC Try.prog f [.t (attrT ((a.getD i default))), .t (attrT ((b.getD j default))), .ptr 0 0] (only (only (app emp [(0, .box [.row 1 p.length]), (1, .row 2 false (List.map attrT p))]) [0, 0, 1]) [0, 1]) (.tup []) (app (only (only (app emp [(0, .box [.row 1 p.length]), (1, .row 2 false (List.map attrT p))]) [0, 0, 1]) [0, 1]) [(0, .box [.row 1 ((p ++ (g ((a.getD i default)) ((b.getD j default))).toList).length)]), (1, .row 2 false (List.map attrT (p ++ (g ((a.getD i default)) ((b.getD j default))).toList)))])]) (by kernel_rfl) ?_ ?_
        · -- region 2
          refine ⟨?_, (elt_nat ?_), ?_, (elt_nat ?_), hfc, (FC.at (FC.ren (hf p ((a.getD i default)) ((b.getD j default)) (by first | omega | (simp; omega))) [(0, 0), (1, 1)] [(0, 0), (1, 1)] (l0' := [(0, .box [.row 1 p.length]), (1, .row 2 false (List.map attrT p))]) (args' := [.t (attrT ((a.getD i default))), .t (attrT ((b.getD j default))), .ptr 0 0]) (res' := .tup []) (l1' := [(0, .box [.row 1 ((p ++ (g ((a.getD i default)) ((b.getD j default))).toList).length)]), (1, .row 2 false (List.map attrT (p ++ (g ((a.getD i default)) ((b.getD j default))).toList)))]) (by kernel_rfl) (by kernel_rfl) (by kernel_rfl) (by kernel_rfl) (by kernel_rfl) (by kernel_rfl)) (fun i => by by_cases e0 : i = 0; (subst e0; rfl); by_cases e1 : i = 1; (subst e1; rfl); simp only [only, app, upd, emp, hasId, cond_false, beq_ne e0, beq_ne (Ne.symm e0), beq_ne e1, beq_ne (Ne.symm e1)]) (fun i => by by_cases e0 : i = 0; (subst e0; rfl); by_cases e1 : i = 1; (subst e1; rfl); simp only [only, app, upd, emp, hasId, cond_false, beq_ne e0, beq_ne (Ne.symm e0), beq_ne e1, beq_ne (Ne.symm e1)])), trivial⟩
          all_goals omega
        refine andThen_normal ?_
        refine Sim.reg (orcs := [(1, ⟨some (.t (.sc (.int .i64 ((i : Int) + 1)))), none, none, none⟩), (3, ⟨some (.t (.sc (.int .i64 ((j : Int) + 1)))), none, none, none⟩)]) (keys := [0, 1, 2, 6, 7]) (τ := [(0, 0), (1, 1)]) (nx := 562)
          (sl := [(0, .t (.lst 2 (List.map attrT a))), (1, .t (.lst 2 (List.map attrT b))), (2, .fn f [.ptr 0 0]), (6, .t (.sc (.int .i64 ((i : Int) + 1)))), (7, .t (.sc (.int .i64 ((j : Int) + 1))))]) (l := [(0, .box [.row 1 ((p ++ (g ((a.getD i default)) ((b.getD j default))).toList).length)]), (1, .row 2 false (List.map attrT (p ++ (g ((a.getD i default)) ((b.getD j default))).toList)))])
          (C := [Weak (.t (.sc (.int .i64 (IntKind.i64.wrap ((i : Int) + 1))))) (.t (.sc (.int .i64 ((i : Int) + 1)))), Weak (.t (.sc (.int .i64 (IntKind.i64.wrap ((j : Int) + 1))))) (.t (.sc (.int .i64 ((j : Int) + 1))))]) (by kernel_rfl) ?_ ?_
        · -- region 3
          refine ⟨(Weak.of_eq (nw ?_)), (Weak.of_eq (nw ?_)), trivial⟩
          all_goals omega
        refine inBlk_normal ?_
        refine inBlk_normal ?_
        refine andThen_normal ?_
        refine LoopSim.weaken (Le.ren (τ := [(0, 0), (1, 1)]) (keys := [0, 1, 2, 6, 7]) (nx := 18) (sl := [(0, .t (.lst 2 (List.map attrT a))), (1, .t (.lst 2 (List.map attrT b))), (2, .fn f [.ptr 0 0]), (6, .t (.sc (.int .i64 (((i + 1) : Nat) : Int)))), (7, .t (.sc (.int .i64 (((j + 1) : Nat) : Int))))]) (l := [(0, .box [.row 1 ((p ++ (g ((a.getD i default)) ((b.getD j default))).toList).length)]), (1, .row 2 false (List.map attrT (p ++ (g ((a.getD i default)) ((b.getD j default))).toList)))]) (by kernel_rfl)) ?_
        refine ih1 ((i + 1), (j + 1), (p ++ (g ((a.getD i default)) ((b.getD j default))).toList)) ?_ ?_
        · -- back 1.3, invariant
          have hi : i < a.length := by omega
          have hj : j < b.length := by omega
          have hg := toList_le (o := g (a.getD i default) (b.getD j default))
          have e := fm_ab (g := g) (a := a) (b := b) hi hj (by rcases h4.2 with h | h; omega; exact h) h7.2
          refine ⟨by omega, by omega, by simp only [List.length_append]; omega, ?_⟩
          rw [I1.2.2.2, e, List.append_assoc]
        · -- back 1.3, measure
          show (_:Nat) < _; (first | omega | with_reducible exact fun h => h | (intro hq; rw [hq]; done) | (intro hq; rw [hq]; rfl) | (simp only [List.length_map]; done) | (simp only [List.length_map]; omega) | (simp; omega) | (simp; done))
  · (try simp only [decide_eq_true_eq, decide_eq_false_iff_not, Int.not_lt, Int.not_le, Bool.or_eq_true, Bool.or_eq_false_iff] at h1)
    refine Sim.exit ?_
    refine andThen_exit ?_
    refine andThen_exit ?_
    refine inBlk_same ?_
    refine Fin.mk2 (.inr rfl) (τ := [(0, 0), (1, 1)]) (keys := []) (nx := 98) (sl := []) (l := [(0, .box [.row 1 p.length]), (1, .row 2 false (List.map attrT p))]) (res' := .tup []) (by kernel_rfl) ?_ (by kernel_rfl) ?_
    · -- end 1, objects
      have e1 : ((o ++ fm g a b).length : Nat) = p.length := by
        rw [I1.2.2.2, fm_end (by omega) (by omega), List.append_nil]
      have e2 : ((o ++ fm g a b)) = p := by
        rw [I1.2.2.2, fm_end (by omega) (by omega), List.append_nil]
      show ([(0, .box [.row 1 p.length]), (1, .row 2 false (List.map attrT p))] : List (Nat × Ob)) = [(0, .box [.row 1 ((o ++ fm g a b).length)]), (1, .row 2 false (List.map attrT (o ++ fm g a b)))]
      rw [e1, e2]
      try rfl
    · -- end 1, result
      first | done | rfl

theorem fc_rawG (o : List Attr) (x y : Attr) (hn : o.length < 1099511627776) : FC Try.prog 129 [.t (attrT x), .t (attrT y), .ptr 0 0] (app emp [(0, .box [.row 1 o.length]), (1, .row 2 false (List.map attrT o))]) (.tup []) (app emp [(0, .box [.row 1 ((o ++ (rawG x y).toList).length)]), (1, .row 2 false (List.map attrT (o ++ (rawG x y).toList)))]) := by
  refine FC.of_sim (fn := Try.f129) (nx := 2) (by kernel_rfl) rfl (by kernel_rfl) rfl ?_
  show Sim _ _ _ _ ⟨[(0, .t (attrT x)), (1, .t (attrT y)), (2, .ptr 0 0)], app emp [(0, .box [.row 1 o.length]), (1, .row 2 false (List.map attrT o))], 2⟩ _
  refine Sim.seq ?_
  refine Sim.reg (orcs := []) (keys := [2, 3, 4]) (τ := [(0, 0), (1, 1), (2, 2), (10, 10)]) (nx := 18)
    (sl := [(2, .ptr 0 0), (3, .ptr 2 0), (4, .ptr 10 0)]) (l := [(0, .box [.row 1 o.length]), (1, .row 2 false (List.map attrT o)), (2, .box [.t (.sc (.string x.name)), .t (.sc (.string x.val))]), (10, .box [.t (.sc (.string y.name)), .t (.sc (.string y.val))])])
    (C := []) (by kernel_rfl) ?_ ?_
  · -- region 0
    trivial
  refine andThen_normal ?_
  refine Sim.block ?_
  refine Sim.seq ?_
  refine Sim.reg (orcs := []) (keys := [2, 3, 4, 5]) (τ := [(0, 0), (1, 1), (2, 2), (10, 10)]) (nx := 50)
    (sl := [(2, .ptr 0 0), (3, .ptr 2 0), (4, .ptr 10 0), (5, .t (.sc (.bool (seq y.name ({ data := #[] })))))]) (l := [(0, .box [.row 1 o.length]), (1, .row 2 false (List.map attrT o)), (2, .box [.t (.sc (.string x.name)), .t (.sc (.string x.val))]), (10, .box [.t (.sc (.string y.name)), .t (.sc (.string y.val))])])
    (C := []) (by kernel_rfl) ?_ ?_
  · -- region 1
    trivial
  refine andThen_normal ?_
  refine Sim.cond (b := seq y.name ({ data := #[] })) (by kernel_rfl) (fun h1 => ?_) (fun h1 => ?_)
  · skip
    refine Sim.reg (orcs := [(3, ⟨some (.row 1 ((o ++ [x]).length)), some ([(1, .row 2 false (List.map attrT (o ++ [x])))]), none, none⟩)]) (keys := []) (τ := [(0, 0), (1, 1)]) (nx := 90)
      (sl := []) (l := [(0, .box [.row 1 ((o ++ [x]).length)]), (1, .row 2 false (List.map attrT (o ++ [x])))])
      (C := [1 = (List.map attrT [x]).length, (o.length : Nat) = (List.map attrT o).length, (o.length : Nat) + (List.map attrT [x]).length ≤ 1099511627776, Weak (.row 1 (o.length + (List.map attrT [x]).length)) (.row 1 ((o ++ [x]).length)), ([(1, .row 2 false (List.map attrT (o ++ [x])))] : List (Nat × Ob)) = [(1, .row 2 false (List.map attrT o ++ List.map attrT [x]))]]) (by kernel_rfl) ?_ ?_
    · -- region 2
      refine ⟨?_, ?_, ?_, (Weak.of_eq (by simp)), (row_append rfl), trivial⟩
      all_goals (first | omega | with_reducible exact fun h => h | (intro hg hq; rw [hg, hq]; rfl) | (intro hq; rw [hq]; done) | (intro hq; rw [hq]; rfl) | ((try intro hg); (try simp [-List.getD_eq_getElem?_getD] at hg); (try simp only [List.length_map]); first | done | omega | rfl | (simp; done) | (simp; omega) | (simp [hg]; done) | (intro hq; simp [hg, hq]; done) | (intro hq; simp [hg, hq]; omega)))
    refine inBlk_normal ?_
    refine Fin.mk2 (.inr rfl) (τ := [(0, 0), (1, 1)]) (keys := []) (nx := 90) (sl := []) (l := [(0, .box [.row 1 ((o ++ [x]).length)]), (1, .row 2 false (List.map attrT (o ++ [x])))]) (res' := .tup []) (by kernel_rfl) ?_ (by kernel_rfl) ?_
    · -- end 1, objects
      have e1 : ((o ++ (rawG x y).toList).length : Nat) = (o ++ [x]).length := by
        simp only [seq_iff, seq_no] at *; unfold rawG; (repeat' split) <;> simp_all
      have e2 : ((o ++ (rawG x y).toList)) = (o ++ [x]) := by
        simp only [seq_iff, seq_no] at *; unfold rawG; (repeat' split) <;> simp_all
      show ([(0, .box [.row 1 ((o ++ [x]).length)]), (1, .row 2 false (List.map attrT (o ++ [x])))] : List (Nat × Ob)) = [(0, .box [.row 1 ((o ++ (rawG x y).toList).length)]), (1, .row 2 false (List.map attrT (o ++ (rawG x y).toList)))]
      rw [e1, e2]
      try rfl
    · -- end 1, result
      first | done | rfl
  · skip
    refine Sim.seq ?_
    refine Sim.reg (orcs := []) (keys := [2, 4, 13]) (τ := [(0, 0), (1, 1), (10, 10)]) (nx := 82)
      (sl := [(2, .ptr 0 0), (4, .ptr 10 0), (13, .t (.sc (.bool (!(seq y.val ({ data := #[] }))))))]) (l := [(0, .box [.row 1 o.length]), (1, .row 2 false (List.map attrT o)), (10, .box [.t (.sc (.string y.name)), .t (.sc (.string y.val))])])
      (C := []) (by kernel_rfl) ?_ ?_
    · -- region 3
      trivial
    refine andThen_normal ?_
    refine Sim.cond (b := !(seq y.val ({ data := #[] }))) (by kernel_rfl) (fun h3 => ?_) (fun h3 => ?_)
    · (try simp only [Bool.not_eq_true', Bool.not_eq_false'] at h3)
      refine Sim.reg (orcs := [(3, ⟨some (.row 1 ((o ++ [y]).length)), some ([(1, .row 2 false (List.map attrT (o ++ [y])))]), none, none⟩)]) (keys := []) (τ := [(0, 0), (1, 1)]) (nx := 122)
        (sl := []) (l := [(0, .box [.row 1 ((o ++ [y]).length)]), (1, .row 2 false (List.map attrT (o ++ [y])))])
        (C := [1 = (List.map attrT [y]).length, (o.length : Nat) = (List.map attrT o).length, (o.length : Nat) + (List.map attrT [y]).length ≤ 1099511627776, Weak (.row 1 (o.length + (List.map attrT [y]).length)) (.row 1 ((o ++ [y]).length)), ([(1, .row 2 false (List.map attrT (o ++ [y])))] : List (Nat × Ob)) = [(1, .row 2 false (List.map attrT o ++ List.map attrT [y]))]]) (by kernel_rfl) ?_ ?_
      · -- region 4
        refine ⟨?_, ?_, ?_, (Weak.of_eq (by simp)), (row_append rfl), trivial⟩
        all_goals (first | omega | with_reducible exact fun h => h | (intro hg hq; rw [hg, hq]; rfl) | (intro hq; rw [hq]; done) | (intro hq; rw [hq]; rfl) | ((try intro hg); (try simp [-List.getD_eq_getElem?_getD] at hg); (try simp only [List.length_map]); first | done | omega | rfl | (simp; done) | (simp; omega) | (simp [hg]; done) | (intro hq; simp [hg, hq]; done) | (intro hq; simp [hg, hq]; omega)))
      refine inBlk_normal ?_
      refine Fin.mk2 (.inr rfl) (τ := [(0, 0), (1, 1)]) (keys := []) (nx := 122) (sl := []) (l := [(0, .box [.row 1 ((o ++ [y]).length)]), (1, .row 2 false (List.map attrT (o ++ [y])))]) (res' := .tup []) (by kernel_rfl) ?_ (by kernel_rfl) ?_
      · -- end 2, objects
        have e3 : ((o ++ (rawG x y).toList).length : Nat) = (o ++ [y]).length := by
          simp only [seq_iff, seq_no] at *; unfold rawG; (repeat' split) <;> simp_all
        have e4 : ((o ++ (rawG x y).toList)) = (o ++ [y]) := by
          simp only [seq_iff, seq_no] at *; unfold rawG; (repeat' split) <;> simp_all
        show ([(0, .box [.row 1 ((o ++ [y]).length)]), (1, .row 2 false (List.map attrT (o ++ [y])))] : List (Nat × Ob)) = [(0, .box [.row 1 ((o ++ (rawG x y).toList).length)]), (1, .row 2 false (List.map attrT (o ++ (rawG x y).toList)))]
        rw [e3, e4]
        try rfl
      · -- end 2, result
        first | done | rfl
    · (try simp only [Bool.not_eq_true', Bool.not_eq_false'] at h3)
      refine Sim.skip ?_
      refine inBlk_normal ?_
      refine Fin.mk2 (.inr rfl) (τ := [(0, 0), (1, 1)]) (keys := []) (nx := 82) (sl := []) (l := [(0, .box [.row 1 o.length]), (1, .row 2 false (List.map attrT o))]) (res' := .tup []) (by kernel_rfl) ?_ (by kernel_rfl) ?_
      · -- end 3, objects
        have e5 : ((o ++ (rawG x y).toList).length : Nat) = o.length := by
          simp only [seq_iff, seq_no] at *; unfold rawG; (repeat' split) <;> simp_all
        have e6 : ((o ++ (rawG x y).toList)) = o := by
          simp only [seq_iff, seq_no] at *; unfold rawG; (repeat' split) <;> simp_all
        show ([(0, .box [.row 1 o.length]), (1, .row 2 false (List.map attrT o))] : List (Nat × Ob)) = [(0, .box [.row 1 ((o ++ (rawG x y).toList).length)]), (1, .row 2 false (List.map attrT (o ++ (rawG x y).toList)))]
        rw [e5, e6]
        try rfl
      · -- end 3, result
        first | done | rfl

theorem fc_chgG (o : List Attr) (x y : Attr) (hn : o.length < 1099511627776) : FC Try.prog 130 [.t (attrT x), .t (attrT y), .ptr 0 0] (app emp [(0, .box [.row 1 o.length]), (1, .row 2 false (List.map attrT o))]) (.tup []) (app emp [(0, .box [.row 1 ((o ++ (chgG x y).toList).length)]), (1, .row 2 false (List.map attrT (o ++ (chgG x y).toList)))]) := by
  refine FC.of_sim (fn := Try.f130) (nx := 2) (by kernel_rfl) rfl (by kernel_rfl) rfl ?_
  show Sim _ _ _ _ ⟨[(0, .t (attrT x)), (1, .t (attrT y)), (2, .ptr 0 0)], app emp [(0, .box [.row 1 o.length]), (1, .row 2 false (List.map attrT o))], 2⟩ _
  refine Sim.seq ?_
  refine Sim.reg (orcs := []) (keys := [2, 3, 4]) (τ := [(0, 0), (1, 1), (2, 2), (10, 10)]) (nx := 18)
    (sl := [(2, .ptr 0 0), (3, .ptr 2 0), (4, .ptr 10 0)]) (l := [(0, .box [.row 1 o.length]), (1, .row 2 false (List.map attrT o)), (2, .box [.t (.sc (.string x.name)), .t (.sc (.string x.val))]), (10, .box [.t (.sc (.string y.name)), .t (.sc (.string y.val))])])
    (C := []) (by kernel_rfl) ?_ ?_
  · -- region 0
    trivial
  refine andThen_normal ?_
  refine Sim.block ?_
  refine Sim.seq ?_
  refine Sim.reg (orcs := []) (keys := [2, 3, 4, 5]) (τ := [(0, 0), (1, 1), (2, 2), (10, 10)]) (nx := 50)
    (sl := [(2, .ptr 0 0), (3, .ptr 2 0), (4, .ptr 10 0), (5, .t (.sc (.bool (seq y.name ({ data := #[] })))))]) (l := [(0, .box [.row 1 o.length]), (1, .row 2 false (List.map attrT o)), (2, .box [.t (.sc (.string x.name)), .t (.sc (.string x.val))]), (10, .box [.t (.sc (.string y.name)), .t (.sc (.string y.val))])])
    (C := []) (by kernel_rfl) ?_ ?_
  · -- region 1
    trivial
  refine andThen_normal ?_
  refine Sim.cond (b := seq y.name ({ data := #[] })) (by kernel_rfl) (fun h1 => ?_) (fun h1 => ?_)
  · skip
    refine Sim.reg (orcs := [(5, ⟨some (.row 1 ((o ++ [({ name := x.name, val := { data := #[] } } : Attr)]).length)), some ([(1, .row 2 false (List.map attrT (o ++ [({ name := x.name, val := { data := #[] } } : Attr)])))]), none, none⟩)]) (keys := []) (τ := [(0, 0), (1, 1)]) (nx := 106)
      (sl := []) (l := [(0, .box [.row 1 ((o ++ [({ name := x.name, val := { data := #[] } } : Attr)]).length)]), (1, .row 2 false (List.map attrT (o ++ [({ name := x.name, val := { data := #[] } } : Attr)])))])
      (C := [1 = (List.map attrT [({ name := x.name, val := { data := #[] } } : Attr)]).length, (o.length : Nat) = (List.map attrT o).length, (o.length : Nat) + (List.map attrT [({ name := x.name, val := { data := #[] } } : Attr)]).length ≤ 1099511627776, Weak (.row 1 (o.length + (List.map attrT [({ name := x.name, val := { data := #[] } } : Attr)]).length)) (.row 1 ((o ++ [({ name := x.name, val := { data := #[] } } : Attr)]).length)), ([(1, .row 2 false (List.map attrT (o ++ [({ name := x.name, val := { data := #[] } } : Attr)])))] : List (Nat × Ob)) = [(1, .row 2 false (List.map attrT o ++ List.map attrT [({ name := x.name, val := { data := #[] } } : Attr)]))]]) (by kernel_rfl) ?_ ?_
    · -- region 2
      refine ⟨?_, ?_, ?_, (Weak.of_eq (by simp)), (row_append rfl), trivial⟩
      all_goals (first | omega | with_reducible exact fun h => h | (intro hg hq; rw [hg, hq]; rfl) | (intro hq; rw [hq]; done) | (intro hq; rw [hq]; rfl) | ((try intro hg); (try simp [-List.getD_eq_getElem?_getD] at hg); (try simp only [List.length_map]); first | done | omega | rfl | (simp; done) | (simp; omega) | (simp [hg]; done) | (intro hq; simp [hg, hq]; done) | (intro hq; simp [hg, hq]; omega)))
    refine inBlk_normal ?_
    refine Fin.mk2 (.inr rfl) (τ := [(0, 0), (1, 1)]) (keys := []) (nx := 106) (sl := []) (l := [(0, .box [.row 1 ((o ++ [({ name := x.name, val := { data := #[] } } : Attr)]).length)]), (1, .row 2 false (List.map attrT (o ++ [({ name := x.name, val := { data := #[] } } : Attr)])))]) (res' := .tup []) (by kernel_rfl) ?_ (by kernel_rfl) ?_
    · -- end 1, objects
      have e1 : ((o ++ (chgG x y).toList).length : Nat) = (o ++ [({ name := x.name, val := { data := #[] } } : Attr)]).length := by
        simp only [seq_iff, seq_no] at *; unfold chgG; (repeat' split) <;> simp_all
      have e2 : ((o ++ (chgG x y).toList)) = (o ++ [({ name := x.name, val := { data := #[] } } : Attr)]) := by
        simp only [seq_iff, seq_no] at *; unfold chgG; (repeat' split) <;> simp_all
      show ([(0, .box [.row 1 ((o ++ [({ name := x.name, val := { data := #[] } } : Attr)]).length)]), (1, .row 2 false (List.map attrT (o ++ [({ name := x.name, val := { data := #[] } } : Attr)])))] : List (Nat × Ob)) = [(0, .box [.row 1 ((o ++ (chgG x y).toList).length)]), (1, .row 2 false (List.map attrT (o ++ (chgG x y).toList)))]
      rw [e1, e2]
      try rfl
    · -- end 1, result
      first | done | rfl
  · skip
    refine Sim.seq ?_
    refine Sim.reg (orcs := []) (keys := [2, 4, 15]) (τ := [(0, 0), (1, 1), (10, 10)]) (nx := 82)
      (sl := [(2, .ptr 0 0), (4, .ptr 10 0), (15, .t (.sc (.bool (!(seq x.name y.name && (seq x.val y.val && true))))))]) (l := [(0, .box [.row 1 o.length]), (1, .row 2 false (List.map attrT o)), (10, .box [.t (.sc (.string y.name)), .t (.sc (.string y.val))])])
      (C := []) (by kernel_rfl) ?_ ?_
    · -- region 3
      trivial
    refine andThen_normal ?_
    refine Sim.cond (b := !(seq x.name y.name && (seq x.val y.val && true))) (by kernel_rfl) (fun h3 => ?_) (fun h3 => ?_)
    · (try simp only [Bool.not_eq_true', Bool.not_eq_false', Bool.and_eq_true, Bool.and_eq_false_iff] at h3)
      refine Sim.reg (orcs := [(3, ⟨some (.row 1 ((o ++ [y]).length)), some ([(1, .row 2 false (List.map attrT (o ++ [y])))]), none, none⟩)]) (keys := []) (τ := [(0, 0), (1, 1)]) (nx := 122)
        (sl := []) (l := [(0, .box [.row 1 ((o ++ [y]).length)]), (1, .row 2 false (List.map attrT (o ++ [y])))])
        (C := [1 = (List.map attrT [y]).length, (o.length : Nat) = (List.map attrT o).length, (o.length : Nat) + (List.map attrT [y]).length ≤ 1099511627776, Weak (.row 1 (o.length + (List.map attrT [y]).length)) (.row 1 ((o ++ [y]).length)), ([(1, .row 2 false (List.map attrT (o ++ [y])))] : List (Nat × Ob)) = [(1, .row 2 false (List.map attrT o ++ List.map attrT [y]))]]) (by kernel_rfl) ?_ ?_
      · -- region 4
        refine ⟨?_, ?_, ?_, (Weak.of_eq (by simp)), (row_append rfl), trivial⟩
        all_goals (first | omega | with_reducible exact fun h => h | (intro hg hq; rw [hg, hq]; rfl) | (intro hq; rw [hq]; done) | (intro hq; rw [hq]; rfl) | ((try intro hg); (try simp [-List.getD_eq_getElem?_getD] at hg); (try simp only [List.length_map]); first | done | omega | rfl | (simp; done) | (simp; omega) | (simp [hg]; done) | (intro hq; simp [hg, hq]; done) | (intro hq; simp [hg, hq]; omega)))
      refine inBlk_normal ?_
      refine Fin.mk2 (.inr rfl) (τ := [(0, 0), (1, 1)]) (keys := []) (nx := 122) (sl := []) (l := [(0, .box [.row 1 ((o ++ [y]).length)]), (1, .row 2 false (List.map attrT (o ++ [y])))]) (res' := .tup []) (by kernel_rfl) ?_ (by kernel_rfl) ?_
      · -- end 2, objects
        have e3 : ((o ++ (chgG x y).toList).length : Nat) = (o ++ [y]).length := by
          simp only [seq_iff, seq_no] at *; unfold chgG; (repeat' split) <;> simp_all
        have e4 : ((o ++ (chgG x y).toList)) = (o ++ [y]) := by
          simp only [seq_iff, seq_no] at *; unfold chgG; (repeat' split) <;> simp_all
        show ([(0, .box [.row 1 ((o ++ [y]).length)]), (1, .row 2 false (List.map attrT (o ++ [y])))] : List (Nat × Ob)) = [(0, .box [.row 1 ((o ++ (chgG x y).toList).length)]), (1, .row 2 false (List.map attrT (o ++ (chgG x y).toList)))]
        rw [e3, e4]
        try rfl
      · -- end 2, result
        first | done | rfl
    · (try simp only [Bool.not_eq_true', Bool.not_eq_false', Bool.and_eq_true, Bool.and_eq_false_iff] at h3)
      refine Sim.skip ?_
      refine inBlk_normal ?_
      refine Fin.mk2 (.inr rfl) (τ := [(0, 0), (1, 1)]) (keys := []) (nx := 82) (sl := []) (l := [(0, .box [.row 1 o.length]), (1, .row 2 false (List.map attrT o))]) (res' := .tup []) (by kernel_rfl) ?_ (by kernel_rfl) ?_
      · -- end 3, objects
        have e5 : ((o ++ (chgG x y).toList).length : Nat) = o.length := by
          simp only [seq_iff, seq_no] at *; unfold chgG; (repeat' split) <;> simp_all
        have e6 : ((o ++ (chgG x y).toList)) = o := by
          simp only [seq_iff, seq_no] at *; unfold chgG; (repeat' split) <;> simp_all
        show ([(0, .box [.row 1 o.length]), (1, .row 2 false (List.map attrT o))] : List (Nat × Ob)) = [(0, .box [.row 1 ((o ++ (chgG x y).toList).length)]), (1, .row 2 false (List.map attrT (o ++ (chgG x y).toList)))]
        rw [e5, e6]
        try rfl
      · -- end 3, result
        first | done | rfl

theorem fc_raw (a b : List Attr) (hn : a.length + b.length < 1099511627776) : FC Try.prog 83 [.t (.lst 2 (List.map attrT a)), .t (.lst 2 (List.map attrT b))] (app emp []) (.t (.lst 2 (List.map attrT (fm rawG a b)))) (app emp []) := by
  refine FC.of_sim (fn := Try.f83) (nx := 0) (by kernel_rfl) rfl (by kernel_rfl) rfl ?_
  show Sim _ _ _ _ ⟨[(0, .t (.lst 2 (List.map attrT a))), (1, .t (.lst 2 (List.map attrT b)))], app emp [], 0⟩ _
  refine Sim.len (t := 0) (k := 2) rfl (fun hl0 => ?_)
  rw [List.length_map] at hl0
  refine Sim.len (t := 1) (k := 2) rfl (fun hl1 => ?_)
  rw [List.length_map] at hl1
  refine Sim.seq ?_
  refine Sim.reg (orcs := []) (keys := [0, 1]) (τ := []) (nx := 8)
    (sl := [(0, .t (.lst 2 (List.map attrT a))), (1, .t (.lst 2 (List.map attrT b)))]) (l := [])
    (C := []) (by kernel_rfl) ?_ ?_
  · -- region 0
    trivial
  refine andThen_normal ?_
  refine Sim.seq ?_
  refine Sim.reg (orcs := []) (keys := [0, 1, 5]) (τ := [(8, 8)]) (nx := 16)
    (sl := [(0, .t (.lst 2 (List.map attrT a))), (1, .t (.lst 2 (List.map attrT b))), (5, .ptr 8 0)]) (l := [(8, .box [.t (.sc (.slice none 0 0))])])
    (C := []) (by kernel_rfl) ?_ ?_
  · -- region 1
    trivial
  refine andThen_normal ?_
  refine Sim.seq ?_
  refine Sim.weaken (Le.nilBox (b := 8) (i := 0) (k := 2) (id := 16) rfl rfl rfl rfl) ?_
  refine Sim.weaken (Le.ren (τ := [(8, 8), (16, 16)]) (keys := [0, 1, 5]) (nx := 17) (sl := [(0, .t (.lst 2 (List.map attrT a))), (1, .t (.lst 2 (List.map attrT b))), (5, .ptr 8 0)]) (l := [(8, .box [.row 16 0]), (16, .row 2 false (List.map attrT []))]) (by kernel_rfl)) ?_
  refine Sim.reg (orcs := [(3, ⟨none, none, none, some (⟨2, [8, 16], .tup [], [(8, .box [.row 16 ((fm rawG a b).length)]), (16, .row 2 false (List.map attrT (fm rawG a b)))]⟩)⟩)]) (keys := [5]) (τ := [(8, 8), (16, 16)]) (nx := 49)
    (sl := [(5, .ptr 8 0)]) (l := [(8, .box [.row 16 ((fm rawG a b).length)]), (16, .row 2 false (List.map attrT (fm rawG a b)))])
    (C := [callable Try.prog 128 = true, FC Try.prog 128 [.t (.lst 2 (List.map attrT a)), .t (.lst 2 (List.map attrT b)), .fn 129 [.ptr 8 0]] (only (only (app emp [(8, .box [.row 16 0]), (16, .row 2 false (List.map attrT []))]) [8, 8, 16]) [8, 16]) (.tup []) (app (only (only (app emp [(8, .box [.row 16 0]), (16, .row 2 false (List.map attrT []))]) [8, 8, 16]) [8, 16]) [(8, .box [.row 16 ((fm rawG a b).length)]), (16, .row 2 false (List.map attrT (fm rawG a b)))])]) (by kernel_rfl) ?_ ?_
  · -- region 2
    exact ⟨(by kernel_rfl), (FC.at (FC.ren (fc_both 129 rawG (by kernel_rfl) fc_rawG a b [] (by simp; omega)) [(0, 8), (1, 16)] [(0, 8), (1, 16)] (l0' := [(8, .box [.row 16 0]), (16, .row 2 false (List.map attrT []))]) (args' := [.t (.lst 2 (List.map attrT a)), .t (.lst 2 (List.map attrT b)), .fn 129 [.ptr 8 0]]) (res' := .tup []) (l1' := [(8, .box [.row 16 ((fm rawG a b).length)]), (16, .row 2 false (List.map attrT (fm rawG a b)))]) (by kernel_rfl) (by kernel_rfl) (by kernel_rfl) (by kernel_rfl) (by kernel_rfl) (by kernel_rfl)) (fun i => by by_cases e0 : i = 8; (subst e0; rfl); by_cases e1 : i = 16; (subst e1; rfl); simp only [only, app, upd, emp, hasId, cond_false, beq_ne e0, beq_ne (Ne.symm e0), beq_ne e1, beq_ne (Ne.symm e1)]) (fun i => by by_cases e0 : i = 8; (subst e0; rfl); by_cases e1 : i = 16; (subst e1; rfl); simp only [only, app, upd, emp, hasId, cond_false, beq_ne e0, beq_ne (Ne.symm e0), beq_ne e1, beq_ne (Ne.symm e1)])), trivial⟩
  refine andThen_normal ?_
  refine Sim.seq ?_
  refine Sim.reg (orcs := []) (keys := [4]) (τ := [(16, 16)]) (nx := 65)
    (sl := [(4, .row 16 ((fm rawG a b).length))]) (l := [(16, .row 2 false (List.map attrT (fm rawG a b)))])
    (C := []) (by kernel_rfl) ?_ ?_
  · -- region 3
    trivial
  refine andThen_normal ?_
  refine Sim.ret ?_
  refine Fin.le (Le.freeze (t := 4) (v' := .t (.lst 2 (List.map attrT (fm rawG a b)))) (g := [(16, .row 2 true (List.map attrT (fm rawG a b)))]) (p := [(((fm rawG a b).length) : Nat) = (List.map attrT (fm rawG a b)).length]) rfl (by kernel_rfl) ⟨(by (first | omega | with_reducible exact fun h => h | (intro hq; rw [hq]; done) | (intro hq; rw [hq]; rfl) | (simp only [List.length_map]; done) | (simp only [List.length_map]; omega) | (simp; omega) | (simp; done))), trivial⟩ (by kernel_rfl)) ?_
  refine Fin.mk2 (.inl rfl) (τ := []) (keys := [4]) (nx := 65) (sl := [(4, .t (.lst 2 (List.map attrT (fm rawG a b))))]) (l := []) (res' := .t (.lst 2 (List.map attrT (fm rawG a b)))) (by kernel_rfl) ?_ (by kernel_rfl) ?_
  · -- end 1, objects
    first | done | rfl
  · -- end 1, result
    first | done | rfl

theorem fc_change (a b : List Attr) (hn : a.length + b.length < 1099511627776) : FC Try.prog 84 [.t (.lst 2 (List.map attrT a)), .t (.lst 2 (List.map attrT b))] (app emp []) (.t (.lst 2 (List.map attrT (fm chgG a b)))) (app emp []) := by
  refine FC.of_sim (fn := Try.f84) (nx := 0) (by kernel_rfl) rfl (by kernel_rfl) rfl ?_
  show Sim _ _ _ _ ⟨[(0, .t (.lst 2 (List.map attrT a))), (1, .t (.lst 2 (List.map attrT b)))], app emp [], 0⟩ _
  refine Sim.len (t := 0) (k := 2) rfl (fun hl0 => ?_)
  rw [List.length_map] at hl0
  refine Sim.len (t := 1) (k := 2) rfl (fun hl1 => ?_)
  rw [List.length_map] at hl1
  refine Sim.seq ?_
  refine Sim.reg (orcs := []) (keys := [0, 1]) (τ := []) (nx := 8)
    (sl := [(0, .t (.lst 2 (List.map attrT a))), (1, .t (.lst 2 (List.map attrT b)))]) (l := [])
    (C := []) (by kernel_rfl) ?_ ?_
  · -- region 0
    trivial
  refine andThen_normal ?_
  refine Sim.seq ?_
  refine Sim.reg (orcs := []) (keys := [0, 1, 5]) (τ := [(8, 8)]) (nx := 16)
    (sl := [(0, .t (.lst 2 (List.map attrT a))), (1, .t (.lst 2 (List.map attrT b))), (5, .ptr 8 0)]) (l := [(8, .box [.t (.sc (.slice none 0 0))])])
    (C := []) (by kernel_rfl) ?_ ?_
  · -- region 1
    trivial
  refine andThen_normal ?_
  refine Sim.seq ?_
  refine Sim.weaken (Le.nilBox (b := 8) (i := 0) (k := 2) (id := 16) rfl rfl rfl rfl) ?_
  refine Sim.weaken (Le.ren (τ := [(8, 8), (16, 16)]) (keys := [0, 1, 5]) (nx := 17) (sl := [(0, .t (.lst 2 (List.map attrT a))), (1, .t (.lst 2 (List.map attrT b))), (5, .ptr 8 0)]) (l := [(8, .box [.row 16 0]), (16, .row 2 false (List.map attrT []))]) (by kernel_rfl)) ?_
  refine Sim.reg (orcs := [(3, ⟨none, none, none, some (⟨2, [8, 16], .tup [], [(8, .box [.row 16 ((fm chgG a b).length)]), (16, .row 2 false (List.map attrT (fm chgG a b)))]⟩)⟩)]) (keys := [5]) (τ := [(8, 8), (16, 16)]) (nx := 49)
    (sl := [(5, .ptr 8 0)]) (l := [(8, .box [.row 16 ((fm chgG a b).length)]), (16, .row 2 false (List.map attrT (fm chgG a b)))])
    (C := [callable Try.prog 128 = true, FC Try.prog 128 [.t (.lst 2 (List.map attrT a)), .t (.lst 2 (List.map attrT b)), .fn 130 [.ptr 8 0]] (only (only (app emp [(8, .box [.row 16 0]), (16, .row 2 false (List.map attrT []))]) [8, 8, 16]) [8, 16]) (.tup []) (app (only (only (app emp [(8, .box [.row 16 0]), (16, .row 2 false (List.map attrT []))]) [8, 8, 16]) [8, 16]) [(8, .box [.row 16 ((fm chgG a b).length)]), (16, .row 2 false (List.map attrT (fm chgG a b)))])]) (by kernel_rfl) ?_ ?_
  · -- region 2
    exact ⟨(by kernel_rfl), (FC.at (FC.ren (fc_both 130 chgG (by kernel_rfl) fc_chgG a b [] (by simp; omega)) [(0, 8), (1, 16)] [(0, 8), (1, 16)] (l0' := [(8, .box [.row 16 0]), (16, .row 2 false (List.map attrT []))]) (args' := [.t (.lst 2 (List.map attrT a)), .t (.lst 2 (List.map attrT b)), .fn 130 [.ptr 8 0]]) (res' := .tup []) (l1' := [(8, .box [.row 16 ((fm chgG a b).length)]), (16, .row 2 false (List.map attrT (fm chgG a b)))]) (by kernel_rfl) (by kernel_rfl) (by kernel_rfl) (by kernel_rfl) (by kernel_rfl) (by kernel_rfl)) (fun i => by by_cases e0 : i = 8; (subst e0; rfl); by_cases e1 : i = 16; (subst e1; rfl); simp only [only, app, upd, emp, hasId, cond_false, beq_ne e0, beq_ne (Ne.symm e0), beq_ne e1, beq_ne (Ne.symm e1)]) (fun i => by by_cases e0 : i = 8; (subst e0; rfl); by_cases e1 : i = 16; (subst e1; rfl); simp only [only, app, upd, emp, hasId, cond_false, beq_ne e0, beq_ne (Ne.symm e0), beq_ne e1, beq_ne (Ne.symm e1)])), trivial⟩
  refine andThen_normal ?_
  refine Sim.seq ?_
  refine Sim.reg (orcs := []) (keys := [4]) (τ := [(16, 16)]) (nx := 65)
    (sl := [(4, .row 16 ((fm chgG a b).length))]) (l := [(16, .row 2 false (List.map attrT (fm chgG a b)))])
    (C := []) (by kernel_rfl) ?_ ?_
  · -- region 3
    trivial
  refine andThen_normal ?_
  refine Sim.ret ?_
  refine Fin.le (Le.freeze (t := 4) (v' := .t (.lst 2 (List.map attrT (fm chgG a b)))) (g := [(16, .row 2 true (List.map attrT (fm chgG a b)))]) (p := [(((fm chgG a b).length) : Nat) = (List.map attrT (fm chgG a b)).length]) rfl (by kernel_rfl) ⟨(by (first | omega | with_reducible exact fun h => h | (intro hq; rw [hq]; done) | (intro hq; rw [hq]; rfl) | (simp only [List.length_map]; done) | (simp only [List.length_map]; omega) | (simp; omega) | (simp; done))), trivial⟩ (by kernel_rfl)) ?_
  refine Fin.mk2 (.inl rfl) (τ := []) (keys := [4]) (nx := 65) (sl := [(4, .t (.lst 2 (List.map attrT (fm chgG a b))))]) (l := []) (res' := .t (.lst 2 (List.map attrT (fm chgG a b)))) (by kernel_rfl) ?_ (by kernel_rfl) ?_
  · -- end 1, objects
    first | done | rfl
  · -- end 1, result
    first | done | rfl

end Go.Ch
