import Derived.Test.YtbdbibmbfmlobaaChFlow
import Derived.Test.YtbdbibmbfmlobaaDeltaPlain
set_option linter.unusedVariables false
set_option linter.unusedSimpArgs false
set_option maxRecDepth 100000
set_option maxHeartbeats 4000000
open Go Go.Proofs Go.Ab
namespace Go.Ch
theorem set_fill {α : Type} [Inhabited α] {l : List α} {i n : Nat} {z x : α} (hn : n = l.length) (hi : i < n) (hx : x = l.getD i default) : (l.take i ++ List.replicate (n - i) z).set i x = l.take (i + 1) ++ List.replicate (n - (i + 1)) z := by
  subst hn
  have h1 : (l.take i).length = i := by simp; omega
  rw [List.set_append, if_neg (by omega), h1, Nat.sub_self, show l.length - i = (l.length - (i + 1)) + 1 by omega, List.replicate_succ, List.set_cons_zero, List.take_succ_eq_append_getElem hi, hx, List.append_assoc]
  simp only [List.getD, List.getElem?_eq_getElem hi, Option.getD_some]
  rfl

theorem fc_copy (l : List Elem) (hn : l.length ≤ 1000000000000) (hs : AN 400000000000 l) : FC Try.prog 137 [.t (.lst 3 (List.map elemT l))] (app emp []) (.t (.lst 3 (List.map elemT l))) (app emp []) := by
  refine FC.of_sim (fn := Try.f137) (nx := 0) (by kernel_rfl) rfl (by kernel_rfl) rfl ?_
  show Sim _ _ _ _ ⟨[(0, .t (.lst 3 (List.map elemT l)))], app emp [], 0⟩ _
  refine Sim.len (t := 0) (k := 3) rfl (fun hl0 => ?_)
  rw [List.length_map] at hl0
  refine Sim.seq ?_
  refine Sim.reg (orcs := []) (keys := [0]) (τ := []) (nx := 8)
    (sl := [(0, .t (.lst 3 (List.map elemT l)))]) (l := [])
    (C := []) (by kernel_rfl) ?_ ?_
  · -- region 0
    trivial
  refine andThen_normal ?_
  refine Sim.seq ?_
  refine Sim.reg (orcs := [(1, ⟨some (.t (.sc (.int .i64 (l.length : Int)))), none, none, none⟩), (2, ⟨none, some ([(24, .row 3 false (List.map elemT (List.replicate l.length ({ char := 0, ref := 0, attrs := [] } : Elem))))]), some (.agg [.sc (.int .i64 0), .sc (.int .i64 0), .lst 2 (List.map attrT [])]), none⟩)]) (keys := [0, 3]) (τ := [(24, 24)]) (nx := 40)
    (sl := [(0, .t (.lst 3 (List.map elemT l))), (3, .row 24 l.length)]) (l := [(24, .row 3 false (List.map elemT (List.replicate l.length ({ char := 0, ref := 0, attrs := [] } : Elem))))])
    (C := [Weak (.t (.sc (.int .i64 ((List.map elemT l).length : Int)))) (.t (.sc (.int .i64 (l.length : Int)))), (0:Int) ≤ (l.length : Int), ((l.length : Int) : Int) ≤ (l.length : Int), ((l.length : Int) : Int) ≤ 1099511627776, TWs [.sc (.int .i64 0), .sc (.int .i64 0), .sc (.slice none 0 0)] [.sc (.int .i64 0), .sc (.int .i64 0), .lst 2 (List.map attrT [])], ([(24, .row 3 false (List.map elemT (List.replicate l.length ({ char := 0, ref := 0, attrs := [] } : Elem))))] : List (Nat × Ob)) = [(24, .row 3 false (List.replicate l.length (.agg [.sc (.int .i64 0), .sc (.int .i64 0), .lst 2 (List.map attrT [])])))]]) (by kernel_rfl) ?_ ?_
  · -- region 1
    refine ⟨(Weak.of_eq len_map), ?_, ?_, ?_, ⟨.inl rfl, ⟨.inl rfl, ⟨tw_nil (by decide), trivial⟩⟩⟩, (by rw [List.map_replicate]; rfl), trivial⟩
    all_goals omega
  refine andThen_normal ?_
  refine Sim.seq ?_
  refine Sim.seq ?_
  refine Sim.reg (orcs := [(1, ⟨some (.t (.sc (.int .i64 (l.length : Int)))), none, none, none⟩)]) (keys := [3, 9, 10, 11]) (τ := [(24, 24)]) (nx := 64)
    (sl := [(3, .row 24 l.length), (9, .t (.lst 3 (List.map elemT l))), (10, .t (.sc (.int .i64 (l.length : Int)))), (11, .t (.sc (.int .i64 0)))]) (l := [(24, .row 3 false (List.map elemT (List.replicate l.length ({ char := 0, ref := 0, attrs := [] } : Elem))))])
    (C := [Weak (.t (.sc (.int .i64 ((List.map elemT l).length : Int)))) (.t (.sc (.int .i64 (l.length : Int))))]) (by kernel_rfl) ?_ ?_
  · -- region 2
    exact ⟨(Weak.of_eq len_map), trivial⟩
  refine andThen_normal ?_
  refine Sim.block ?_
  refine Sim.weaken (Le.ren (τ := [(24, 24)]) (keys := [3, 9, 10, 11]) (nx := 64) (sl := [(3, .row 24 l.length), (9, .t (.lst 3 (List.map elemT l))), (10, .t (.sc (.int .i64 (l.length : Int)))), (11, .t (.sc (.int .i64 ((0 : Nat) : Int))))]) (l := [(24, .row 3 false (List.map elemT (List.replicate l.length ({ char := 0, ref := 0, attrs := [] } : Elem))))]) (by kernel_rfl)) ?_
  refine Sim.loop ?_
  refine loop_ind (α := Nat × (List Elem)) (fun (i, o) => ⟨[(3, .row 24 l.length), (9, .t (.lst 3 (List.map elemT l))), (10, .t (.sc (.int .i64 (l.length : Int)))), (11, .t (.sc (.int .i64 (i : Int))))], app emp [(24, .row 3 false (List.map elemT o))], 64⟩) (fun (i, o) => i ≤ l.length ∧ o = l.take i ++ List.replicate (l.length - i) ({ char := 0, ref := 0, attrs := [] } : Elem)) (fun (i, o) => l.length - i) ?_ (0, (List.replicate l.length ({ char := 0, ref := 0, attrs := [] } : Elem))) ?_
  rotate_left
  · -- loop 3, start
    exact ⟨by omega, by simp⟩
  rintro ⟨i, o⟩ I3 ih3
  show LoopSim _ _ _ _ ⟨[(3, .row 24 l.length), (9, .t (.lst 3 (List.map elemT l))), (10, .t (.sc (.int .i64 (l.length : Int)))), (11, .t (.sc (.int .i64 (i : Int))))], app emp [(24, .row 3 false (List.map elemT o))], 64⟩ _
  replace I3 : i ≤ l.length ∧ o = l.take i ++ List.replicate (l.length - i) ({ char := 0, ref := 0, attrs := [] } : Elem) := I3
  have ol : o.length = l.length := by rw [I3.2]; simp; omega
  refine LoopSim.step ?_
  refine Sim.seq ?_
  refine Sim.reg (orcs := []) (keys := [3, 9, 10, 11, 12]) (τ := [(24, 24)]) (nx := 72)
    (sl := [(3, .row 24 l.length), (9, .t (.lst 3 (List.map elemT l))), (10, .t (.sc (.int .i64 (l.length : Int)))), (11, .t (.sc (.int .i64 (i : Int)))), (12, .t (.sc (.bool (decide ((i : Int) < (l.length : Int))))))]) (l := [(24, .row 3 false (List.map elemT o))])
    (C := []) (by kernel_rfl) ?_ ?_
  · -- region 3
    trivial
  refine andThen_normal ?_
  refine Sim.seq ?_
  refine Sim.cond (b := decide ((i : Int) < (l.length : Int))) (by kernel_rfl) (fun h3 => ?_) (fun h3 => ?_)
  · (try simp only [decide_eq_true_eq, decide_eq_false_iff_not, Int.not_lt, Int.not_le] at h3)
    refine Sim.skip ?_
    refine andThen_normal ?_
    refine Sim.seq ?_
    refine Sim.block ?_
    refine Sim.seq ?_
    refine Sim.reg (orcs := [(1, ⟨none, none, some (elemT (l.getD i default)), none⟩)]) (keys := [3, 4, 5, 9, 10, 11]) (τ := [(24, 24), (96, 96)]) (nx := 120)
      (sl := [(3, .row 24 l.length), (4, .t (.sc (.int .i64 (i : Int)))), (5, .ptr 96 0), (9, .t (.lst 3 (List.map elemT l))), (10, .t (.sc (.int .i64 (l.length : Int)))), (11, .t (.sc (.int .i64 (i : Int))))]) (l := [(24, .row 3 false (List.map elemT o)), (96, .box [.t (.sc (.int .i64 (((l.getD i default)).char))), .t (.sc (.int .i64 (((l.getD i default)).ref))), .t (.lst 2 (List.map attrT (((l.getD i default)).attrs)))])])
      (C := [(0:Int) ≤ (i : Int), (List.map elemT l)[i]? = some (elemT (l.getD i default))]) (by kernel_rfl) ?_ ?_
    · -- region 4
      refine ⟨?_, (elt_nat ?_), trivial⟩
      all_goals omega
    refine andThen_normal ?_
    have hx := hs _ (getDE_mem (l := l) (k := i) (by omega))
    refine Sim.regD (by kernel_rfl) (orcs := [(8, ⟨some (.row 184 ((((l.getD i default)).attrs).length)), none, none, none⟩), (11, ⟨none, some ([(184, .row 2 true (List.map attrT (((l.getD i default)).attrs))), (24, .row 3 false (List.map elemT (o.set i ((l.getD i default)))))]), some (elemT (o.getD i default)), none⟩)]) (keys := [3, 9, 10, 11]) (τ := [(24, 24)]) (nx := 216)
      (sl := [(3, .row 24 l.length), (9, .t (.lst 3 (List.map elemT l))), (10, .t (.sc (.int .i64 (l.length : Int)))), (11, .t (.sc (.int .i64 (i : Int))))]) (l := [(24, .row 3 false (List.map elemT (o.set i ((l.getD i default)))))])
      (C := [((List.map attrT (((l.getD i default)).attrs)).length : Nat) ≤ 1099511627776, Weak (.row 184 ((List.map attrT (((l.getD i default)).attrs)).length)) (.row 184 ((((l.getD i default)).attrs).length)), (l.length : Nat) = (List.map elemT o).length, (0:Int) ≤ (i : Int), (i : Int) < ((l.length : Nat) : Int), (((((l.getD i default)).attrs).length) : Nat) = (List.map attrT (((l.getD i default)).attrs)).length, (l.length : Nat) = (List.map elemT o).length, (List.map elemT o)[i]? = some (elemT (o.getD i default)), ([(184, .row 2 true (List.map attrT (((l.getD i default)).attrs))), (24, .row 3 false (List.map elemT (o.set i ((l.getD i default)))))] : List (Nat × Ob)) = [(184, .row 2 true (List.map attrT (((l.getD i default)).attrs))), (24, .row 3 false ((List.map elemT o).set i (.agg [.sc (.int .i64 (((l.getD i default)).char)), .sc (.int .i64 (((l.getD i default)).ref)), .lst 2 (List.map attrT (((l.getD i default)).attrs))])))]]) (by kernel_rfl) ?_ ?_
    · -- region 5
      refine ⟨?_, (Weak.of_eq (by rw [List.length_map])), ?_, ?_, ?_, ?_, ?_, (elt_nat ?_), (by rw [List.map_set]; rfl), trivial⟩
      all_goals (first | omega | with_reducible exact fun h => h | (intro hg hq; rw [hg, hq]; rfl) | (intro hq; rw [hq]; done) | (intro hq; rw [hq]; rfl) | ((try intro hg); (try simp [-List.getD_eq_getElem?_getD] at hg); (try simp only [List.length_map]); first | done | omega | rfl | (simp; done) | (simp; omega) | (simp [hg]; done) | (intro hq; simp [hg, hq]; done) | (intro hq; simp [hg, hq]; omega)))
    refine inBlk_normal ?_
    refine andThen_normal ?_
    refine Sim.reg (orcs := [(0, ⟨some (.t (.sc (.int .i64 ((i : Int) + 1)))), none, none, none⟩)]) (keys := [3, 9, 10, 11]) (τ := [(24, 24)]) (nx := 232)
      (sl := [(3, .row 24 l.length), (9, .t (.lst 3 (List.map elemT l))), (10, .t (.sc (.int .i64 (l.length : Int)))), (11, .t (.sc (.int .i64 ((i : Int) + 1))))]) (l := [(24, .row 3 false (List.map elemT (o.set i ((l.getD i default)))))])
      (C := [Weak (.t (.sc (.int .i64 (IntKind.i64.wrap ((i : Int) + 1))))) (.t (.sc (.int .i64 ((i : Int) + 1))))]) (by kernel_rfl) ?_ ?_
    · -- region 6
      refine ⟨(Weak.of_eq (nw ?_)), trivial⟩
      all_goals omega
    refine andThen_normal ?_
    refine LoopSim.weaken (Le.ren (τ := [(24, 24)]) (keys := [3, 9, 10, 11]) (nx := 64) (sl := [(3, .row 24 l.length), (9, .t (.lst 3 (List.map elemT l))), (10, .t (.sc (.int .i64 (l.length : Int)))), (11, .t (.sc (.int .i64 (((i + 1) : Nat) : Int))))]) (l := [(24, .row 3 false (List.map elemT (o.set i ((l.getD i default)))))]) (by kernel_rfl)) ?_
    refine ih3 ((i + 1), (o.set i ((l.getD i default)))) ?_ ?_
    · -- back 3.1, invariant
      refine ⟨by omega, ?_⟩
      rw [I3.2]
      exact set_fill rfl (by omega) rfl
    · -- back 3.1, measure
      show (_:Nat) < _; (first | omega | with_reducible exact fun h => h | (intro hq; rw [hq]; done) | (intro hq; rw [hq]; rfl) | (simp only [List.length_map]; done) | (simp only [List.length_map]; omega) | (simp; omega) | (simp; done))
  · (try simp only [decide_eq_true_eq, decide_eq_false_iff_not, Int.not_lt, Int.not_le] at h3)
    refine Sim.exit ?_
    refine andThen_exit ?_
    refine andThen_exit ?_
    refine inBlk_same ?_
    refine andThen_normal ?_
    refine Sim.seq ?_
    refine Sim.reg (orcs := []) (keys := [2]) (τ := [(24, 24)]) (nx := 88)
      (sl := [(2, .row 24 l.length)]) (l := [(24, .row 3 false (List.map elemT o))])
      (C := []) (by kernel_rfl) ?_ ?_
    · -- region 7
      trivial
    refine andThen_normal ?_
    refine Sim.ret ?_
    refine Fin.le (Le.freeze (t := 2) (v' := .t (.lst 3 (List.map elemT o))) (g := [(24, .row 3 true (List.map elemT o))]) (p := [(l.length : Nat) = (List.map elemT o).length]) rfl (by kernel_rfl) ⟨(by (first | omega | with_reducible exact fun h => h | (intro hq; rw [hq]; done) | (intro hq; rw [hq]; rfl) | (simp only [List.length_map]; done) | (simp only [List.length_map]; omega) | (simp; omega) | (simp; done))), trivial⟩ (by kernel_rfl)) ?_
    refine Fin.mk2 (.inl rfl) (τ := []) (keys := [2]) (nx := 88) (sl := [(2, .t (.lst 3 (List.map elemT o)))]) (l := []) (res' := .t (.lst 3 (List.map elemT o))) (by kernel_rfl) ?_ (by kernel_rfl) ?_
    · -- end 1, objects
      first | done | rfl
    · -- end 1, result
      have e1 : (l) = o := by
        rw [I3.2, List.take_of_length_le (by omega), show l.length - i = 0 by omega]; simp
      show AVal.t (.lst 3 (List.map elemT o)) = .t (.lst 3 (List.map elemT l))
      rw [e1]
      try rfl

theorem map_fill {l : List Elem} {i : Nat} {z : Elem} {f : Elem → Elem} (hi : i < l.length) {y : Elem} (hy : y = f (l.getD i default)) : ((l.take i).map f ++ List.replicate (l.length - i) z).set i y = (l.take (i + 1)).map f ++ List.replicate (l.length - (i + 1)) z := by
  have h1 : ((l.take i).map f).length = i := by simp; omega
  rw [List.set_append, if_neg (by omega), h1, Nat.sub_self, show l.length - i = (l.length - (i + 1)) + 1 by omega, List.replicate_succ, List.set_cons_zero, List.take_succ_eq_append_getElem hi, hy, List.map_append, List.append_assoc]
  simp only [List.getD, List.getElem?_eq_getElem hi, Option.getD_some]
  rfl

theorem fc_changed (l : List Elem) (c : List Attr) (hn : l.length ≤ 1000000000000) (hs : ∀ x ∈ l, x.attrs.length + c.length < 1099511627776) : FC Try.prog 114 [.t (.lst 3 (List.map elemT l)), .t (.lst 2 (List.map attrT c))] (app emp []) (.t (.lst 3 (List.map elemT (List.map (chgE c) l)))) (app emp []) := by
  refine FC.of_sim (fn := Try.f114) (nx := 0) (by kernel_rfl) rfl (by kernel_rfl) rfl ?_
  show Sim _ _ _ _ ⟨[(0, .t (.lst 3 (List.map elemT l))), (1, .t (.lst 2 (List.map attrT c)))], app emp [], 0⟩ _
  refine Sim.len (t := 0) (k := 3) rfl (fun hl0 => ?_)
  rw [List.length_map] at hl0
  refine Sim.len (t := 1) (k := 2) rfl (fun hl1 => ?_)
  rw [List.length_map] at hl1
  refine Sim.seq ?_
  refine Sim.reg (orcs := []) (keys := [0, 1]) (τ := []) (nx := 8)
    (sl := [(0, .t (.lst 3 (List.map elemT l))), (1, .t (.lst 2 (List.map attrT c)))]) (l := [])
    (C := []) (by kernel_rfl) ?_ ?_
  · -- region 0
    trivial
  refine andThen_normal ?_
  refine Sim.seq ?_
  refine Sim.reg (orcs := [(1, ⟨some (.t (.sc (.int .i64 (l.length : Int)))), none, none, none⟩), (2, ⟨none, some ([(24, .row 3 false (List.map elemT (List.replicate l.length ({ char := 0, ref := 0, attrs := [] } : Elem))))]), some (.agg [.sc (.int .i64 0), .sc (.int .i64 0), .lst 2 (List.map attrT [])]), none⟩)]) (keys := [0, 1, 5]) (τ := [(24, 24)]) (nx := 40)
    (sl := [(0, .t (.lst 3 (List.map elemT l))), (1, .t (.lst 2 (List.map attrT c))), (5, .row 24 l.length)]) (l := [(24, .row 3 false (List.map elemT (List.replicate l.length ({ char := 0, ref := 0, attrs := [] } : Elem))))])
    (C := [Weak (.t (.sc (.int .i64 ((List.map elemT l).length : Int)))) (.t (.sc (.int .i64 (l.length : Int)))), (0:Int) ≤ (l.length : Int), ((l.length : Int) : Int) ≤ (l.length : Int), ((l.length : Int) : Int) ≤ 1099511627776, TWs [.sc (.int .i64 0), .sc (.int .i64 0), .sc (.slice none 0 0)] [.sc (.int .i64 0), .sc (.int .i64 0), .lst 2 (List.map attrT [])], ([(24, .row 3 false (List.map elemT (List.replicate l.length ({ char := 0, ref := 0, attrs := [] } : Elem))))] : List (Nat × Ob)) = [(24, .row 3 false (List.replicate l.length (.agg [.sc (.int .i64 0), .sc (.int .i64 0), .lst 2 (List.map attrT [])])))]]) (by kernel_rfl) ?_ ?_
  · -- region 1
    refine ⟨(Weak.of_eq len_map), ?_, ?_, ?_, ⟨.inl rfl, ⟨.inl rfl, ⟨tw_nil (by decide), trivial⟩⟩⟩, (by rw [List.map_replicate]; rfl), trivial⟩
    all_goals omega
  refine andThen_normal ?_
  refine Sim.seq ?_
  refine Sim.seq ?_
  refine Sim.reg (orcs := [(1, ⟨some (.t (.sc (.int .i64 (l.length : Int)))), none, none, none⟩)]) (keys := [1, 5, 11, 12, 13]) (τ := [(24, 24)]) (nx := 64)
    (sl := [(1, .t (.lst 2 (List.map attrT c))), (5, .row 24 l.length), (11, .t (.lst 3 (List.map elemT l))), (12, .t (.sc (.int .i64 (l.length : Int)))), (13, .t (.sc (.int .i64 0)))]) (l := [(24, .row 3 false (List.map elemT (List.replicate l.length ({ char := 0, ref := 0, attrs := [] } : Elem))))])
    (C := [Weak (.t (.sc (.int .i64 ((List.map elemT l).length : Int)))) (.t (.sc (.int .i64 (l.length : Int))))]) (by kernel_rfl) ?_ ?_
  · -- region 2
    exact ⟨(Weak.of_eq len_map), trivial⟩
  refine andThen_normal ?_
  refine Sim.block ?_
  refine Sim.weaken (Le.ren (τ := [(24, 24)]) (keys := [1, 5, 11, 12, 13]) (nx := 64) (sl := [(1, .t (.lst 2 (List.map attrT c))), (5, .row 24 l.length), (11, .t (.lst 3 (List.map elemT l))), (12, .t (.sc (.int .i64 (l.length : Int)))), (13, .t (.sc (.int .i64 ((0 : Nat) : Int))))]) (l := [(24, .row 3 false (List.map elemT (List.replicate l.length ({ char := 0, ref := 0, attrs := [] } : Elem))))]) (by kernel_rfl)) ?_
  refine Sim.loop ?_
  refine loop_ind (α := Nat × (List Elem)) (fun (i, o) => ⟨[(1, .t (.lst 2 (List.map attrT c))), (5, .row 24 l.length), (11, .t (.lst 3 (List.map elemT l))), (12, .t (.sc (.int .i64 (l.length : Int)))), (13, .t (.sc (.int .i64 (i : Int))))], app emp [(24, .row 3 false (List.map elemT o))], 64⟩) (fun (i, o) => i ≤ l.length ∧ o = (l.take i).map (chgE c) ++ List.replicate (l.length - i) ({ char := 0, ref := 0, attrs := [] } : Elem)) (fun (i, o) => l.length - i) ?_ (0, (List.replicate l.length ({ char := 0, ref := 0, attrs := [] } : Elem))) ?_
  rotate_left
  · -- loop 3, start
    exact ⟨by omega, by simp⟩
  rintro ⟨i, o⟩ I3 ih3
  show LoopSim _ _ _ _ ⟨[(1, .t (.lst 2 (List.map attrT c))), (5, .row 24 l.length), (11, .t (.lst 3 (List.map elemT l))), (12, .t (.sc (.int .i64 (l.length : Int)))), (13, .t (.sc (.int .i64 (i : Int))))], app emp [(24, .row 3 false (List.map elemT o))], 64⟩ _
  replace I3 : i ≤ l.length ∧ o = (l.take i).map (chgE c) ++ List.replicate (l.length - i) ({ char := 0, ref := 0, attrs := [] } : Elem) := I3
  have ol : o.length = l.length := by rw [I3.2]; simp; omega
  refine LoopSim.step ?_
  refine Sim.seq ?_
  refine Sim.reg (orcs := []) (keys := [1, 5, 11, 12, 13, 14]) (τ := [(24, 24)]) (nx := 72)
    (sl := [(1, .t (.lst 2 (List.map attrT c))), (5, .row 24 l.length), (11, .t (.lst 3 (List.map elemT l))), (12, .t (.sc (.int .i64 (l.length : Int)))), (13, .t (.sc (.int .i64 (i : Int)))), (14, .t (.sc (.bool (decide ((i : Int) < (l.length : Int))))))]) (l := [(24, .row 3 false (List.map elemT o))])
    (C := []) (by kernel_rfl) ?_ ?_
  · -- region 3
    trivial
  refine andThen_normal ?_
  refine Sim.seq ?_
  refine Sim.cond (b := decide ((i : Int) < (l.length : Int))) (by kernel_rfl) (fun h3 => ?_) (fun h3 => ?_)
  · (try simp only [decide_eq_true_eq, decide_eq_false_iff_not, Int.not_lt, Int.not_le] at h3)
    refine Sim.skip ?_
    refine andThen_normal ?_
    refine Sim.seq ?_
    refine Sim.block ?_
    refine Sim.seq ?_
    refine Sim.reg (orcs := [(1, ⟨none, none, some (elemT (l.getD i default)), none⟩)]) (keys := [1, 5, 6, 7, 11, 12, 13]) (τ := [(24, 24), (96, 96)]) (nx := 120)
      (sl := [(1, .t (.lst 2 (List.map attrT c))), (5, .row 24 l.length), (6, .t (.sc (.int .i64 (i : Int)))), (7, .ptr 96 0), (11, .t (.lst 3 (List.map elemT l))), (12, .t (.sc (.int .i64 (l.length : Int)))), (13, .t (.sc (.int .i64 (i : Int))))]) (l := [(24, .row 3 false (List.map elemT o)), (96, .box [.t (.sc (.int .i64 (((l.getD i default)).char))), .t (.sc (.int .i64 (((l.getD i default)).ref))), .t (.lst 2 (List.map attrT (((l.getD i default)).attrs)))])])
      (C := [(0:Int) ≤ (i : Int), (List.map elemT l)[i]? = some (elemT (l.getD i default))]) (by kernel_rfl) ?_ ?_
    · -- region 4
      refine ⟨?_, (elt_nat ?_), trivial⟩
      all_goals omega
    refine andThen_normal ?_
    refine Sim.seq ?_
    have hx := hs _ (getDE_mem (l := l) (k := i) (by omega))
    refine Sim.reg (orcs := [(3, ⟨none, none, none, some (⟨1, [], .t (.lst 2 (List.map attrT (fm rawG (((l.getD i default)).attrs) c))), []⟩)⟩)]) (keys := [1, 5, 6, 7, 11, 12, 13]) (τ := [(24, 24), (96, 96)]) (nx := 168)
      (sl := [(1, .t (.lst 2 (List.map attrT c))), (5, .row 24 l.length), (6, .t (.sc (.int .i64 (i : Int)))), (7, .ptr 96 0), (11, .t (.lst 3 (List.map elemT l))), (12, .t (.sc (.int .i64 (l.length : Int)))), (13, .t (.sc (.int .i64 (i : Int))))]) (l := [(24, .row 3 false (List.map elemT o)), (96, .box [.t (.sc (.int .i64 (((l.getD i default)).char))), .t (.sc (.int .i64 (((l.getD i default)).ref))), .t (.lst 2 (List.map attrT (fm rawG (((l.getD i default)).attrs) c)))])])
      (C := [callable Try.prog 83 = true, FC Try.prog 83 [.t (.lst 2 (List.map attrT (((l.getD i default)).attrs))), .t (.lst 2 (List.map attrT c))] emp (.t (.lst 2 (List.map attrT (fm rawG (((l.getD i default)).attrs) c)))) (app emp [])]) (by kernel_rfl) ?_ ?_
    · -- region 5
      exact ⟨(by kernel_rfl), (fc_raw (((l.getD i default)).attrs) c (by omega)), trivial⟩
    refine andThen_normal ?_
    refine Sim.reg (orcs := [(4, ⟨none, some ([(24, .row 3 false (List.map elemT (o.set i ({ char := ((l.getD i default)).char, ref := ((l.getD i default)).ref, attrs := (fm rawG (((l.getD i default)).attrs) c) } : Elem))))]), some (elemT (o.getD i default)), none⟩)]) (keys := [1, 5, 11, 12, 13]) (τ := [(24, 24)]) (nx := 208)
      (sl := [(1, .t (.lst 2 (List.map attrT c))), (5, .row 24 l.length), (11, .t (.lst 3 (List.map elemT l))), (12, .t (.sc (.int .i64 (l.length : Int)))), (13, .t (.sc (.int .i64 (i : Int))))]) (l := [(24, .row 3 false (List.map elemT (o.set i ({ char := ((l.getD i default)).char, ref := ((l.getD i default)).ref, attrs := (fm rawG (((l.getD i default)).attrs) c) } : Elem))))])
      (C := [(l.length : Nat) = (List.map elemT o).length, (0:Int) ≤ (i : Int), (i : Int) < ((l.length : Nat) : Int), (l.length : Nat) = (List.map elemT o).length, (List.map elemT o)[i]? = some (elemT (o.getD i default)), ([(24, .row 3 false (List.map elemT (o.set i ({ char := ((l.getD i default)).char, ref := ((l.getD i default)).ref, attrs := (fm rawG (((l.getD i default)).attrs) c) } : Elem))))] : List (Nat × Ob)) = [(24, .row 3 false ((List.map elemT o).set i (.agg [.sc (.int .i64 (((l.getD i default)).char)), .sc (.int .i64 (((l.getD i default)).ref)), .lst 2 (List.map attrT (fm rawG (((l.getD i default)).attrs) c))])))]]) (by kernel_rfl) ?_ ?_
    · -- region 6
      refine ⟨?_, ?_, ?_, ?_, (elt_nat ?_), (row_set rfl), trivial⟩
      all_goals (first | omega | with_reducible exact fun h => h | (intro hg hq; rw [hg, hq]; rfl) | (intro hq; rw [hq]; done) | (intro hq; rw [hq]; rfl) | ((try intro hg); (try simp [-List.getD_eq_getElem?_getD] at hg); (try simp only [List.length_map]); first | done | omega | rfl | (simp; done) | (simp; omega) | (simp [hg]; done) | (intro hq; simp [hg, hq]; done) | (intro hq; simp [hg, hq]; omega)))
    refine inBlk_normal ?_
    refine andThen_normal ?_
    refine Sim.reg (orcs := [(0, ⟨some (.t (.sc (.int .i64 ((i : Int) + 1)))), none, none, none⟩)]) (keys := [1, 5, 11, 12, 13]) (τ := [(24, 24)]) (nx := 224)
      (sl := [(1, .t (.lst 2 (List.map attrT c))), (5, .row 24 l.length), (11, .t (.lst 3 (List.map elemT l))), (12, .t (.sc (.int .i64 (l.length : Int)))), (13, .t (.sc (.int .i64 ((i : Int) + 1))))]) (l := [(24, .row 3 false (List.map elemT (o.set i ({ char := ((l.getD i default)).char, ref := ((l.getD i default)).ref, attrs := (fm rawG (((l.getD i default)).attrs) c) } : Elem))))])
      (C := [Weak (.t (.sc (.int .i64 (IntKind.i64.wrap ((i : Int) + 1))))) (.t (.sc (.int .i64 ((i : Int) + 1))))]) (by kernel_rfl) ?_ ?_
    · -- region 7
      refine ⟨(Weak.of_eq (nw ?_)), trivial⟩
      all_goals omega
    refine andThen_normal ?_
    refine LoopSim.weaken (Le.ren (τ := [(24, 24)]) (keys := [1, 5, 11, 12, 13]) (nx := 64) (sl := [(1, .t (.lst 2 (List.map attrT c))), (5, .row 24 l.length), (11, .t (.lst 3 (List.map elemT l))), (12, .t (.sc (.int .i64 (l.length : Int)))), (13, .t (.sc (.int .i64 (((i + 1) : Nat) : Int))))]) (l := [(24, .row 3 false (List.map elemT (o.set i ({ char := ((l.getD i default)).char, ref := ((l.getD i default)).ref, attrs := (fm rawG (((l.getD i default)).attrs) c) } : Elem))))]) (by kernel_rfl)) ?_
    refine ih3 ((i + 1), (o.set i ({ char := ((l.getD i default)).char, ref := ((l.getD i default)).ref, attrs := (fm rawG (((l.getD i default)).attrs) c) } : Elem))) ?_ ?_
    · -- back 3.1, invariant
      refine ⟨by omega, ?_⟩
      rw [I3.2]
      exact map_fill (by omega) rfl
    · -- back 3.1, measure
      show (_:Nat) < _; (first | omega | with_reducible exact fun h => h | (intro hq; rw [hq]; done) | (intro hq; rw [hq]; rfl) | (simp only [List.length_map]; done) | (simp only [List.length_map]; omega) | (simp; omega) | (simp; done))
  · (try simp only [decide_eq_true_eq, decide_eq_false_iff_not, Int.not_lt, Int.not_le] at h3)
    refine Sim.exit ?_
    refine andThen_exit ?_
    refine andThen_exit ?_
    refine inBlk_same ?_
    refine andThen_normal ?_
    refine Sim.seq ?_
    refine Sim.reg (orcs := []) (keys := [4]) (τ := [(24, 24)]) (nx := 88)
      (sl := [(4, .row 24 l.length)]) (l := [(24, .row 3 false (List.map elemT o))])
      (C := []) (by kernel_rfl) ?_ ?_
    · -- region 8
      trivial
    refine andThen_normal ?_
    refine Sim.ret ?_
    refine Fin.le (Le.freeze (t := 4) (v' := .t (.lst 3 (List.map elemT o))) (g := [(24, .row 3 true (List.map elemT o))]) (p := [(l.length : Nat) = (List.map elemT o).length]) rfl (by kernel_rfl) ⟨(by (first | omega | with_reducible exact fun h => h | (intro hq; rw [hq]; done) | (intro hq; rw [hq]; rfl) | (simp only [List.length_map]; done) | (simp only [List.length_map]; omega) | (simp; omega) | (simp; done))), trivial⟩ (by kernel_rfl)) ?_
    refine Fin.mk2 (.inl rfl) (τ := []) (keys := [4]) (nx := 88) (sl := [(4, .t (.lst 3 (List.map elemT o)))]) (l := []) (res' := .t (.lst 3 (List.map elemT o))) (by kernel_rfl) ?_ (by kernel_rfl) ?_
    · -- end 1, objects
      first | done | rfl
    · -- end 1, result
      have e1 : ((List.map (chgE c) l)) = o := by
        rw [I3.2, List.take_of_length_le (by omega), show l.length - i = 0 by omega]; simp
      show AVal.t (.lst 3 (List.map elemT o)) = .t (.lst 3 (List.map elemT (List.map (chgE c) l)))
      rw [e1]
      try rfl

def ltr (s : ByteArray) (i : Nat) : Elem := ⟨(byt s i : Int), 0, []⟩
def lettersL (s : ByteArray) : List Elem := (List.range s.size).map (ltr s)

theorem fc_letters (s : ByteArray) (hs : s.size ≤ 1000000000) : FC Try.prog 98 [.t (.sc (.string s))] (app emp []) (.t (.lst 3 (List.map elemT (lettersL s)))) (app emp []) := by
  refine FC.of_sim (fn := Try.f98) (nx := 0) (by kernel_rfl) rfl (by kernel_rfl) rfl ?_
  show Sim _ _ _ _ ⟨[(0, .t (.sc (.string s)))], app emp [], 0⟩ _
  refine Sim.seq ?_
  refine Sim.reg (orcs := []) (keys := [0]) (τ := []) (nx := 8)
    (sl := [(0, .t (.sc (.string s)))]) (l := [])
    (C := []) (by kernel_rfl) ?_ ?_
  · -- region 0
    trivial
  refine andThen_normal ?_
  refine Sim.seq ?_
  refine Sim.reg (orcs := []) (keys := [0, 3]) (τ := []) (nx := 16)
    (sl := [(0, .t (.sc (.string s))), (3, .t (.sc (.slice none 0 0)))]) (l := [])
    (C := []) (by kernel_rfl) ?_ ?_
  · -- region 1
    trivial
  refine andThen_normal ?_
  refine Sim.seq ?_
  refine Sim.seq ?_
  refine Sim.reg (orcs := []) (keys := [0, 3, 6, 7]) (τ := []) (nx := 40)
    (sl := [(0, .t (.sc (.string s))), (3, .t (.sc (.slice none 0 0))), (6, .t (.sc (.int .i64 (s.size : Int)))), (7, .t (.sc (.int .i64 0)))]) (l := [])
    (C := []) (by kernel_rfl) ?_ ?_
  · -- region 2
    trivial
  refine andThen_normal ?_
  refine Sim.block ?_
  refine Sim.weaken (Le.nilRow (t := 3) (k := 3) (id := 40) rfl rfl rfl) ?_
  refine Sim.weaken (Le.ren (τ := [(40, 40)]) (keys := [0, 3, 6, 7]) (nx := 41) (sl := [(0, .t (.sc (.string s))), (3, .row 40 0), (6, .t (.sc (.int .i64 (s.size : Int)))), (7, .t (.sc (.int .i64 ((0 : Nat) : Int))))]) (l := [(40, .row 3 false (List.map elemT []))]) (by kernel_rfl)) ?_
  refine Sim.loop ?_
  refine loop_ind (α := Nat × (List Elem)) (fun (i, o) => ⟨[(0, .t (.sc (.string s))), (3, .row 40 o.length), (6, .t (.sc (.int .i64 (s.size : Int)))), (7, .t (.sc (.int .i64 (i : Int))))], app emp [(40, .row 3 false (List.map elemT o))], 41⟩) (fun (i, o) => i ≤ s.size ∧ o = (List.range i).map (ltr s)) (fun (i, o) => s.size - i) ?_ (0, []) ?_
  rotate_left
  · -- loop 3, start
    exact ⟨by omega, rfl⟩
  rintro ⟨i, o⟩ I3 ih3
  show LoopSim _ _ _ _ ⟨[(0, .t (.sc (.string s))), (3, .row 40 o.length), (6, .t (.sc (.int .i64 (s.size : Int)))), (7, .t (.sc (.int .i64 (i : Int))))], app emp [(40, .row 3 false (List.map elemT o))], 41⟩ _
  replace I3 : i ≤ s.size ∧ o = (List.range i).map (ltr s) := I3
  have ol : o.length = i := by rw [I3.2]; simp
  refine LoopSim.step ?_
  refine Sim.seq ?_
  refine Sim.reg (orcs := []) (keys := [0, 3, 6, 7, 8]) (τ := [(40, 40)]) (nx := 49)
    (sl := [(0, .t (.sc (.string s))), (3, .row 40 o.length), (6, .t (.sc (.int .i64 (s.size : Int)))), (7, .t (.sc (.int .i64 (i : Int)))), (8, .t (.sc (.bool (decide ((i : Int) < (s.size : Int))))))]) (l := [(40, .row 3 false (List.map elemT o))])
    (C := []) (by kernel_rfl) ?_ ?_
  · -- region 3
    trivial
  refine andThen_normal ?_
  refine Sim.seq ?_
  refine Sim.cond (b := decide ((i : Int) < (s.size : Int))) (by kernel_rfl) (fun h3 => ?_) (fun h3 => ?_)
  · (try simp only [decide_eq_true_eq, decide_eq_false_iff_not, Int.not_lt, Int.not_le] at h3)
    refine Sim.skip ?_
    refine andThen_normal ?_
    refine Sim.seq ?_
    refine Sim.block ?_
    refine Sim.seq ?_
    refine Sim.reg (orcs := []) (keys := [0, 3, 4, 6, 7]) (τ := [(40, 40)]) (nx := 65)
      (sl := [(0, .t (.sc (.string s))), (3, .row 40 o.length), (4, .t (.sc (.int .i64 (i : Int)))), (6, .t (.sc (.int .i64 (s.size : Int)))), (7, .t (.sc (.int .i64 (i : Int))))]) (l := [(40, .row 3 false (List.map elemT o))])
      (C := []) (by kernel_rfl) ?_ ?_
    · -- region 4
      trivial
    refine andThen_normal ?_
    refine Sim.reg (orcs := [(4, ⟨some (.t (.sc (.int .i64 ((((s[i]?).getD 0).toNat : Nat) : Int)))), none, none, none⟩), (5, ⟨some (.t (.agg [.sc (.int .i64 ((((s[i]?).getD 0).toNat : Nat) : Int)), .sc (.int .i64 0), .lst 2 (List.map attrT [])])), none, none, none⟩), (7, ⟨some (.row 40 ((o ++ [({ char := ((((s[i]?).getD 0).toNat : Nat) : Int), ref := 0, attrs := [] } : Elem)]).length)), some ([(40, .row 3 false (List.map elemT (o ++ [({ char := ((((s[i]?).getD 0).toNat : Nat) : Int), ref := 0, attrs := [] } : Elem)])))]), none, none⟩)]) (keys := [0, 3, 6, 7]) (τ := [(40, 40)]) (nx := 137)
      (sl := [(0, .t (.sc (.string s))), (3, .row 40 ((o ++ [({ char := ((((s[i]?).getD 0).toNat : Nat) : Int), ref := 0, attrs := [] } : Elem)]).length)), (6, .t (.sc (.int .i64 (s.size : Int)))), (7, .t (.sc (.int .i64 (i : Int))))]) (l := [(40, .row 3 false (List.map elemT (o ++ [({ char := ((((s[i]?).getD 0).toNat : Nat) : Int), ref := 0, attrs := [] } : Elem)])))])
      (C := [(0:Int) ≤ (i : Int), (i : Int) < (s.size : Int), Weak (.t (.sc (.int .i64 (IntKind.i64.wrap ((((s[i]?).getD 0).toNat : Nat) : Int))))) (.t (.sc (.int .i64 ((((s[i]?).getD 0).toNat : Nat) : Int)))), Weak (.t (.agg [.sc (.int .i64 ((((s[i]?).getD 0).toNat : Nat) : Int)), .sc (.int .i64 0), .sc (.slice none 0 0)])) (.t (.agg [.sc (.int .i64 ((((s[i]?).getD 0).toNat : Nat) : Int)), .sc (.int .i64 0), .lst 2 (List.map attrT [])])), 1 = (List.map elemT [({ char := ((((s[i]?).getD 0).toNat : Nat) : Int), ref := 0, attrs := [] } : Elem)]).length, (o.length : Nat) = (List.map elemT o).length, (o.length : Nat) + (List.map elemT [({ char := ((((s[i]?).getD 0).toNat : Nat) : Int), ref := 0, attrs := [] } : Elem)]).length ≤ 1099511627776, Weak (.row 40 (o.length + (List.map elemT [({ char := ((((s[i]?).getD 0).toNat : Nat) : Int), ref := 0, attrs := [] } : Elem)]).length)) (.row 40 ((o ++ [({ char := ((((s[i]?).getD 0).toNat : Nat) : Int), ref := 0, attrs := [] } : Elem)]).length)), ([(40, .row 3 false (List.map elemT (o ++ [({ char := ((((s[i]?).getD 0).toNat : Nat) : Int), ref := 0, attrs := [] } : Elem)])))] : List (Nat × Ob)) = [(40, .row 3 false (List.map elemT o ++ List.map elemT [({ char := ((((s[i]?).getD 0).toNat : Nat) : Int), ref := 0, attrs := [] } : Elem)]))]]) (by kernel_rfl) ?_ ?_
    · -- region 5
      refine ⟨?_, ?_, (Weak.of_eq (nw (by have := UInt8.toNat_lt ((s[i]?).getD 0); omega))), (Weak.agg ⟨.inl rfl, ⟨.inl rfl, ⟨tw_nil (by decide), trivial⟩⟩⟩), ?_, ?_, ?_, (Weak.of_eq (by simp)), (row_append rfl), trivial⟩
      all_goals (first | omega | with_reducible exact fun h => h | (intro hg hq; rw [hg, hq]; rfl) | (intro hq; rw [hq]; done) | (intro hq; rw [hq]; rfl) | ((try intro hg); (try simp [-List.getD_eq_getElem?_getD] at hg); (try simp only [List.length_map]); first | done | omega | rfl | (simp; done) | (simp; omega) | (simp [hg]; done) | (intro hq; simp [hg, hq]; done) | (intro hq; simp [hg, hq]; omega)))
    refine inBlk_normal ?_
    refine andThen_normal ?_
    refine Sim.reg (orcs := [(0, ⟨some (.t (.sc (.int .i64 ((i : Int) + 1)))), none, none, none⟩)]) (keys := [0, 3, 6, 7]) (τ := [(40, 40)]) (nx := 153)
      (sl := [(0, .t (.sc (.string s))), (3, .row 40 ((o ++ [({ char := ((((s[i]?).getD 0).toNat : Nat) : Int), ref := 0, attrs := [] } : Elem)]).length)), (6, .t (.sc (.int .i64 (s.size : Int)))), (7, .t (.sc (.int .i64 ((i : Int) + 1))))]) (l := [(40, .row 3 false (List.map elemT (o ++ [({ char := ((((s[i]?).getD 0).toNat : Nat) : Int), ref := 0, attrs := [] } : Elem)])))])
      (C := [Weak (.t (.sc (.int .i64 (IntKind.i64.wrap ((i : Int) + 1))))) (.t (.sc (.int .i64 ((i : Int) + 1))))]) (by kernel_rfl) ?_ ?_
    · -- region 6
      refine ⟨(Weak.of_eq (nw ?_)), trivial⟩
      all_goals omega
    refine andThen_normal ?_
    refine LoopSim.weaken (Le.ren (τ := [(40, 40)]) (keys := [0, 3, 6, 7]) (nx := 41) (sl := [(0, .t (.sc (.string s))), (3, .row 40 ((o ++ [({ char := ((((s[i]?).getD 0).toNat : Nat) : Int), ref := 0, attrs := [] } : Elem)]).length)), (6, .t (.sc (.int .i64 (s.size : Int)))), (7, .t (.sc (.int .i64 (((i + 1) : Nat) : Int))))]) (l := [(40, .row 3 false (List.map elemT (o ++ [({ char := ((((s[i]?).getD 0).toNat : Nat) : Int), ref := 0, attrs := [] } : Elem)])))]) (by kernel_rfl)) ?_
    refine ih3 ((i + 1), (o ++ [({ char := ((((s[i]?).getD 0).toNat : Nat) : Int), ref := 0, attrs := [] } : Elem)])) ?_ ?_
    · -- back 3.1, invariant
      refine ⟨by omega, ?_⟩
      rw [I3.2, List.range_succ, List.map_append]
      rfl
    · -- back 3.1, measure
      show (_:Nat) < _; (first | omega | with_reducible exact fun h => h | (intro hq; rw [hq]; done) | (intro hq; rw [hq]; rfl) | (simp only [List.length_map]; done) | (simp only [List.length_map]; omega) | (simp; omega) | (simp; done))
  · (try simp only [decide_eq_true_eq, decide_eq_false_iff_not, Int.not_lt, Int.not_le] at h3)
    refine Sim.exit ?_
    refine andThen_exit ?_
    refine andThen_exit ?_
    refine inBlk_same ?_
    refine andThen_normal ?_
    refine Sim.seq ?_
    refine Sim.reg (orcs := []) (keys := [2]) (τ := [(40, 40)]) (nx := 65)
      (sl := [(2, .row 40 o.length)]) (l := [(40, .row 3 false (List.map elemT o))])
      (C := []) (by kernel_rfl) ?_ ?_
    · -- region 7
      trivial
    refine andThen_normal ?_
    refine Sim.ret ?_
    refine Fin.le (Le.freeze (t := 2) (v' := .t (.lst 3 (List.map elemT o))) (g := [(40, .row 3 true (List.map elemT o))]) (p := [(o.length : Nat) = (List.map elemT o).length]) rfl (by kernel_rfl) ⟨(by (first | omega | with_reducible exact fun h => h | (intro hq; rw [hq]; done) | (intro hq; rw [hq]; rfl) | (simp only [List.length_map]; done) | (simp only [List.length_map]; omega) | (simp; omega) | (simp; done))), trivial⟩ (by kernel_rfl)) ?_
    refine Fin.mk2 (.inl rfl) (τ := []) (keys := [2]) (nx := 65) (sl := [(2, .t (.lst 3 (List.map elemT o)))]) (l := []) (res' := .t (.lst 3 (List.map elemT o))) (by kernel_rfl) ?_ (by kernel_rfl) ?_
    · -- end 1, objects
      first | done | rfl
    · -- end 1, result
      have e1 : ((lettersL s)) = o := by
        rw [I3.2, show i = s.size by omega]; rfl
      show AVal.t (.lst 3 (List.map elemT o)) = .t (.lst 3 (List.map elemT (lettersL s)))
      rw [e1]
      try rfl

theorem fc_on (s : ByteArray) : FC Try.prog 100 [.t (.sc (.string s))] (app emp []) (.t (.lst 2 (List.map attrT [({ name := s, val := { data := #[111, 110] } } : Attr)]))) (app emp []) := by
  refine FC.of_sim (fn := Try.f100) (nx := 0) (by kernel_rfl) rfl (by kernel_rfl) rfl ?_
  show Sim _ _ _ _ ⟨[(0, .t (.sc (.string s)))], app emp [], 0⟩ _
  refine Sim.seq ?_
  refine Sim.reg (orcs := []) (keys := [0]) (τ := []) (nx := 8)
    (sl := [(0, .t (.sc (.string s)))]) (l := [])
    (C := []) (by kernel_rfl) ?_ ?_
  · -- region 0
    trivial
  refine andThen_normal ?_
  refine Sim.seq ?_
  refine Sim.reg (orcs := []) (keys := [2]) (τ := [(24, 24)]) (nx := 40)
    (sl := [(2, .row 24 1)]) (l := [(24, .row 2 false (List.map attrT [({ name := s, val := { data := #[111, 110] } } : Attr)]))])
    (C := []) (by kernel_rfl) ?_ ?_
  · -- region 1
    trivial
  refine andThen_normal ?_
  refine Sim.ret ?_
  refine Fin.le (Le.freeze (t := 2) (v' := .t (.lst 2 (List.map attrT [({ name := s, val := { data := #[111, 110] } } : Attr)]))) (g := [(24, .row 2 true (List.map attrT [({ name := s, val := { data := #[111, 110] } } : Attr)]))]) (p := [(1 : Nat) = (List.map attrT [({ name := s, val := { data := #[111, 110] } } : Attr)]).length]) rfl (by kernel_rfl) ⟨(by (first | omega | with_reducible exact fun h => h | (intro hq; rw [hq]; done) | (intro hq; rw [hq]; rfl) | (simp only [List.length_map]; done) | (simp only [List.length_map]; omega) | (simp; omega) | (simp; done))), trivial⟩ (by kernel_rfl)) ?_
  refine Fin.mk2 (.inl rfl) (τ := []) (keys := [2]) (nx := 40) (sl := [(2, .t (.lst 2 (List.map attrT [({ name := s, val := { data := #[111, 110] } } : Attr)])))]) (l := []) (res' := .t (.lst 2 (List.map attrT [({ name := s, val := { data := #[111, 110] } } : Attr)]))) (by kernel_rfl) ?_ (by kernel_rfl) ?_
  · -- end 1, objects
    first | done | rfl
  · -- end 1, result
    first | done | rfl
end Go.Ch
