import Derived.Test.YtbdbibmbfmlobaaFlowPlain
set_option linter.unusedVariables false
set_option linter.unusedSimpArgs false
set_option maxRecDepth 100000
set_option maxHeartbeats 4000000
open Go Go.Proofs Go.Ab
namespace Go.Ch
theorem fc_char (c : Int) : FC Try.prog 151 [.t (.sc (.int .i64 c))] (app emp []) (.t (.sc (.bool (decide (CharP c))))) (app emp []) := by
  refine FC.of_sim (fn := Try.f151) (nx := 0) (by kernel_rfl) rfl (by kernel_rfl) rfl ?_
  show Sim _ _ _ _ ⟨[(0, .t (.sc (.int .i64 c)))], app emp [], 0⟩ _
  refine Sim.seq ?_
  refine Sim.reg (orcs := []) (keys := [0]) (τ := []) (nx := 8)
    (sl := [(0, .t (.sc (.int .i64 c)))]) (l := [])
    (C := []) (by kernel_rfl) ?_ ?_
  · -- region 0
    trivial
  refine andThen_normal ?_
  refine Sim.seq ?_
  refine Sim.reg (orcs := []) (keys := [2]) (τ := []) (nx := 256)
    (sl := [(2, .t (.sc (.bool (((((c == 9) || (c == 10)) || (decide (c ≥ 32) && decide (c < 127))) || (decide (c ≥ 160) && decide (c < 55296))) || (decide (c > 57343) && decide (c ≤ 1114111))))))]) (l := [])
    (C := [(!(c == 9)) = true → (!(c == 9)) = true, (c == 9) = false → (!(c == 9)) = true, (!((c == 9) || (c == 10))) = true → (!((c == 9) || (c == 10))) = true, (!((c == 9) || (c == 10))) = true → (!((c == 9) || (c == 10))) = true, ((!((c == 9) || (c == 10))) && (decide (c ≥ 32))) = true → ((!((c == 9) || (c == 10))) && (decide (c ≥ 32))) = true, (!((c == 9) || (c == 10))) = true → (!((c == 9) || (c == 10))) = true, (!((c == 9) || (c == 10))) = true → (decide (c ≥ 32)) = true → ((!((c == 9) || (c == 10))) && (decide (c ≥ 32))) = true, ((c == 9) || (c == 10)) = false → (!((c == 9) || (c == 10))) = true, (!(((c == 9) || (c == 10)) || (decide (c ≥ 32) && decide (c < 127)))) = true → (!(((c == 9) || (c == 10)) || (decide (c ≥ 32) && decide (c < 127)))) = true, (!(((c == 9) || (c == 10)) || (decide (c ≥ 32) && decide (c < 127)))) = true → (!(((c == 9) || (c == 10)) || (decide (c ≥ 32) && decide (c < 127)))) = true, ((!(((c == 9) || (c == 10)) || (decide (c ≥ 32) && decide (c < 127)))) && (decide (c ≥ 160))) = true → ((!(((c == 9) || (c == 10)) || (decide (c ≥ 32) && decide (c < 127)))) && (decide (c ≥ 160))) = true, (!(((c == 9) || (c == 10)) || (decide (c ≥ 32) && decide (c < 127)))) = true → (!(((c == 9) || (c == 10)) || (decide (c ≥ 32) && decide (c < 127)))) = true, (!(((c == 9) || (c == 10)) || (decide (c ≥ 32) && decide (c < 127)))) = true → (decide (c ≥ 160)) = true → ((!(((c == 9) || (c == 10)) || (decide (c ≥ 32) && decide (c < 127)))) && (decide (c ≥ 160))) = true, (((c == 9) || (c == 10)) || (decide (c ≥ 32) && decide (c < 127))) = false → (!(((c == 9) || (c == 10)) || (decide (c ≥ 32) && decide (c < 127)))) = true, (!((((c == 9) || (c == 10)) || (decide (c ≥ 32) && decide (c < 127))) || (decide (c ≥ 160) && decide (c < 55296)))) = true → (!((((c == 9) || (c == 10)) || (decide (c ≥ 32) && decide (c < 127))) || (decide (c ≥ 160) && decide (c < 55296)))) = true, (!((((c == 9) || (c == 10)) || (decide (c ≥ 32) && decide (c < 127))) || (decide (c ≥ 160) && decide (c < 55296)))) = true → (!((((c == 9) || (c == 10)) || (decide (c ≥ 32) && decide (c < 127))) || (decide (c ≥ 160) && decide (c < 55296)))) = true, ((!((((c == 9) || (c == 10)) || (decide (c ≥ 32) && decide (c < 127))) || (decide (c ≥ 160) && decide (c < 55296)))) && (decide (c > 57343))) = true → ((!((((c == 9) || (c == 10)) || (decide (c ≥ 32) && decide (c < 127))) || (decide (c ≥ 160) && decide (c < 55296)))) && (decide (c > 57343))) = true, (!((((c == 9) || (c == 10)) || (decide (c ≥ 32) && decide (c < 127))) || (decide (c ≥ 160) && decide (c < 55296)))) = true → (!((((c == 9) || (c == 10)) || (decide (c ≥ 32) && decide (c < 127))) || (decide (c ≥ 160) && decide (c < 55296)))) = true, (!((((c == 9) || (c == 10)) || (decide (c ≥ 32) && decide (c < 127))) || (decide (c ≥ 160) && decide (c < 55296)))) = true → (decide (c > 57343)) = true → ((!((((c == 9) || (c == 10)) || (decide (c ≥ 32) && decide (c < 127))) || (decide (c ≥ 160) && decide (c < 55296)))) && (decide (c > 57343))) = true, ((((c == 9) || (c == 10)) || (decide (c ≥ 32) && decide (c < 127))) || (decide (c ≥ 160) && decide (c < 55296))) = false → (!((((c == 9) || (c == 10)) || (decide (c ≥ 32) && decide (c < 127))) || (decide (c ≥ 160) && decide (c < 55296)))) = true]) (by kernel_rfl) ?_ ?_
  · -- region 1
    refine ⟨?_, ?_, ?_, ?_, ?_, ?_, ?_, ?_, ?_, ?_, ?_, ?_, ?_, ?_, ?_, ?_, ?_, ?_, ?_, ?_, trivial⟩
    all_goals (first | omega | with_reducible exact fun h => h | (intro hg hq; rw [hg, hq]; rfl) | (intro hq; rw [hq]; done) | (intro hq; rw [hq]; rfl) | ((try intro hg); (try simp [-List.getD_eq_getElem?_getD] at hg); (try simp only [List.length_map]); first | done | omega | rfl | (simp; done) | (simp; omega) | (simp [hg]; done) | (intro hq; simp [hg, hq]; done) | (intro hq; simp [hg, hq]; omega)))
  refine andThen_normal ?_
  refine Sim.ret ?_
  refine Fin.mk2 (.inl rfl) (τ := []) (keys := [2]) (nx := 256) (sl := [(2, .t (.sc (.bool (((((c == 9) || (c == 10)) || (decide (c ≥ 32) && decide (c < 127))) || (decide (c ≥ 160) && decide (c < 55296))) || (decide (c > 57343) && decide (c ≤ 1114111))))))]) (l := []) (res' := .t (.sc (.bool (((((c == 9) || (c == 10)) || (decide (c ≥ 32) && decide (c < 127))) || (decide (c ≥ 160) && decide (c < 55296))) || (decide (c > 57343) && decide (c ≤ 1114111)))))) (by kernel_rfl) ?_ (by kernel_rfl) ?_
  · -- end 1, objects
    first | done | rfl
  · -- end 1, result
    have e1 : ((decide (CharP c)) : Bool) = (((((c == 9) || (c == 10)) || (decide (c ≥ 32) && decide (c < 127))) || (decide (c ≥ 160) && decide (c < 55296))) || (decide (c > 57343) && decide (c ≤ 1114111))) := by
      rw [Bool.eq_iff_iff, decide_eq_true_iff]; unfold CharP; simp only [Bool.or_eq_true, Bool.and_eq_true, decide_eq_true_eq, beq_iff_eq]; constructor <;> intro hh <;> omega
    show AVal.t (.sc (.bool (((((c == 9) || (c == 10)) || (decide (c ≥ 32) && decide (c < 127))) || (decide (c ≥ 160) && decide (c < 55296))) || (decide (c > 57343) && decide (c ≤ 1114111))))) = .t (.sc (.bool (decide (CharP c))))
    rw [e1]
    try rfl

theorem fc_in (x a b : Int) : FC Try.prog 57 [.t (.sc (.int .i64 x)), .t (.sc (.int .i64 a)), .t (.sc (.int .i64 b))] (app emp []) (.t (.sc (.bool (decide (a ≤ x ∧ x ≤ b))))) (app emp []) := by
  refine FC.of_sim (fn := Try.f57) (nx := 0) (by kernel_rfl) rfl (by kernel_rfl) rfl ?_
  show Sim _ _ _ _ ⟨[(0, .t (.sc (.int .i64 x))), (1, .t (.sc (.int .i64 a))), (2, .t (.sc (.int .i64 b)))], app emp [], 0⟩ _
  refine Sim.seq ?_
  refine Sim.reg (orcs := []) (keys := [0, 1, 2]) (τ := []) (nx := 8)
    (sl := [(0, .t (.sc (.int .i64 x))), (1, .t (.sc (.int .i64 a))), (2, .t (.sc (.int .i64 b)))]) (l := [])
    (C := []) (by kernel_rfl) ?_ ?_
  · -- region 0
    trivial
  refine andThen_normal ?_
  refine Sim.seq ?_
  refine Sim.reg (orcs := []) (keys := [6]) (τ := []) (nx := 80)
    (sl := [(6, .t (.sc (.bool (decide (x ≥ a) && decide (x ≤ b)))))]) (l := [])
    (C := [(decide (x ≥ a)) = true → (decide (x ≥ a)) = true, (decide (x ≥ a)) = true → (decide (x ≥ a)) = true, (decide (x ≥ a)) = true → (decide (x ≥ a)) = true]) (by kernel_rfl) ?_ ?_
  · -- region 1
    refine ⟨?_, ?_, ?_, trivial⟩
    all_goals (first | omega | with_reducible exact fun h => h | (intro hg hq; rw [hg, hq]; rfl) | (intro hq; rw [hq]; done) | (intro hq; rw [hq]; rfl) | ((try intro hg); (try simp [-List.getD_eq_getElem?_getD] at hg); (try simp only [List.length_map]); first | done | omega | rfl | (simp; done) | (simp; omega) | (simp [hg]; done) | (intro hq; simp [hg, hq]; done) | (intro hq; simp [hg, hq]; omega)))
  refine andThen_normal ?_
  refine Sim.ret ?_
  refine Fin.mk2 (.inl rfl) (τ := []) (keys := [6]) (nx := 80) (sl := [(6, .t (.sc (.bool (decide (x ≥ a) && decide (x ≤ b)))))]) (l := []) (res' := .t (.sc (.bool (decide (x ≥ a) && decide (x ≤ b))))) (by kernel_rfl) ?_ (by kernel_rfl) ?_
  · -- end 1, objects
    first | done | rfl
  · -- end 1, result
    have e1 : ((decide (a ≤ x ∧ x ≤ b)) : Bool) = (decide (x ≥ a) && decide (x ≤ b)) := by
      rw [Bool.eq_iff_iff]; simp; try omega
    show AVal.t (.sc (.bool (decide (x ≥ a) && decide (x ≤ b)))) = .t (.sc (.bool (decide (a ≤ x ∧ x ≤ b))))
    rw [e1]
    try rfl

theorem fc_charR (c : Int) : FC Try.prog 134 [.t (.sc (.int .i64 c))] (app emp []) (.t (.sc (.bool (decide (CharP c))))) (app emp []) := by
  refine FC.of_sim (fn := Try.f134) (nx := 0) (by kernel_rfl) rfl (by kernel_rfl) rfl ?_
  show Sim _ _ _ _ ⟨[(0, .t (.sc (.int .i64 c)))], app emp [], 0⟩ _
  refine Sim.seq ?_
  refine Sim.reg (orcs := []) (keys := [0]) (τ := []) (nx := 8)
    (sl := [(0, .t (.sc (.int .i64 c)))]) (l := [])
    (C := []) (by kernel_rfl) ?_ ?_
  · -- region 0
    trivial
  refine andThen_normal ?_
  refine Sim.seq ?_
  refine Sim.reg (orcs := [(8, ⟨none, none, none, some (⟨0, [], .t (.sc (.bool (decide (32 ≤ c ∧ c ≤ 126)))), []⟩)⟩), (12, ⟨none, none, none, some (⟨0, [], .t (.sc (.bool (decide (160 ≤ c ∧ c ≤ 55295)))), []⟩)⟩), (16, ⟨none, none, none, some (⟨0, [], .t (.sc (.bool (decide (57344 ≤ c ∧ c ≤ 1114111)))), []⟩)⟩)]) (keys := [2]) (τ := []) (nx := 160)
    (sl := [(2, .t (.sc (.bool (((((c == 9) || (c == 10)) || (decide (32 ≤ c ∧ c ≤ 126))) || (decide (160 ≤ c ∧ c ≤ 55295))) || (decide (57344 ≤ c ∧ c ≤ 1114111))))))]) (l := [])
    (C := [(!(c == 9)) = true → (!(c == 9)) = true, (c == 9) = false → (!(c == 9)) = true, (!((c == 9) || (c == 10))) = true → (!((c == 9) || (c == 10))) = true, (!((c == 9) || (c == 10))) = true → callable Try.prog 57 = true, (!((c == 9) || (c == 10))) = true → FC Try.prog 57 [.t (.sc (.int .i64 c)), .t (.sc (.int .i64 32)), .t (.sc (.int .i64 126))] emp (.t (.sc (.bool (decide (32 ≤ c ∧ c ≤ 126))))) emp, ((c == 9) || (c == 10)) = false → (!((c == 9) || (c == 10))) = true, (!(((c == 9) || (c == 10)) || (decide (32 ≤ c ∧ c ≤ 126)))) = true → (!(((c == 9) || (c == 10)) || (decide (32 ≤ c ∧ c ≤ 126)))) = true, (!(((c == 9) || (c == 10)) || (decide (32 ≤ c ∧ c ≤ 126)))) = true → callable Try.prog 57 = true, (!(((c == 9) || (c == 10)) || (decide (32 ≤ c ∧ c ≤ 126)))) = true → FC Try.prog 57 [.t (.sc (.int .i64 c)), .t (.sc (.int .i64 160)), .t (.sc (.int .i64 55295))] emp (.t (.sc (.bool (decide (160 ≤ c ∧ c ≤ 55295))))) emp, (((c == 9) || (c == 10)) || (decide (32 ≤ c ∧ c ≤ 126))) = false → (!(((c == 9) || (c == 10)) || (decide (32 ≤ c ∧ c ≤ 126)))) = true, (!((((c == 9) || (c == 10)) || (decide (32 ≤ c ∧ c ≤ 126))) || (decide (160 ≤ c ∧ c ≤ 55295)))) = true → (!((((c == 9) || (c == 10)) || (decide (32 ≤ c ∧ c ≤ 126))) || (decide (160 ≤ c ∧ c ≤ 55295)))) = true, (!((((c == 9) || (c == 10)) || (decide (32 ≤ c ∧ c ≤ 126))) || (decide (160 ≤ c ∧ c ≤ 55295)))) = true → callable Try.prog 57 = true, (!((((c == 9) || (c == 10)) || (decide (32 ≤ c ∧ c ≤ 126))) || (decide (160 ≤ c ∧ c ≤ 55295)))) = true → FC Try.prog 57 [.t (.sc (.int .i64 c)), .t (.sc (.int .i64 57344)), .t (.sc (.int .i64 1114111))] emp (.t (.sc (.bool (decide (57344 ≤ c ∧ c ≤ 1114111))))) emp, ((((c == 9) || (c == 10)) || (decide (32 ≤ c ∧ c ≤ 126))) || (decide (160 ≤ c ∧ c ≤ 55295))) = false → (!((((c == 9) || (c == 10)) || (decide (32 ≤ c ∧ c ≤ 126))) || (decide (160 ≤ c ∧ c ≤ 55295)))) = true]) (by kernel_rfl) ?_ ?_
  · -- region 1
    refine ⟨?_, ?_, ?_, (fun hg => by (try simp only [Bool.not_eq_true', Bool.not_eq_false', Bool.or_eq_true, Bool.or_eq_false_iff, beq_iff_eq, beq_eq_false_iff_ne, ne_eq] at hg); exact (by kernel_rfl)), (fun hg => by (try simp only [Bool.not_eq_true', Bool.not_eq_false', Bool.or_eq_true, Bool.or_eq_false_iff, beq_iff_eq, beq_eq_false_iff_ne, ne_eq] at hg); exact (fc_in c 32 126)), ?_, ?_, (fun hg => by (try simp only [decide_eq_true_eq, decide_eq_false_iff_not, Int.not_lt, Int.not_le, Bool.not_eq_true', Bool.not_eq_false', Bool.or_eq_true, Bool.or_eq_false_iff, beq_iff_eq, beq_eq_false_iff_ne, ne_eq] at hg); exact (by kernel_rfl)), (fun hg => by (try simp only [decide_eq_true_eq, decide_eq_false_iff_not, Int.not_lt, Int.not_le, Bool.not_eq_true', Bool.not_eq_false', Bool.or_eq_true, Bool.or_eq_false_iff, beq_iff_eq, beq_eq_false_iff_ne, ne_eq] at hg); exact (fc_in c 160 55295)), ?_, ?_, (fun hg => by (try simp only [decide_eq_true_eq, decide_eq_false_iff_not, Int.not_lt, Int.not_le, Bool.not_eq_true', Bool.not_eq_false', Bool.or_eq_true, Bool.or_eq_false_iff, beq_iff_eq, beq_eq_false_iff_ne, ne_eq] at hg); exact (by kernel_rfl)), (fun hg => by (try simp only [decide_eq_true_eq, decide_eq_false_iff_not, Int.not_lt, Int.not_le, Bool.not_eq_true', Bool.not_eq_false', Bool.or_eq_true, Bool.or_eq_false_iff, beq_iff_eq, beq_eq_false_iff_ne, ne_eq] at hg); exact (fc_in c 57344 1114111)), ?_, trivial⟩
    all_goals (first | omega | with_reducible exact fun h => h | (intro hg hq; rw [hg, hq]; rfl) | (intro hq; rw [hq]; done) | (intro hq; rw [hq]; rfl) | ((try intro hg); (try simp [-List.getD_eq_getElem?_getD] at hg); (try simp only [List.length_map]); first | done | omega | rfl | (simp; done) | (simp; omega) | (simp [hg]; done) | (intro hq; simp [hg, hq]; done) | (intro hq; simp [hg, hq]; omega)))
  refine andThen_normal ?_
  refine Sim.ret ?_
  refine Fin.mk2 (.inl rfl) (τ := []) (keys := [2]) (nx := 160) (sl := [(2, .t (.sc (.bool (((((c == 9) || (c == 10)) || (decide (32 ≤ c ∧ c ≤ 126))) || (decide (160 ≤ c ∧ c ≤ 55295))) || (decide (57344 ≤ c ∧ c ≤ 1114111))))))]) (l := []) (res' := .t (.sc (.bool (((((c == 9) || (c == 10)) || (decide (32 ≤ c ∧ c ≤ 126))) || (decide (160 ≤ c ∧ c ≤ 55295))) || (decide (57344 ≤ c ∧ c ≤ 1114111)))))) (by kernel_rfl) ?_ (by kernel_rfl) ?_
  · -- end 1, objects
    first | done | rfl
  · -- end 1, result
    have e1 : ((decide (CharP c)) : Bool) = (((((c == 9) || (c == 10)) || (decide (32 ≤ c ∧ c ≤ 126))) || (decide (160 ≤ c ∧ c ≤ 55295))) || (decide (57344 ≤ c ∧ c ≤ 1114111))) := by
      rw [Bool.eq_iff_iff, decide_eq_true_iff]; unfold CharP; simp only [Bool.or_eq_true, Bool.and_eq_true, decide_eq_true_eq, beq_iff_eq]; constructor <;> intro hh <;> omega
    show AVal.t (.sc (.bool (((((c == 9) || (c == 10)) || (decide (32 ≤ c ∧ c ≤ 126))) || (decide (160 ≤ c ∧ c ≤ 55295))) || (decide (57344 ≤ c ∧ c ≤ 1114111))))) = .t (.sc (.bool (decide (CharP c))))
    rw [e1]
    try rfl

theorem nz_iff {a b : Int} : ((a != 0) = (b != 0)) ↔ (a = 0 ↔ b = 0) := by
  rw [Bool.eq_iff_iff]; simp; omega

theorem fc_elem (x : Elem) : FC Try.prog 138 [.t (elemT x)] (app emp []) (.t (.sc (.int .i64 (elemE x)))) (app emp []) := by
  refine FC.of_sim (fn := Try.f138) (nx := 0) (by kernel_rfl) rfl (by kernel_rfl) rfl ?_
  show Sim _ _ _ _ ⟨[(0, .t (elemT x))], app emp [], 0⟩ _
  refine Sim.seq ?_
  refine Sim.reg (orcs := []) (keys := [1]) (τ := [(0, 0)]) (nx := 16)
    (sl := [(1, .ptr 0 0)]) (l := [(0, .box [.t (.sc (.int .i64 x.char)), .t (.sc (.int .i64 x.ref)), .t (.lst 2 (List.map attrT x.attrs))])])
    (C := []) (by kernel_rfl) ?_ ?_
  · -- region 0
    trivial
  refine andThen_normal ?_
  refine Sim.seq ?_
  refine Sim.block ?_
  refine Sim.seq ?_
  refine Sim.reg (orcs := []) (keys := [1, 3]) (τ := [(0, 0)]) (nx := 80)
    (sl := [(1, .ptr 0 0), (3, .t (.sc (.bool ((x.char != 0) == (x.ref != 0)))))]) (l := [(0, .box [.t (.sc (.int .i64 x.char)), .t (.sc (.int .i64 x.ref)), .t (.lst 2 (List.map attrT x.attrs))])])
    (C := []) (by kernel_rfl) ?_ ?_
  · -- region 1
    trivial
  refine andThen_normal ?_
  refine Sim.cond (b := ((x.char != 0) == (x.ref != 0))) (by kernel_rfl) (fun h1 => ?_) (fun h1 => ?_)
  · (try simp only [beq_iff_eq, beq_eq_false_iff_ne, ne_eq, bne_iff_ne, bne_eq_false_iff_eq] at h1)
    refine Sim.seq ?_
    refine Sim.reg (orcs := []) (keys := [2]) (τ := []) (nx := 88)
      (sl := [(2, .t (.sc (.int .i64 4)))]) (l := [])
      (C := []) (by kernel_rfl) ?_ ?_
    · -- region 2
      trivial
    refine andThen_normal ?_
    refine Sim.ret ?_
    refine inBlk_ret ?_
    refine andThen_ret ?_
    refine Fin.mk2 (.inl rfl) (τ := []) (keys := [2]) (nx := 88) (sl := [(2, .t (.sc (.int .i64 4)))]) (l := []) (res' := .t (.sc (.int .i64 4))) (by kernel_rfl) ?_ (by kernel_rfl) ?_
    · -- end 1, objects
      first | done | rfl
    · -- end 1, result
      have e1 : ((elemE x) : Int) = 4 := by
        first | exact elemE_4 (nz_iff.1 h1) | exact elemE_2 (fun h => h1 (nz_iff.2 h)) (.inl h3) | exact elemE_2 (fun h => h1 (nz_iff.2 h)) (.inr h4) | exact elemE_c (fun h => h1 (nz_iff.2 h)) h3 h4 | (exfalso; simp_all; done)
      show AVal.t (.sc (.int .i64 4)) = .t (.sc (.int .i64 (elemE x)))
      rw [e1]
      try rfl
  · (try simp only [beq_iff_eq, beq_eq_false_iff_ne, ne_eq, bne_iff_ne, bne_eq_false_iff_eq] at h1)
    refine Sim.seq ?_
    refine Sim.seq ?_
    refine Sim.reg (orcs := [(6, ⟨none, none, none, some (⟨0, [], .t (.sc (.bool (decide (CharP x.char)))), []⟩)⟩)]) (keys := [1, 11]) (τ := [(0, 0)]) (nx := 160)
      (sl := [(1, .ptr 0 0), (11, .t (.sc (.bool ((x.ref == 0) && !(decide (CharP x.char))))))]) (l := [(0, .box [.t (.sc (.int .i64 x.char)), .t (.sc (.int .i64 x.ref)), .t (.lst 2 (List.map attrT x.attrs))])])
      (C := [(x.ref == 0) = true → (x.ref == 0) = true, (x.ref == 0) = true → (x.ref == 0) = true, (x.ref == 0) = true → callable Try.prog 151 = true, (x.ref == 0) = true → FC Try.prog 151 [.t (.sc (.int .i64 x.char))] emp (.t (.sc (.bool (decide (CharP x.char))))) emp, (x.ref == 0) = true → (x.ref == 0) = true, (x.ref == 0) = true → (x.ref == 0) = true]) (by kernel_rfl) ?_ ?_
    · -- region 3
      refine ⟨?_, ?_, (fun hg => by (try simp only [beq_iff_eq, beq_eq_false_iff_ne, ne_eq] at hg); exact (by kernel_rfl)), (fun hg => by (try simp only [beq_iff_eq, beq_eq_false_iff_ne, ne_eq] at hg); exact (fc_char x.char)), ?_, ?_, trivial⟩
      all_goals (first | omega | with_reducible exact fun h => h | (intro hg hq; rw [hg, hq]; rfl) | (intro hq; rw [hq]; done) | (intro hq; rw [hq]; rfl) | ((try intro hg); (try simp [-List.getD_eq_getElem?_getD] at hg); (try simp only [List.length_map]); first | done | omega | rfl | (simp; done) | (simp; omega) | (simp [hg]; done) | (intro hq; simp [hg, hq]; done) | (intro hq; simp [hg, hq]; omega)))
    refine andThen_normal ?_
    refine Sim.cond (b := ((x.ref == 0) && !(decide (CharP x.char)))) (by kernel_rfl) (fun h3 => ?_) (fun h3 => ?_)
    · (try simp only [decide_eq_true_eq, decide_eq_false_iff_not, Int.not_lt, Int.not_le, Bool.not_eq_true', Bool.not_eq_false', Bool.and_eq_true, Bool.and_eq_false_iff, beq_iff_eq, beq_eq_false_iff_ne, ne_eq] at h3)
      refine Sim.skip ?_
      refine andThen_normal ?_
      refine Sim.cond (b := ((x.ref == 0) && !(decide (CharP x.char)))) (by kernel_rfl) (fun h3 => ?_) (fun h3 => ?_)
      · (try simp only [decide_eq_true_eq, decide_eq_false_iff_not, Int.not_lt, Int.not_le, Bool.not_eq_true', Bool.not_eq_false', Bool.and_eq_true, Bool.and_eq_false_iff, beq_iff_eq, beq_eq_false_iff_ne, ne_eq] at h3)
        refine Sim.seq ?_
        refine Sim.reg (orcs := []) (keys := [2]) (τ := []) (nx := 168)
          (sl := [(2, .t (.sc (.int .i64 2)))]) (l := [])
          (C := []) (by kernel_rfl) ?_ ?_
        · -- region 5
          trivial
        refine andThen_normal ?_
        refine Sim.ret ?_
        refine inBlk_ret ?_
        refine andThen_ret ?_
        refine Fin.mk2 (.inl rfl) (τ := []) (keys := [2]) (nx := 168) (sl := [(2, .t (.sc (.int .i64 2)))]) (l := []) (res' := .t (.sc (.int .i64 2))) (by kernel_rfl) ?_ (by kernel_rfl) ?_
        · -- end 2, objects
          first | done | rfl
        · -- end 2, result
          have e2 : ((elemE x) : Int) = 2 := by
            first | exact elemE_4 (nz_iff.1 h1) | exact elemE_2 (fun h => h1 (nz_iff.2 h)) (.inl h3) | exact elemE_2 (fun h => h1 (nz_iff.2 h)) (.inr h4) | exact elemE_c (fun h => h1 (nz_iff.2 h)) h3 h4 | (exfalso; simp_all; done)
          show AVal.t (.sc (.int .i64 2)) = .t (.sc (.int .i64 (elemE x)))
          rw [e2]
          try rfl
      · (try simp only [decide_eq_true_eq, decide_eq_false_iff_not, Int.not_lt, Int.not_le, Bool.not_eq_true', Bool.not_eq_false', Bool.and_eq_true, Bool.and_eq_false_iff, beq_iff_eq, beq_eq_false_iff_ne, ne_eq] at h3)
        refine Sim.skip ?_
        refine inBlk_normal ?_
        refine andThen_normal ?_
        refine Sim.seq ?_
        refine Sim.reg (orcs := [(2, ⟨none, none, none, some (⟨0, [], .t (.sc (.int .i64 (chkA false x.attrs 0))), []⟩)⟩)]) (keys := [2]) (τ := []) (nx := 192)
          (sl := [(2, .t (.sc (.int .i64 (chkA false x.attrs 0))))]) (l := [])
          (C := [callable Try.prog 81 = true, FC Try.prog 81 [.t (.lst 2 (List.map attrT x.attrs))] emp (.t (.sc (.int .i64 (chkA false x.attrs 0)))) emp]) (by kernel_rfl) ?_ ?_
        · -- region 6
          exact ⟨(by kernel_rfl), (fc_acheck x.attrs), trivial⟩
        refine andThen_normal ?_
        refine Sim.ret ?_
        refine Fin.mk2 (.inl rfl) (τ := []) (keys := [2]) (nx := 192) (sl := [(2, .t (.sc (.int .i64 (chkA false x.attrs 0))))]) (l := []) (res' := .t (.sc (.int .i64 (chkA false x.attrs 0)))) (by kernel_rfl) ?_ (by kernel_rfl) ?_
        · -- end 3, objects
          first | done | rfl
        · -- end 3, result
          have e3 : ((elemE x) : Int) = (chkA false x.attrs 0) := by
            first | exact elemE_4 (nz_iff.1 h1) | exact elemE_2 (fun h => h1 (nz_iff.2 h)) (.inl h3) | exact elemE_2 (fun h => h1 (nz_iff.2 h)) (.inr h4) | exact elemE_c (fun h => h1 (nz_iff.2 h)) h3 h4 | (exfalso; simp_all; done)
          show AVal.t (.sc (.int .i64 (chkA false x.attrs 0))) = .t (.sc (.int .i64 (elemE x)))
          rw [e3]
          try rfl
    · (try simp only [decide_eq_true_eq, decide_eq_false_iff_not, Int.not_lt, Int.not_le, Bool.not_eq_true', Bool.not_eq_false', Bool.and_eq_true, Bool.and_eq_false_iff, beq_iff_eq, beq_eq_false_iff_ne, ne_eq] at h3)
      refine Sim.reg (orcs := []) (keys := [1, 11]) (τ := [(0, 0)]) (nx := 272)
        (sl := [(1, .ptr 0 0), (11, .t (.sc (.bool ((x.ref != 0) && (decide (x.ref < 1) || decide (x.ref > 1073741824))))))]) (l := [(0, .box [.t (.sc (.int .i64 x.char)), .t (.sc (.int .i64 x.ref)), .t (.lst 2 (List.map attrT x.attrs))])])
        (C := [(x.ref != 0) = true → (x.ref != 0) = true, (x.ref != 0) = true → (x.ref != 0) = true, (x.ref != 0) = true → (x.ref != 0) = true, ((x.ref != 0) && !(decide (x.ref < 1))) = true → ((x.ref != 0) && !(decide (x.ref < 1))) = true, ((x.ref != 0) && !(decide (x.ref < 1))) = true → ((x.ref != 0) && !(decide (x.ref < 1))) = true, (x.ref != 0) = true → (x.ref != 0) = true, (x.ref != 0) = true → (decide (x.ref < 1)) = false → ((x.ref != 0) && !(decide (x.ref < 1))) = true, (x.ref != 0) = true → (x.ref != 0) = true]) (by kernel_rfl) ?_ ?_
      · -- region 4
        refine ⟨?_, ?_, ?_, ?_, ?_, ?_, ?_, ?_, trivial⟩
        all_goals (first | omega | with_reducible exact fun h => h | (intro hg hq; rw [hg, hq]; rfl) | (intro hq; rw [hq]; done) | (intro hq; rw [hq]; rfl) | ((try intro hg); (try simp [-List.getD_eq_getElem?_getD] at hg); (try simp only [List.length_map]); first | done | omega | rfl | (simp; done) | (simp; omega) | (simp [hg]; done) | (intro hq; simp [hg, hq]; done) | (intro hq; simp [hg, hq]; omega)))
      refine andThen_normal ?_
      refine Sim.cond (b := ((x.ref != 0) && (decide (x.ref < 1) || decide (x.ref > 1073741824)))) (by kernel_rfl) (fun h4 => ?_) (fun h4 => ?_)
      · (try simp only [decide_eq_true_eq, decide_eq_false_iff_not, Int.not_lt, Int.not_le, gt_iff_lt, Bool.and_eq_true, Bool.and_eq_false_iff, Bool.not_eq_true', Bool.not_eq_false', Bool.or_eq_true, Bool.or_eq_false_iff, bne_iff_ne, bne_eq_false_iff_eq, ne_eq] at h4)
        refine Sim.seq ?_
        refine Sim.reg (orcs := []) (keys := [2]) (τ := []) (nx := 280)
          (sl := [(2, .t (.sc (.int .i64 2)))]) (l := [])
          (C := []) (by kernel_rfl) ?_ ?_
        · -- region 5
          trivial
        refine andThen_normal ?_
        refine Sim.ret ?_
        refine inBlk_ret ?_
        refine andThen_ret ?_
        refine Fin.mk2 (.inl rfl) (τ := []) (keys := [2]) (nx := 280) (sl := [(2, .t (.sc (.int .i64 2)))]) (l := []) (res' := .t (.sc (.int .i64 2))) (by kernel_rfl) ?_ (by kernel_rfl) ?_
        · -- end 4, objects
          first | done | rfl
        · -- end 4, result
          have e4 : ((elemE x) : Int) = 2 := by
            first | exact elemE_4 (nz_iff.1 h1) | exact elemE_2 (fun h => h1 (nz_iff.2 h)) (.inl h3) | exact elemE_2 (fun h => h1 (nz_iff.2 h)) (.inr h4) | exact elemE_c (fun h => h1 (nz_iff.2 h)) h3 h4 | (exfalso; simp_all; done)
          show AVal.t (.sc (.int .i64 2)) = .t (.sc (.int .i64 (elemE x)))
          rw [e4]
          try rfl
      · (try simp only [decide_eq_true_eq, decide_eq_false_iff_not, Int.not_lt, Int.not_le, gt_iff_lt, Bool.and_eq_true, Bool.and_eq_false_iff, Bool.not_eq_true', Bool.not_eq_false', Bool.or_eq_true, Bool.or_eq_false_iff, bne_iff_ne, bne_eq_false_iff_eq, ne_eq] at h4)
        refine Sim.skip ?_
        refine inBlk_normal ?_
        refine andThen_normal ?_
        refine Sim.seq ?_
        refine Sim.reg (orcs := [(2, ⟨none, none, none, some (⟨0, [], .t (.sc (.int .i64 (chkA false x.attrs 0))), []⟩)⟩)]) (keys := [2]) (τ := []) (nx := 304)
          (sl := [(2, .t (.sc (.int .i64 (chkA false x.attrs 0))))]) (l := [])
          (C := [callable Try.prog 81 = true, FC Try.prog 81 [.t (.lst 2 (List.map attrT x.attrs))] emp (.t (.sc (.int .i64 (chkA false x.attrs 0)))) emp]) (by kernel_rfl) ?_ ?_
        · -- region 6
          exact ⟨(by kernel_rfl), (fc_acheck x.attrs), trivial⟩
        refine andThen_normal ?_
        refine Sim.ret ?_
        refine Fin.mk2 (.inl rfl) (τ := []) (keys := [2]) (nx := 304) (sl := [(2, .t (.sc (.int .i64 (chkA false x.attrs 0))))]) (l := []) (res' := .t (.sc (.int .i64 (chkA false x.attrs 0)))) (by kernel_rfl) ?_ (by kernel_rfl) ?_
        · -- end 5, objects
          first | done | rfl
        · -- end 5, result
          have e5 : ((elemE x) : Int) = (chkA false x.attrs 0) := by
            first | exact elemE_4 (nz_iff.1 h1) | exact elemE_2 (fun h => h1 (nz_iff.2 h)) (.inl h3) | exact elemE_2 (fun h => h1 (nz_iff.2 h)) (.inr h4) | exact elemE_c (fun h => h1 (nz_iff.2 h)) h3 h4 | (exfalso; simp_all; done)
          show AVal.t (.sc (.int .i64 (chkA false x.attrs 0))) = .t (.sc (.int .i64 (elemE x)))
          rw [e5]
          try rfl

theorem fc_checkPart (l : List Elem) : FC Try.prog 115 [.t (.lst 3 (List.map elemT l))] (app emp []) (.t (.sc (.int .i64 (partE l 0)))) (app emp []) := by
  refine FC.of_sim (fn := Try.f115) (nx := 0) (by kernel_rfl) rfl (by kernel_rfl) rfl ?_
  show Sim _ _ _ _ ⟨[(0, .t (.lst 3 (List.map elemT l)))], app emp [], 0⟩ _
  refine Sim.len (t := 0) (k := 3) rfl (fun hl0 => ?_)
  rw [List.length_map] at hl0
  refine Sim.seq ?_
  refine Sim.reg (orcs := []) (keys := [0]) (τ := []) (nx := 8)
    (sl := [(0, .t (.lst 3 (List.map elemT l)))]) (l := [])
    (C := []) (by kernel_rfl) ?_ ?_
  · -- region 0
    trivial
  refine andThen_normal ?_
  refine Sim.seq ?_
  refine Sim.seq ?_
  refine Sim.reg (orcs := [(1, ⟨some (.t (.sc (.int .i64 (l.length : Int)))), none, none, none⟩)]) (keys := [6, 7, 8]) (τ := []) (nx := 32)
    (sl := [(6, .t (.lst 3 (List.map elemT l))), (7, .t (.sc (.int .i64 (l.length : Int)))), (8, .t (.sc (.int .i64 0)))]) (l := [])
    (C := [Weak (.t (.sc (.int .i64 ((List.map elemT l).length : Int)))) (.t (.sc (.int .i64 (l.length : Int))))]) (by kernel_rfl) ?_ ?_
  · -- region 1
    exact ⟨(Weak.of_eq len_map), trivial⟩
  refine andThen_normal ?_
  refine Sim.block ?_
  refine Sim.weaken (Le.ren (τ := []) (keys := [6, 7, 8]) (nx := 32) (sl := [(6, .t (.lst 3 (List.map elemT l))), (7, .t (.sc (.int .i64 (l.length : Int)))), (8, .t (.sc (.int .i64 ((0 : Nat) : Int))))]) (l := []) (by kernel_rfl)) ?_
  refine Sim.loop ?_
  refine loop_ind (α := Nat) (fun i => ⟨[(6, .t (.lst 3 (List.map elemT l))), (7, .t (.sc (.int .i64 (l.length : Int)))), (8, .t (.sc (.int .i64 (i : Int))))], app emp [], 32⟩) (fun i => i ≤ l.length ∧ partE l 0 = partE l i) (fun i => l.length - i) ?_ (0 : Nat) ?_
  rotate_left
  · -- loop 2, start
    exact ⟨by omega, rfl⟩
  rintro i I2 ih2
  show LoopSim _ _ _ _ ⟨[(6, .t (.lst 3 (List.map elemT l))), (7, .t (.sc (.int .i64 (l.length : Int)))), (8, .t (.sc (.int .i64 (i : Int))))], app emp [], 32⟩ _
  replace I2 : i ≤ l.length ∧ partE l 0 = partE l i := I2
  refine LoopSim.step ?_
  refine Sim.seq ?_
  refine Sim.reg (orcs := []) (keys := [6, 7, 8, 9]) (τ := []) (nx := 40)
    (sl := [(6, .t (.lst 3 (List.map elemT l))), (7, .t (.sc (.int .i64 (l.length : Int)))), (8, .t (.sc (.int .i64 (i : Int)))), (9, .t (.sc (.bool (decide ((i : Int) < (l.length : Int))))))]) (l := [])
    (C := []) (by kernel_rfl) ?_ ?_
  · -- region 2
    trivial
  refine andThen_normal ?_
  refine Sim.seq ?_
  refine Sim.cond (b := decide ((i : Int) < (l.length : Int))) (by kernel_rfl) (fun h2 => ?_) (fun h2 => ?_)
  · (try simp only [decide_eq_true_eq, decide_eq_false_iff_not, Int.not_lt, Int.not_le] at h2)
    refine Sim.skip ?_
    refine andThen_normal ?_
    refine Sim.seq ?_
    refine Sim.block ?_
    refine Sim.seq ?_
    refine Sim.reg (orcs := [(0, ⟨none, none, some (elemT (l.getD i default)), none⟩)]) (keys := [4, 6, 7, 8]) (τ := [(56, 56)]) (nx := 72)
      (sl := [(4, .ptr 56 0), (6, .t (.lst 3 (List.map elemT l))), (7, .t (.sc (.int .i64 (l.length : Int)))), (8, .t (.sc (.int .i64 (i : Int))))]) (l := [(56, .box [.t (.sc (.int .i64 (((l.getD i default)).char))), .t (.sc (.int .i64 (((l.getD i default)).ref))), .t (.lst 2 (List.map attrT (((l.getD i default)).attrs)))])])
      (C := [(0:Int) ≤ (i : Int), (List.map elemT l)[i]? = some (elemT (l.getD i default))]) (by kernel_rfl) ?_ ?_
    · -- region 3
      refine ⟨?_, (elt_nat ?_), trivial⟩
      all_goals omega
    refine andThen_normal ?_
    refine Sim.seq ?_
    refine Sim.reg (orcs := [(1, ⟨none, none, none, some (⟨0, [], .t (.sc (.int .i64 (elemE ((l.getD i default))))), []⟩)⟩)]) (keys := [5, 6, 7, 8]) (τ := []) (nx := 96)
      (sl := [(5, .t (.sc (.int .i64 (elemE ((l.getD i default)))))), (6, .t (.lst 3 (List.map elemT l))), (7, .t (.sc (.int .i64 (l.length : Int)))), (8, .t (.sc (.int .i64 (i : Int))))]) (l := [])
      (C := [callable Try.prog 138 = true, FC Try.prog 138 [.t (elemT ((l.getD i default)))] emp (.t (.sc (.int .i64 (elemE ((l.getD i default)))))) emp]) (by kernel_rfl) ?_ ?_
    · -- region 4
      exact ⟨(by kernel_rfl), (fc_elem ((l.getD i default))), trivial⟩
    refine andThen_normal ?_
    refine Sim.seq ?_
    refine Sim.reg (orcs := []) (keys := [5, 6, 7, 8, 15]) (τ := []) (nx := 112)
      (sl := [(5, .t (.sc (.int .i64 (elemE ((l.getD i default)))))), (6, .t (.lst 3 (List.map elemT l))), (7, .t (.sc (.int .i64 (l.length : Int)))), (8, .t (.sc (.int .i64 (i : Int)))), (15, .t (.sc (.bool ((elemE ((l.getD i default))) != 0))))]) (l := [])
      (C := []) (by kernel_rfl) ?_ ?_
    · -- region 5
      trivial
    refine andThen_normal ?_
    refine Sim.cond (b := ((elemE ((l.getD i default))) != 0)) (by kernel_rfl) (fun h5 => ?_) (fun h5 => ?_)
    · (try simp only [bne_iff_ne, bne_eq_false_iff_eq, ne_eq] at h5)
      refine Sim.seq ?_
      refine Sim.reg (orcs := []) (keys := [2]) (τ := []) (nx := 128)
        (sl := [(2, .t (.sc (.int .i64 (elemE ((l.getD i default))))))]) (l := [])
        (C := []) (by kernel_rfl) ?_ ?_
      · -- region 6
        trivial
      refine andThen_normal ?_
      refine Sim.ret ?_
      refine inBlk_ret ?_
      refine andThen_ret ?_
      refine andThen_ret ?_
      refine inBlk_ret ?_
      refine andThen_ret ?_
      refine Fin.mk2 (.inl rfl) (τ := []) (keys := [2]) (nx := 128) (sl := [(2, .t (.sc (.int .i64 (elemE ((l.getD i default))))))]) (l := []) (res' := .t (.sc (.int .i64 (elemE ((l.getD i default)))))) (by kernel_rfl) ?_ (by kernel_rfl) ?_
      · -- end 1, objects
        first | done | rfl
      · -- end 1, result
        have e1 : ((partE l 0) : Int) = (elemE ((l.getD i default))) := by
          rw [I2.2, partE]; ((repeat' split) <;> first | rfl | omega | (simp_all; done) | (simp_all; omega))
        show AVal.t (.sc (.int .i64 (elemE ((l.getD i default))))) = .t (.sc (.int .i64 (partE l 0)))
        rw [e1]
        try rfl
    · (try simp only [bne_iff_ne, bne_eq_false_iff_eq, ne_eq] at h5)
      refine Sim.skip ?_
      refine inBlk_normal ?_
      refine andThen_normal ?_
      refine Sim.reg (orcs := [(0, ⟨some (.t (.sc (.int .i64 ((i : Int) + 1)))), none, none, none⟩)]) (keys := [6, 7, 8]) (τ := []) (nx := 128)
        (sl := [(6, .t (.lst 3 (List.map elemT l))), (7, .t (.sc (.int .i64 (l.length : Int)))), (8, .t (.sc (.int .i64 ((i : Int) + 1))))]) (l := [])
        (C := [Weak (.t (.sc (.int .i64 (IntKind.i64.wrap ((i : Int) + 1))))) (.t (.sc (.int .i64 ((i : Int) + 1))))]) (by kernel_rfl) ?_ ?_
      · -- region 7
        refine ⟨(Weak.of_eq (nw ?_)), trivial⟩
        all_goals omega
      refine andThen_normal ?_
      refine LoopSim.weaken (Le.ren (τ := []) (keys := [6, 7, 8]) (nx := 32) (sl := [(6, .t (.lst 3 (List.map elemT l))), (7, .t (.sc (.int .i64 (l.length : Int)))), (8, .t (.sc (.int .i64 (((i + 1) : Nat) : Int))))]) (l := []) (by kernel_rfl)) ?_
      refine ih2 ((i + 1) : Nat) ?_ ?_
      · -- back 2.1, invariant
        refine ⟨by omega, ?_⟩; rw [I2.2, partE, if_pos (by omega), if_pos (by omega)]
      · -- back 2.1, measure
        show (_:Nat) < _; omega
  · (try simp only [decide_eq_true_eq, decide_eq_false_iff_not, Int.not_lt, Int.not_le] at h2)
    refine Sim.exit ?_
    refine andThen_exit ?_
    refine andThen_exit ?_
    refine inBlk_same ?_
    refine andThen_normal ?_
    refine Sim.seq ?_
    refine Sim.reg (orcs := []) (keys := [2]) (τ := []) (nx := 48)
      (sl := [(2, .t (.sc (.int .i64 0)))]) (l := [])
      (C := []) (by kernel_rfl) ?_ ?_
    · -- region 8
      trivial
    refine andThen_normal ?_
    refine Sim.ret ?_
    refine Fin.mk2 (.inl rfl) (τ := []) (keys := [2]) (nx := 48) (sl := [(2, .t (.sc (.int .i64 0)))]) (l := []) (res' := .t (.sc (.int .i64 0))) (by kernel_rfl) ?_ (by kernel_rfl) ?_
    · -- end 2, objects
      first | done | rfl
    · -- end 2, result
      have e2 : ((partE l 0) : Int) = 0 := by
        rw [I2.2, partE]; ((repeat' split) <;> first | rfl | omega | (simp_all; done) | (simp_all; omega))
      show AVal.t (.sc (.int .i64 0)) = .t (.sc (.int .i64 (partE l 0)))
      rw [e2]
      try rfl

theorem fc_attrSame (a b : List Attr) : FC Try.prog 136 [.t (.lst 2 (List.map attrT a)), .t (.lst 2 (List.map attrT b))] (app emp []) (.t (.sc (.bool (sameL a b)))) (app emp []) := by
  refine FC.of_sim (fn := Try.f136) (nx := 0) (by kernel_rfl) rfl (by kernel_rfl) rfl ?_
  show Sim _ _ _ _ ⟨[(0, .t (.lst 2 (List.map attrT a))), (1, .t (.lst 2 (List.map attrT b)))], app emp [], 0⟩ _
  refine Sim.len (t := 0) (k := 2) rfl (fun hl0 => ?_)
  rw [List.length_map] at hl0
  refine Sim.len (t := 1) (k := 2) rfl (fun hl1 => ?_)
  rw [List.length_map] at hl1
  refine Sim.seq ?_
  refine Sim.reg (orcs := []) (keys := [0, 1]) (τ := []) (nx := 8)
    (sl := [(0, .t (.lst 2 (List.map attrT a))), (1, .t (.lst 2 (List.map attrT b)))]) (l := [])
    (C := []) (by kernel_rfl) ?_ ?_
  · -- region 0
    trivial
  refine andThen_normal ?_
  refine Sim.seq ?_
  refine Sim.seq ?_
  refine Sim.reg (orcs := [(1, ⟨some (.t (.sc (.int .i64 (a.length : Int)))), none, none, none⟩), (3, ⟨some (.t (.sc (.int .i64 (b.length : Int)))), none, none, none⟩)]) (keys := [0, 1, 10]) (τ := []) (nx := 48)
    (sl := [(0, .t (.lst 2 (List.map attrT a))), (1, .t (.lst 2 (List.map attrT b))), (10, .t (.sc (.bool ((a.length : Int) != (b.length : Int)))))]) (l := [])
    (C := [Weak (.t (.sc (.int .i64 ((List.map attrT a).length : Int)))) (.t (.sc (.int .i64 (a.length : Int)))), Weak (.t (.sc (.int .i64 ((List.map attrT b).length : Int)))) (.t (.sc (.int .i64 (b.length : Int))))]) (by kernel_rfl) ?_ ?_
  · -- region 1
    exact ⟨(Weak.of_eq len_map), (Weak.of_eq len_map), trivial⟩
  refine andThen_normal ?_
  refine Sim.cond (b := ((a.length : Int) != (b.length : Int))) (by kernel_rfl) (fun h1 => ?_) (fun h1 => ?_)
  · (try simp only [bne_iff_ne, bne_eq_false_iff_eq, ne_eq] at h1)
    refine Sim.seq ?_
    refine Sim.reg (orcs := []) (keys := [4]) (τ := []) (nx := 56)
      (sl := [(4, .t (.sc (.bool false)))]) (l := [])
      (C := []) (by kernel_rfl) ?_ ?_
    · -- region 2
      trivial
    refine andThen_normal ?_
    refine Sim.ret ?_
    refine andThen_ret ?_
    refine Fin.mk2 (.inl rfl) (τ := []) (keys := [4]) (nx := 56) (sl := [(4, .t (.sc (.bool false)))]) (l := []) (res' := .t (.sc (.bool false))) (by kernel_rfl) ?_ (by kernel_rfl) ?_
    · -- end 1, objects
      first | done | rfl
    · -- end 1, result
      have e1 : ((sameL a b) : Bool) = false := by
        unfold sameL; rw [decide_eq_false (by omega)]; rfl
      show AVal.t (.sc (.bool false)) = .t (.sc (.bool (sameL a b)))
      rw [e1]
      try rfl
  · (try simp only [bne_iff_ne, bne_eq_false_iff_eq, ne_eq] at h1)
    refine Sim.skip ?_
    refine andThen_normal ?_
    refine Sim.seq ?_
    refine Sim.seq ?_
    refine Sim.reg (orcs := [(1, ⟨some (.t (.sc (.int .i64 (a.length : Int)))), none, none, none⟩)]) (keys := [0, 1, 12, 13]) (τ := []) (nx := 72)
      (sl := [(0, .t (.lst 2 (List.map attrT a))), (1, .t (.lst 2 (List.map attrT b))), (12, .t (.sc (.int .i64 (a.length : Int)))), (13, .t (.sc (.int .i64 0)))]) (l := [])
      (C := [Weak (.t (.sc (.int .i64 ((List.map attrT a).length : Int)))) (.t (.sc (.int .i64 (a.length : Int))))]) (by kernel_rfl) ?_ ?_
    · -- region 3
      exact ⟨(Weak.of_eq len_map), trivial⟩
    refine andThen_normal ?_
    refine Sim.block ?_
    refine Sim.weaken (Le.ren (τ := []) (keys := [0, 1, 12, 13]) (nx := 72) (sl := [(0, .t (.lst 2 (List.map attrT a))), (1, .t (.lst 2 (List.map attrT b))), (12, .t (.sc (.int .i64 (a.length : Int)))), (13, .t (.sc (.int .i64 ((0 : Nat) : Int))))]) (l := []) (by kernel_rfl)) ?_
    refine Sim.loop ?_
    refine loop_ind (α := Nat) (fun i => ⟨[(0, .t (.lst 2 (List.map attrT a))), (1, .t (.lst 2 (List.map attrT b))), (12, .t (.sc (.int .i64 (a.length : Int)))), (13, .t (.sc (.int .i64 (i : Int))))], app emp [], 72⟩) (fun i => i ≤ a.length ∧ sameA a b 0 = sameA a b i) (fun i => a.length - i) ?_ (0 : Nat) ?_
    rotate_left
    · -- loop 4, start
      exact ⟨by omega, rfl⟩
    rintro i I4 ih4
    show LoopSim _ _ _ _ ⟨[(0, .t (.lst 2 (List.map attrT a))), (1, .t (.lst 2 (List.map attrT b))), (12, .t (.sc (.int .i64 (a.length : Int)))), (13, .t (.sc (.int .i64 (i : Int))))], app emp [], 72⟩ _
    replace I4 : i ≤ a.length ∧ sameA a b 0 = sameA a b i := I4
    refine LoopSim.step ?_
    refine Sim.seq ?_
    refine Sim.reg (orcs := []) (keys := [0, 1, 12, 13, 14]) (τ := []) (nx := 80)
      (sl := [(0, .t (.lst 2 (List.map attrT a))), (1, .t (.lst 2 (List.map attrT b))), (12, .t (.sc (.int .i64 (a.length : Int)))), (13, .t (.sc (.int .i64 (i : Int)))), (14, .t (.sc (.bool (decide ((i : Int) < (a.length : Int))))))]) (l := [])
      (C := []) (by kernel_rfl) ?_ ?_
    · -- region 4
      trivial
    refine andThen_normal ?_
    refine Sim.seq ?_
    refine Sim.cond (b := decide ((i : Int) < (a.length : Int))) (by kernel_rfl) (fun h4 => ?_) (fun h4 => ?_)
    · (try simp only [decide_eq_true_eq, decide_eq_false_iff_not, Int.not_lt, Int.not_le] at h4)
      refine Sim.skip ?_
      refine andThen_normal ?_
      refine Sim.seq ?_
      refine Sim.block ?_
      refine Sim.seq ?_
      refine Sim.reg (orcs := []) (keys := [0, 1, 5, 12, 13]) (τ := []) (nx := 96)
        (sl := [(0, .t (.lst 2 (List.map attrT a))), (1, .t (.lst 2 (List.map attrT b))), (5, .t (.sc (.int .i64 (i : Int)))), (12, .t (.sc (.int .i64 (a.length : Int)))), (13, .t (.sc (.int .i64 (i : Int))))]) (l := [])
        (C := []) (by kernel_rfl) ?_ ?_
      · -- region 5
        trivial
      refine andThen_normal ?_
      refine Sim.seq ?_
      refine Sim.regD (by kernel_rfl) (orcs := [(2, ⟨none, none, some (attrT (a.getD i default)), none⟩), (6, ⟨none, none, some (attrT (b.getD i default)), none⟩)]) (keys := [0, 1, 12, 13, 24]) (τ := []) (nx := 168)
        (sl := [(0, .t (.lst 2 (List.map attrT a))), (1, .t (.lst 2 (List.map attrT b))), (12, .t (.sc (.int .i64 (a.length : Int)))), (13, .t (.sc (.int .i64 (i : Int)))), (24, .t (.sc (.bool (!(seq (((a.getD i default)).name) (((b.getD i default)).name) && (seq (((a.getD i default)).val) (((b.getD i default)).val) && true))))))]) (l := [])
        (C := [(0:Int) ≤ (i : Int), (List.map attrT a)[i]? = some (attrT (a.getD i default)), (0:Int) ≤ (i : Int), (List.map attrT b)[i]? = some (attrT (b.getD i default))]) (by kernel_rfl) ?_ ?_
      · -- region 6
        refine ⟨?_, (elt_nat ?_), ?_, (elt_nat ?_), trivial⟩
        all_goals omega
      refine andThen_normal ?_
      refine Sim.cond (b := !(seq (((a.getD i default)).name) (((b.getD i default)).name) && (seq (((a.getD i default)).val) (((b.getD i default)).val) && true))) (by kernel_rfl) (fun h6 => ?_) (fun h6 => ?_)
      · (try simp only [Bool.not_eq_true', Bool.not_eq_false', Bool.and_eq_true, Bool.and_eq_false_iff] at h6)
        refine Sim.seq ?_
        refine Sim.reg (orcs := []) (keys := [4]) (τ := []) (nx := 176)
          (sl := [(4, .t (.sc (.bool false)))]) (l := [])
          (C := []) (by kernel_rfl) ?_ ?_
        · -- region 7
          trivial
        refine andThen_normal ?_
        refine Sim.ret ?_
        refine inBlk_ret ?_
        refine andThen_ret ?_
        refine andThen_ret ?_
        refine inBlk_ret ?_
        refine andThen_ret ?_
        refine Fin.mk2 (.inl rfl) (τ := []) (keys := [4]) (nx := 176) (sl := [(4, .t (.sc (.bool false)))]) (l := []) (res' := .t (.sc (.bool false))) (by kernel_rfl) ?_ (by kernel_rfl) ?_
        · -- end 2, objects
          first | done | rfl
        · -- end 2, result
          have e2 : ((sameL a b) : Bool) = false := by
            unfold sameL; rw [I4.2, sameA, if_pos (by omega), if_neg (by clear ih4; simp only [seq_no, seq_iff] at h6; rintro ⟨x, y⟩; simp_all)]; simp
          show AVal.t (.sc (.bool false)) = .t (.sc (.bool (sameL a b)))
          rw [e2]
          try rfl
      · (try simp only [Bool.not_eq_true', Bool.not_eq_false', Bool.and_eq_true, Bool.and_eq_false_iff] at h6)
        refine Sim.skip ?_
        refine inBlk_normal ?_
        refine andThen_normal ?_
        refine Sim.reg (orcs := [(0, ⟨some (.t (.sc (.int .i64 ((i : Int) + 1)))), none, none, none⟩)]) (keys := [0, 1, 12, 13]) (τ := []) (nx := 184)
          (sl := [(0, .t (.lst 2 (List.map attrT a))), (1, .t (.lst 2 (List.map attrT b))), (12, .t (.sc (.int .i64 (a.length : Int)))), (13, .t (.sc (.int .i64 ((i : Int) + 1))))]) (l := [])
          (C := [Weak (.t (.sc (.int .i64 (IntKind.i64.wrap ((i : Int) + 1))))) (.t (.sc (.int .i64 ((i : Int) + 1))))]) (by kernel_rfl) ?_ ?_
        · -- region 8
          refine ⟨(Weak.of_eq (nw ?_)), trivial⟩
          all_goals omega
        refine andThen_normal ?_
        refine LoopSim.weaken (Le.ren (τ := []) (keys := [0, 1, 12, 13]) (nx := 72) (sl := [(0, .t (.lst 2 (List.map attrT a))), (1, .t (.lst 2 (List.map attrT b))), (12, .t (.sc (.int .i64 (a.length : Int)))), (13, .t (.sc (.int .i64 (((i + 1) : Nat) : Int))))]) (l := []) (by kernel_rfl)) ?_
        refine ih4 ((i + 1) : Nat) ?_ ?_
        · -- back 4.1, invariant
          refine ⟨by omega, ?_⟩; rw [I4.2, sameA, if_pos (by omega), if_pos (by clear ih4; simp only [seq_no, seq_iff] at h6; simp_all)]
        · -- back 4.1, measure
          show (_:Nat) < _; omega
    · (try simp only [decide_eq_true_eq, decide_eq_false_iff_not, Int.not_lt, Int.not_le] at h4)
      refine Sim.exit ?_
      refine andThen_exit ?_
      refine andThen_exit ?_
      refine inBlk_same ?_
      refine andThen_normal ?_
      refine Sim.seq ?_
      refine Sim.reg (orcs := []) (keys := [4]) (τ := []) (nx := 88)
        (sl := [(4, .t (.sc (.bool true)))]) (l := [])
        (C := []) (by kernel_rfl) ?_ ?_
      · -- region 9
        trivial
      refine andThen_normal ?_
      refine Sim.ret ?_
      refine Fin.mk2 (.inl rfl) (τ := []) (keys := [4]) (nx := 88) (sl := [(4, .t (.sc (.bool true)))]) (l := []) (res' := .t (.sc (.bool true))) (by kernel_rfl) ?_ (by kernel_rfl) ?_
      · -- end 3, objects
        first | done | rfl
      · -- end 3, result
        have e3 : ((sameL a b) : Bool) = true := by
          unfold sameL; rw [I4.2, sameA, if_neg (by omega), decide_eq_true (by omega)]; rfl
        show AVal.t (.sc (.bool true)) = .t (.sc (.bool (sameL a b)))
        rw [e3]
        try rfl

theorem fc_elemError (x : Elem) (hz : Szd x.attrs) : FC Try.prog 99 [.t (elemT x)] (app emp []) (.t (.sc (.int .i64 (elemE x)))) (app emp []) := by
  refine FC.of_sim (fn := Try.f99) (nx := 0) (by kernel_rfl) rfl (by kernel_rfl) rfl ?_
  show Sim _ _ _ _ ⟨[(0, .t (elemT x))], app emp [], 0⟩ _
  refine Sim.seq ?_
  refine Sim.reg (orcs := []) (keys := [1]) (τ := [(0, 0)]) (nx := 16)
    (sl := [(1, .ptr 0 0)]) (l := [(0, .box [.t (.sc (.int .i64 x.char)), .t (.sc (.int .i64 x.ref)), .t (.lst 2 (List.map attrT x.attrs))])])
    (C := []) (by kernel_rfl) ?_ ?_
  · -- region 0
    trivial
  refine andThen_normal ?_
  refine Sim.seq ?_
  refine Sim.seq ?_
  refine Sim.reg (orcs := []) (keys := [1, 20]) (τ := [(0, 0)]) (nx := 160)
    (sl := [(1, .ptr 0 0), (20, .t (.sc (.bool (((x.char == 0) && (x.ref == 0)) || ((x.char != 0) && (x.ref != 0))))))]) (l := [(0, .box [.t (.sc (.int .i64 x.char)), .t (.sc (.int .i64 x.ref)), .t (.lst 2 (List.map attrT x.attrs))])])
    (C := [(x.char == 0) = true → (x.char == 0) = true, (x.char == 0) = true → (x.char == 0) = true, (x.char == 0) = true → (x.char == 0) = true, (!((x.char == 0) && (x.ref == 0))) = true → (!((x.char == 0) && (x.ref == 0))) = true, (!((x.char == 0) && (x.ref == 0))) = true → (!((x.char == 0) && (x.ref == 0))) = true, (!((x.char == 0) && (x.ref == 0))) = true → (!((x.char == 0) && (x.ref == 0))) = true, ((!((x.char == 0) && (x.ref == 0))) && (x.char != 0)) = true → ((!((x.char == 0) && (x.ref == 0))) && (x.char != 0)) = true, ((!((x.char == 0) && (x.ref == 0))) && (x.char != 0)) = true → ((!((x.char == 0) && (x.ref == 0))) && (x.char != 0)) = true, (!((x.char == 0) && (x.ref == 0))) = true → (!((x.char == 0) && (x.ref == 0))) = true, (!((x.char == 0) && (x.ref == 0))) = true → (x.char != 0) = true → ((!((x.char == 0) && (x.ref == 0))) && (x.char != 0)) = true, ((x.char == 0) && (x.ref == 0)) = false → (!((x.char == 0) && (x.ref == 0))) = true]) (by kernel_rfl) ?_ ?_
  · -- region 1
    refine ⟨?_, ?_, ?_, ?_, ?_, ?_, ?_, ?_, ?_, ?_, ?_, trivial⟩
    all_goals (first | omega | with_reducible exact fun h => h | (intro hg hq; rw [hg, hq]; rfl) | (intro hq; rw [hq]; done) | (intro hq; rw [hq]; rfl) | ((try intro hg); (try simp [-List.getD_eq_getElem?_getD] at hg); (try simp only [List.length_map]); first | done | omega | rfl | (simp; done) | (simp; omega) | (simp [hg]; done) | (intro hq; simp [hg, hq]; done) | (intro hq; simp [hg, hq]; omega)))
  refine andThen_normal ?_
  refine Sim.cond (b := (((x.char == 0) && (x.ref == 0)) || ((x.char != 0) && (x.ref != 0)))) (by kernel_rfl) (fun h1 => ?_) (fun h1 => ?_)
  · (try simp only [Bool.and_eq_true, Bool.and_eq_false_iff, Bool.not_eq_true', Bool.not_eq_false', Bool.or_eq_true, Bool.or_eq_false_iff, beq_iff_eq, beq_eq_false_iff_ne, ne_eq, bne_iff_ne, bne_eq_false_iff_eq] at h1)
    refine Sim.seq ?_
    refine Sim.reg (orcs := []) (keys := [2]) (τ := []) (nx := 168)
      (sl := [(2, .t (.sc (.int .i64 4)))]) (l := [])
      (C := []) (by kernel_rfl) ?_ ?_
    · -- region 2
      trivial
    refine andThen_normal ?_
    refine Sim.ret ?_
    refine andThen_ret ?_
    refine Fin.mk2 (.inl rfl) (τ := []) (keys := [2]) (nx := 168) (sl := [(2, .t (.sc (.int .i64 4)))]) (l := []) (res' := .t (.sc (.int .i64 4))) (by kernel_rfl) ?_ (by kernel_rfl) ?_
    · -- end 1, objects
      first | done | rfl
    · -- end 1, result
      have e1 : ((elemE x) : Int) = 4 := by
        exact elemE_4 (by omega)
      show AVal.t (.sc (.int .i64 4)) = .t (.sc (.int .i64 (elemE x)))
      rw [e1]
      try rfl
  · (try simp only [Bool.and_eq_true, Bool.and_eq_false_iff, Bool.not_eq_true', Bool.not_eq_false', Bool.or_eq_true, Bool.or_eq_false_iff, beq_iff_eq, beq_eq_false_iff_ne, ne_eq, bne_iff_ne, bne_eq_false_iff_eq] at h1)
    refine Sim.skip ?_
    refine andThen_normal ?_
    refine Sim.seq ?_
    refine Sim.seq ?_
    refine Sim.reg (orcs := [(6, ⟨none, none, none, some (⟨0, [], .t (.sc (.bool (decide (CharP x.char)))), []⟩)⟩), (16, ⟨none, none, none, some (⟨0, [], .t (.sc (.bool (decide (1 ≤ x.ref ∧ x.ref ≤ 1073741824)))), []⟩)⟩)]) (keys := [1, 40]) (τ := [(0, 0)]) (nx := 320)
      (sl := [(1, .ptr 0 0), (40, .t (.sc (.bool (((x.char != 0) && !(decide (CharP x.char))) || ((x.ref != 0) && !(decide (1 ≤ x.ref ∧ x.ref ≤ 1073741824)))))))]) (l := [(0, .box [.t (.sc (.int .i64 x.char)), .t (.sc (.int .i64 x.ref)), .t (.lst 2 (List.map attrT x.attrs))])])
      (C := [(x.char != 0) = true → (x.char != 0) = true, (x.char != 0) = true → (x.char != 0) = true, (x.char != 0) = true → callable Try.prog 134 = true, (x.char != 0) = true → FC Try.prog 134 [.t (.sc (.int .i64 x.char))] emp (.t (.sc (.bool (decide (CharP x.char))))) emp, (x.char != 0) = true → (x.char != 0) = true, (x.char != 0) = true → (x.char != 0) = true, (!((x.char != 0) && !(decide (CharP x.char)))) = true → (!((x.char != 0) && !(decide (CharP x.char)))) = true, (!((x.char != 0) && !(decide (CharP x.char)))) = true → (!((x.char != 0) && !(decide (CharP x.char)))) = true, (!((x.char != 0) && !(decide (CharP x.char)))) = true → (!((x.char != 0) && !(decide (CharP x.char)))) = true, ((!((x.char != 0) && !(decide (CharP x.char)))) && (x.ref != 0)) = true → ((!((x.char != 0) && !(decide (CharP x.char)))) && (x.ref != 0)) = true, ((!((x.char != 0) && !(decide (CharP x.char)))) && (x.ref != 0)) = true → ((!((x.char != 0) && !(decide (CharP x.char)))) && (x.ref != 0)) = true, ((!((x.char != 0) && !(decide (CharP x.char)))) && (x.ref != 0)) = true → callable Try.prog 57 = true, ((!((x.char != 0) && !(decide (CharP x.char)))) && (x.ref != 0)) = true → FC Try.prog 57 [.t (.sc (.int .i64 x.ref)), .t (.sc (.int .i64 1)), .t (.sc (.int .i64 1073741824))] emp (.t (.sc (.bool (decide (1 ≤ x.ref ∧ x.ref ≤ 1073741824))))) emp, ((!((x.char != 0) && !(decide (CharP x.char)))) && (x.ref != 0)) = true → ((!((x.char != 0) && !(decide (CharP x.char)))) && (x.ref != 0)) = true, (!((x.char != 0) && !(decide (CharP x.char)))) = true → (!((x.char != 0) && !(decide (CharP x.char)))) = true, (!((x.char != 0) && !(decide (CharP x.char)))) = true → (x.ref != 0) = true → ((!((x.char != 0) && !(decide (CharP x.char)))) && (x.ref != 0)) = true, ((x.char != 0) && !(decide (CharP x.char))) = false → (!((x.char != 0) && !(decide (CharP x.char)))) = true]) (by kernel_rfl) ?_ ?_
    · -- region 3
      refine ⟨?_, ?_, (fun hg => by (try simp only [bne_iff_ne, bne_eq_false_iff_eq, ne_eq] at hg); exact (by kernel_rfl)), (fun hg => by (try simp only [bne_iff_ne, bne_eq_false_iff_eq, ne_eq] at hg); exact (fc_charR x.char)), ?_, ?_, ?_, ?_, ?_, ?_, ?_, (fun hg => by (try simp only [decide_eq_true_eq, decide_eq_false_iff_not, Int.not_lt, Int.not_le, Bool.not_eq_true', Bool.not_eq_false', Bool.and_eq_true, Bool.and_eq_false_iff, bne_iff_ne, bne_eq_false_iff_eq, ne_eq] at hg); exact (by kernel_rfl)), (fun hg => by (try simp only [decide_eq_true_eq, decide_eq_false_iff_not, Int.not_lt, Int.not_le, Bool.not_eq_true', Bool.not_eq_false', Bool.and_eq_true, Bool.and_eq_false_iff, bne_iff_ne, bne_eq_false_iff_eq, ne_eq] at hg); exact (fc_in x.ref 1 1073741824)), ?_, ?_, ?_, ?_, trivial⟩
      all_goals (first | omega | with_reducible exact fun h => h | (intro hg hq; rw [hg, hq]; rfl) | (intro hq; rw [hq]; done) | (intro hq; rw [hq]; rfl) | ((try intro hg); (try simp [-List.getD_eq_getElem?_getD] at hg); (try simp only [List.length_map]); first | done | omega | rfl | (simp; done) | (simp; omega) | (simp [hg]; done) | (intro hq; simp [hg, hq]; done) | (intro hq; simp [hg, hq]; omega)))
    refine andThen_normal ?_
    refine Sim.cond (b := (((x.char != 0) && !(decide (CharP x.char))) || ((x.ref != 0) && !(decide (1 ≤ x.ref ∧ x.ref ≤ 1073741824))))) (by kernel_rfl) (fun h3 => ?_) (fun h3 => ?_)
    · (try simp only [decide_eq_true_eq, decide_eq_false_iff_not, Int.not_lt, Int.not_le, Bool.not_eq_true', Bool.not_eq_false', Bool.and_eq_true, Bool.and_eq_false_iff, Bool.or_eq_true, Bool.or_eq_false_iff, bne_iff_ne, bne_eq_false_iff_eq, ne_eq] at h3)
      refine Sim.seq ?_
      refine Sim.reg (orcs := []) (keys := [2]) (τ := []) (nx := 328)
        (sl := [(2, .t (.sc (.int .i64 2)))]) (l := [])
        (C := []) (by kernel_rfl) ?_ ?_
      · -- region 4
        trivial
      refine andThen_normal ?_
      refine Sim.ret ?_
      refine andThen_ret ?_
      refine Fin.mk2 (.inl rfl) (τ := []) (keys := [2]) (nx := 328) (sl := [(2, .t (.sc (.int .i64 2)))]) (l := []) (res' := .t (.sc (.int .i64 2))) (by kernel_rfl) ?_ (by kernel_rfl) ?_
      · -- end 2, objects
        first | done | rfl
      · -- end 2, result
        have e2 : ((elemE x) : Int) = 2 := by
          refine elemE_2 (by omega) ?_
          rcases h3 with ⟨q, r⟩ | ⟨q, r⟩
          · exact .inl ⟨by omega, r⟩
          · exact .inr ⟨q, by omega⟩
        show AVal.t (.sc (.int .i64 2)) = .t (.sc (.int .i64 (elemE x)))
        rw [e2]
        try rfl
    · (try simp only [decide_eq_true_eq, decide_eq_false_iff_not, Int.not_lt, Int.not_le, Bool.not_eq_true', Bool.not_eq_false', Bool.and_eq_true, Bool.and_eq_false_iff, Bool.or_eq_true, Bool.or_eq_false_iff, bne_iff_ne, bne_eq_false_iff_eq, ne_eq] at h3)
      refine Sim.skip ?_
      refine andThen_normal ?_
      refine Sim.seq ?_
      refine Sim.reg (orcs := [(2, ⟨none, none, none, some (⟨0, [], .t (.sc (.int .i64 (errA false x.attrs 0))), []⟩)⟩)]) (keys := [2]) (τ := []) (nx := 352)
        (sl := [(2, .t (.sc (.int .i64 (errA false x.attrs 0))))]) (l := [])
        (C := [callable Try.prog 27 = true, FC Try.prog 27 [.t (.lst 2 (List.map attrT x.attrs)), .t (.sc (.bool false))] emp (.t (.sc (.int .i64 (errA false x.attrs 0)))) emp]) (by kernel_rfl) ?_ ?_
      · -- region 5
        exact ⟨(by kernel_rfl), (fc_attrsError x.attrs false (by assumption)), trivial⟩
      refine andThen_normal ?_
      refine Sim.ret ?_
      refine Fin.mk2 (.inl rfl) (τ := []) (keys := [2]) (nx := 352) (sl := [(2, .t (.sc (.int .i64 (errA false x.attrs 0))))]) (l := []) (res' := .t (.sc (.int .i64 (errA false x.attrs 0)))) (by kernel_rfl) ?_ (by kernel_rfl) ?_
      · -- end 3, objects
        first | done | rfl
      · -- end 3, result
        have e3 : ((elemE x) : Int) = (errA false x.attrs 0) := by
          rw [errA_eq false x.attrs _ 0 rfl]
          obtain ⟨h3a, h3b⟩ := h3
          exact elemE_c (by omega) (by rcases h3a with q | q; (left; omega); exact .inr q) (by rcases h3b with q | q; exact .inl q; exact .inr q)
        show AVal.t (.sc (.int .i64 (errA false x.attrs 0))) = .t (.sc (.int .i64 (elemE x)))
        rw [e3]
        try rfl

theorem fc_partError (l : List Elem) (hz : SzE l) : FC Try.prog 47 [.t (.lst 3 (List.map elemT l))] (app emp []) (.t (.sc (.int .i64 (partE l 0)))) (app emp []) := by
  refine FC.of_sim (fn := Try.f47) (nx := 0) (by kernel_rfl) rfl (by kernel_rfl) rfl ?_
  show Sim _ _ _ _ ⟨[(0, .t (.lst 3 (List.map elemT l)))], app emp [], 0⟩ _
  refine Sim.len (t := 0) (k := 3) rfl (fun hl0 => ?_)
  rw [List.length_map] at hl0
  refine Sim.seq ?_
  refine Sim.reg (orcs := []) (keys := [0]) (τ := []) (nx := 8)
    (sl := [(0, .t (.lst 3 (List.map elemT l)))]) (l := [])
    (C := []) (by kernel_rfl) ?_ ?_
  · -- region 0
    trivial
  refine andThen_normal ?_
  refine Sim.seq ?_
  refine Sim.seq ?_
  refine Sim.reg (orcs := [(1, ⟨some (.t (.sc (.int .i64 (l.length : Int)))), none, none, none⟩)]) (keys := [0, 6, 7]) (τ := []) (nx := 32)
    (sl := [(0, .t (.lst 3 (List.map elemT l))), (6, .t (.sc (.int .i64 (l.length : Int)))), (7, .t (.sc (.int .i64 0)))]) (l := [])
    (C := [Weak (.t (.sc (.int .i64 ((List.map elemT l).length : Int)))) (.t (.sc (.int .i64 (l.length : Int))))]) (by kernel_rfl) ?_ ?_
  · -- region 1
    exact ⟨(Weak.of_eq len_map), trivial⟩
  refine andThen_normal ?_
  refine Sim.block ?_
  refine Sim.weaken (Le.ren (τ := []) (keys := [0, 6, 7]) (nx := 32) (sl := [(0, .t (.lst 3 (List.map elemT l))), (6, .t (.sc (.int .i64 (l.length : Int)))), (7, .t (.sc (.int .i64 ((0 : Nat) : Int))))]) (l := []) (by kernel_rfl)) ?_
  refine Sim.loop ?_
  refine loop_ind (α := Nat) (fun i => ⟨[(0, .t (.lst 3 (List.map elemT l))), (6, .t (.sc (.int .i64 (l.length : Int)))), (7, .t (.sc (.int .i64 (i : Int))))], app emp [], 32⟩) (fun i => i ≤ l.length ∧ partE l 0 = partE l i) (fun i => l.length - i) ?_ (0 : Nat) ?_
  rotate_left
  · -- loop 2, start
    exact ⟨by omega, rfl⟩
  rintro i I2 ih2
  show LoopSim _ _ _ _ ⟨[(0, .t (.lst 3 (List.map elemT l))), (6, .t (.sc (.int .i64 (l.length : Int)))), (7, .t (.sc (.int .i64 (i : Int))))], app emp [], 32⟩ _
  replace I2 : i ≤ l.length ∧ partE l 0 = partE l i := I2
  refine LoopSim.step ?_
  refine Sim.seq ?_
  refine Sim.reg (orcs := []) (keys := [0, 6, 7, 8]) (τ := []) (nx := 40)
    (sl := [(0, .t (.lst 3 (List.map elemT l))), (6, .t (.sc (.int .i64 (l.length : Int)))), (7, .t (.sc (.int .i64 (i : Int)))), (8, .t (.sc (.bool (decide ((i : Int) < (l.length : Int))))))]) (l := [])
    (C := []) (by kernel_rfl) ?_ ?_
  · -- region 2
    trivial
  refine andThen_normal ?_
  refine Sim.seq ?_
  refine Sim.cond (b := decide ((i : Int) < (l.length : Int))) (by kernel_rfl) (fun h2 => ?_) (fun h2 => ?_)
  · (try simp only [decide_eq_true_eq, decide_eq_false_iff_not, Int.not_lt, Int.not_le] at h2)
    refine Sim.skip ?_
    refine andThen_normal ?_
    refine Sim.seq ?_
    refine Sim.block ?_
    refine Sim.seq ?_
    refine Sim.reg (orcs := []) (keys := [0, 3, 6, 7]) (τ := []) (nx := 56)
      (sl := [(0, .t (.lst 3 (List.map elemT l))), (3, .t (.sc (.int .i64 (i : Int)))), (6, .t (.sc (.int .i64 (l.length : Int)))), (7, .t (.sc (.int .i64 (i : Int))))]) (l := [])
      (C := []) (by kernel_rfl) ?_ ?_
    · -- region 3
      trivial
    refine andThen_normal ?_
    refine Sim.seq ?_
    have hx := hz _ (getDE_mem (l := l) (k := i) (by omega))
    refine Sim.reg (orcs := [(2, ⟨none, none, some (elemT (l.getD i default)), none⟩), (4, ⟨none, none, none, some (⟨0, [], .t (.sc (.int .i64 (elemE ((l.getD i default))))), []⟩)⟩)]) (keys := [0, 4, 6, 7]) (τ := []) (nx := 104)
      (sl := [(0, .t (.lst 3 (List.map elemT l))), (4, .t (.sc (.int .i64 (elemE ((l.getD i default)))))), (6, .t (.sc (.int .i64 (l.length : Int)))), (7, .t (.sc (.int .i64 (i : Int))))]) (l := [])
      (C := [(0:Int) ≤ (i : Int), (List.map elemT l)[i]? = some (elemT (l.getD i default)), callable Try.prog 99 = true, FC Try.prog 99 [.t (elemT ((l.getD i default)))] emp (.t (.sc (.int .i64 (elemE ((l.getD i default)))))) emp]) (by kernel_rfl) ?_ ?_
    · -- region 4
      refine ⟨?_, (elt_nat ?_), (by kernel_rfl), (fc_elemError ((l.getD i default)) (by assumption)), trivial⟩
      all_goals omega
    refine andThen_normal ?_
    refine Sim.seq ?_
    refine Sim.reg (orcs := []) (keys := [0, 4, 6, 7, 16]) (τ := []) (nx := 120)
      (sl := [(0, .t (.lst 3 (List.map elemT l))), (4, .t (.sc (.int .i64 (elemE ((l.getD i default)))))), (6, .t (.sc (.int .i64 (l.length : Int)))), (7, .t (.sc (.int .i64 (i : Int)))), (16, .t (.sc (.bool ((elemE ((l.getD i default))) != 0))))]) (l := [])
      (C := []) (by kernel_rfl) ?_ ?_
    · -- region 5
      trivial
    refine andThen_normal ?_
    refine Sim.cond (b := ((elemE ((l.getD i default))) != 0)) (by kernel_rfl) (fun h5 => ?_) (fun h5 => ?_)
    · (try simp only [bne_iff_ne, bne_eq_false_iff_eq, ne_eq] at h5)
      refine Sim.seq ?_
      refine Sim.reg (orcs := []) (keys := [2]) (τ := []) (nx := 136)
        (sl := [(2, .t (.sc (.int .i64 (elemE ((l.getD i default))))))]) (l := [])
        (C := []) (by kernel_rfl) ?_ ?_
      · -- region 6
        trivial
      refine andThen_normal ?_
      refine Sim.ret ?_
      refine inBlk_ret ?_
      refine andThen_ret ?_
      refine andThen_ret ?_
      refine inBlk_ret ?_
      refine andThen_ret ?_
      refine Fin.mk2 (.inl rfl) (τ := []) (keys := [2]) (nx := 136) (sl := [(2, .t (.sc (.int .i64 (elemE ((l.getD i default))))))]) (l := []) (res' := .t (.sc (.int .i64 (elemE ((l.getD i default)))))) (by kernel_rfl) ?_ (by kernel_rfl) ?_
      · -- end 1, objects
        first | done | rfl
      · -- end 1, result
        have e1 : ((partE l 0) : Int) = (elemE ((l.getD i default))) := by
          rw [I2.2, partE]; ((repeat' split) <;> first | rfl | omega | (simp_all; done) | (simp_all; omega))
        show AVal.t (.sc (.int .i64 (elemE ((l.getD i default))))) = .t (.sc (.int .i64 (partE l 0)))
        rw [e1]
        try rfl
    · (try simp only [bne_iff_ne, bne_eq_false_iff_eq, ne_eq] at h5)
      refine Sim.skip ?_
      refine inBlk_normal ?_
      refine andThen_normal ?_
      refine Sim.reg (orcs := [(0, ⟨some (.t (.sc (.int .i64 ((i : Int) + 1)))), none, none, none⟩)]) (keys := [0, 6, 7]) (τ := []) (nx := 136)
        (sl := [(0, .t (.lst 3 (List.map elemT l))), (6, .t (.sc (.int .i64 (l.length : Int)))), (7, .t (.sc (.int .i64 ((i : Int) + 1))))]) (l := [])
        (C := [Weak (.t (.sc (.int .i64 (IntKind.i64.wrap ((i : Int) + 1))))) (.t (.sc (.int .i64 ((i : Int) + 1))))]) (by kernel_rfl) ?_ ?_
      · -- region 7
        refine ⟨(Weak.of_eq (nw ?_)), trivial⟩
        all_goals omega
      refine andThen_normal ?_
      refine LoopSim.weaken (Le.ren (τ := []) (keys := [0, 6, 7]) (nx := 32) (sl := [(0, .t (.lst 3 (List.map elemT l))), (6, .t (.sc (.int .i64 (l.length : Int)))), (7, .t (.sc (.int .i64 (((i + 1) : Nat) : Int))))]) (l := []) (by kernel_rfl)) ?_
      refine ih2 ((i + 1) : Nat) ?_ ?_
      · -- back 2.1, invariant
        refine ⟨by omega, ?_⟩; rw [I2.2, partE, if_pos (by omega), if_pos (by omega)]
      · -- back 2.1, measure
        show (_:Nat) < _; omega
  · (try simp only [decide_eq_true_eq, decide_eq_false_iff_not, Int.not_lt, Int.not_le] at h2)
    refine Sim.exit ?_
    refine andThen_exit ?_
    refine andThen_exit ?_
    refine inBlk_same ?_
    refine andThen_normal ?_
    refine Sim.seq ?_
    refine Sim.reg (orcs := []) (keys := [2]) (τ := []) (nx := 48)
      (sl := [(2, .t (.sc (.int .i64 0)))]) (l := [])
      (C := []) (by kernel_rfl) ?_ ?_
    · -- region 8
      trivial
    refine andThen_normal ?_
    refine Sim.ret ?_
    refine Fin.mk2 (.inl rfl) (τ := []) (keys := [2]) (nx := 48) (sl := [(2, .t (.sc (.int .i64 0)))]) (l := []) (res' := .t (.sc (.int .i64 0))) (by kernel_rfl) ?_ (by kernel_rfl) ?_
    · -- end 2, objects
      first | done | rfl
    · -- end 2, result
      have e2 : ((partE l 0) : Int) = 0 := by
        rw [I2.2, partE]; ((repeat' split) <;> first | rfl | omega | (simp_all; done) | (simp_all; omega))
      show AVal.t (.sc (.int .i64 0)) = .t (.sc (.int .i64 (partE l 0)))
      rw [e2]
      try rfl

theorem fc_sameElem (x y : Elem) : FC Try.prog 73 [.t (elemT x), .t (elemT y)] (app emp []) (.t (.sc (.bool (sameE x y)))) (app emp []) := by
  refine FC.of_sim (fn := Try.f73) (nx := 0) (by kernel_rfl) rfl (by kernel_rfl) rfl ?_
  show Sim _ _ _ _ ⟨[(0, .t (elemT x)), (1, .t (elemT y))], app emp [], 0⟩ _
  refine Sim.seq ?_
  refine Sim.reg (orcs := []) (keys := [2, 3]) (τ := [(0, 0), (8, 8)]) (nx := 24)
    (sl := [(2, .ptr 0 0), (3, .ptr 8 0)]) (l := [(0, .box [.t (.sc (.int .i64 x.char)), .t (.sc (.int .i64 x.ref)), .t (.lst 2 (List.map attrT x.attrs))]), (8, .box [.t (.sc (.int .i64 y.char)), .t (.sc (.int .i64 y.ref)), .t (.lst 2 (List.map attrT y.attrs))])])
    (C := []) (by kernel_rfl) ?_ ?_
  · -- region 0
    trivial
  refine andThen_normal ?_
  refine Sim.seq ?_
  refine Sim.reg (orcs := [(17, ⟨none, none, none, some (⟨0, [], .t (.sc (.bool (sameL x.attrs y.attrs))), []⟩)⟩)]) (keys := [4]) (τ := []) (nx := 184)
    (sl := [(4, .t (.sc (.bool (((x.char == y.char) && (x.ref == y.ref)) && (sameL x.attrs y.attrs)))))]) (l := [])
    (C := [(x.char == y.char) = true → (x.char == y.char) = true, (x.char == y.char) = true → (x.char == y.char) = true, (x.char == y.char) = true → (x.char == y.char) = true, (x.char == y.char) = true → (x.char == y.char) = true, (x.char == y.char) = true → (x.char == y.char) = true, ((x.char == y.char) && (x.ref == y.ref)) = true → ((x.char == y.char) && (x.ref == y.ref)) = true, ((x.char == y.char) && (x.ref == y.ref)) = true → ((x.char == y.char) && (x.ref == y.ref)) = true, ((x.char == y.char) && (x.ref == y.ref)) = true → ((x.char == y.char) && (x.ref == y.ref)) = true, ((x.char == y.char) && (x.ref == y.ref)) = true → ((x.char == y.char) && (x.ref == y.ref)) = true, ((x.char == y.char) && (x.ref == y.ref)) = true → callable Try.prog 30 = true, ((x.char == y.char) && (x.ref == y.ref)) = true → FC Try.prog 30 [.t (.lst 2 (List.map attrT x.attrs)), .t (.lst 2 (List.map attrT y.attrs))] emp (.t (.sc (.bool (sameL x.attrs y.attrs)))) emp, ((x.char == y.char) && (x.ref == y.ref)) = true → ((x.char == y.char) && (x.ref == y.ref)) = true]) (by kernel_rfl) ?_ ?_
  · -- region 1
    refine ⟨?_, ?_, ?_, ?_, ?_, ?_, ?_, ?_, ?_, (fun hg => by (try simp only [Bool.and_eq_true, Bool.and_eq_false_iff, Bool.not_eq_true', Bool.not_eq_false', beq_iff_eq, beq_eq_false_iff_ne, ne_eq] at hg); exact (by kernel_rfl)), (fun hg => by (try simp only [Bool.and_eq_true, Bool.and_eq_false_iff, Bool.not_eq_true', Bool.not_eq_false', beq_iff_eq, beq_eq_false_iff_ne, ne_eq] at hg); exact (fc_sameAttrs x.attrs y.attrs)), ?_, trivial⟩
    all_goals (first | omega | with_reducible exact fun h => h | (intro hg hq; rw [hg, hq]; rfl) | (intro hq; rw [hq]; done) | (intro hq; rw [hq]; rfl) | ((try intro hg); (try simp [-List.getD_eq_getElem?_getD] at hg); (try simp only [List.length_map]); first | done | omega | rfl | (simp; done) | (simp; omega) | (simp [hg]; done) | (intro hq; simp [hg, hq]; done) | (intro hq; simp [hg, hq]; omega)))
  refine andThen_normal ?_
  refine Sim.ret ?_
  refine Fin.mk2 (.inl rfl) (τ := []) (keys := [4]) (nx := 184) (sl := [(4, .t (.sc (.bool (((x.char == y.char) && (x.ref == y.ref)) && (sameL x.attrs y.attrs)))))]) (l := []) (res' := .t (.sc (.bool (((x.char == y.char) && (x.ref == y.ref)) && (sameL x.attrs y.attrs))))) (by kernel_rfl) ?_ (by kernel_rfl) ?_
  · -- end 1, objects
    first | done | rfl
  · -- end 1, result
    have e1 : ((sameE x y) : Bool) = (((x.char == y.char) && (x.ref == y.ref)) && (sameL x.attrs y.attrs)) := by
      rfl
    show AVal.t (.sc (.bool (((x.char == y.char) && (x.ref == y.ref)) && (sameL x.attrs y.attrs)))) = .t (.sc (.bool (sameE x y)))
    rw [e1]
    try rfl

theorem fc_sameFlow (a b : List Elem) : FC Try.prog 55 [.t (.lst 3 (List.map elemT a)), .t (.lst 3 (List.map elemT b))] (app emp []) (.t (.sc (.bool (sameF a b)))) (app emp []) := by
  refine FC.of_sim (fn := Try.f55) (nx := 0) (by kernel_rfl) rfl (by kernel_rfl) rfl ?_
  show Sim _ _ _ _ ⟨[(0, .t (.lst 3 (List.map elemT a))), (1, .t (.lst 3 (List.map elemT b)))], app emp [], 0⟩ _
  refine Sim.len (t := 0) (k := 3) rfl (fun hl0 => ?_)
  rw [List.length_map] at hl0
  refine Sim.len (t := 1) (k := 3) rfl (fun hl1 => ?_)
  rw [List.length_map] at hl1
  refine Sim.seq ?_
  refine Sim.reg (orcs := []) (keys := [0, 1]) (τ := []) (nx := 8)
    (sl := [(0, .t (.lst 3 (List.map elemT a))), (1, .t (.lst 3 (List.map elemT b)))]) (l := [])
    (C := []) (by kernel_rfl) ?_ ?_
  · -- region 0
    trivial
  refine andThen_normal ?_
  refine Sim.seq ?_
  refine Sim.seq ?_
  refine Sim.reg (orcs := [(1, ⟨some (.t (.sc (.int .i64 (a.length : Int)))), none, none, none⟩), (3, ⟨some (.t (.sc (.int .i64 (b.length : Int)))), none, none, none⟩)]) (keys := [0, 1, 10]) (τ := []) (nx := 48)
    (sl := [(0, .t (.lst 3 (List.map elemT a))), (1, .t (.lst 3 (List.map elemT b))), (10, .t (.sc (.bool ((a.length : Int) != (b.length : Int)))))]) (l := [])
    (C := [Weak (.t (.sc (.int .i64 ((List.map elemT a).length : Int)))) (.t (.sc (.int .i64 (a.length : Int)))), Weak (.t (.sc (.int .i64 ((List.map elemT b).length : Int)))) (.t (.sc (.int .i64 (b.length : Int))))]) (by kernel_rfl) ?_ ?_
  · -- region 1
    exact ⟨(Weak.of_eq len_map), (Weak.of_eq len_map), trivial⟩
  refine andThen_normal ?_
  refine Sim.cond (b := ((a.length : Int) != (b.length : Int))) (by kernel_rfl) (fun h1 => ?_) (fun h1 => ?_)
  · (try simp only [bne_iff_ne, bne_eq_false_iff_eq, ne_eq] at h1)
    refine Sim.seq ?_
    refine Sim.reg (orcs := []) (keys := [4]) (τ := []) (nx := 56)
      (sl := [(4, .t (.sc (.bool false)))]) (l := [])
      (C := []) (by kernel_rfl) ?_ ?_
    · -- region 2
      trivial
    refine andThen_normal ?_
    refine Sim.ret ?_
    refine andThen_ret ?_
    refine Fin.mk2 (.inl rfl) (τ := []) (keys := [4]) (nx := 56) (sl := [(4, .t (.sc (.bool false)))]) (l := []) (res' := .t (.sc (.bool false))) (by kernel_rfl) ?_ (by kernel_rfl) ?_
    · -- end 1, objects
      first | done | rfl
    · -- end 1, result
      have e1 : ((sameF a b) : Bool) = false := by
        unfold sameF; rw [decide_eq_false (by omega)]; rfl
      show AVal.t (.sc (.bool false)) = .t (.sc (.bool (sameF a b)))
      rw [e1]
      try rfl
  · (try simp only [bne_iff_ne, bne_eq_false_iff_eq, ne_eq] at h1)
    refine Sim.skip ?_
    refine andThen_normal ?_
    refine Sim.seq ?_
    refine Sim.seq ?_
    refine Sim.reg (orcs := [(1, ⟨some (.t (.sc (.int .i64 (a.length : Int)))), none, none, none⟩)]) (keys := [0, 1, 12, 13]) (τ := []) (nx := 72)
      (sl := [(0, .t (.lst 3 (List.map elemT a))), (1, .t (.lst 3 (List.map elemT b))), (12, .t (.sc (.int .i64 (a.length : Int)))), (13, .t (.sc (.int .i64 0)))]) (l := [])
      (C := [Weak (.t (.sc (.int .i64 ((List.map elemT a).length : Int)))) (.t (.sc (.int .i64 (a.length : Int))))]) (by kernel_rfl) ?_ ?_
    · -- region 3
      exact ⟨(Weak.of_eq len_map), trivial⟩
    refine andThen_normal ?_
    refine Sim.block ?_
    refine Sim.weaken (Le.ren (τ := []) (keys := [0, 1, 12, 13]) (nx := 72) (sl := [(0, .t (.lst 3 (List.map elemT a))), (1, .t (.lst 3 (List.map elemT b))), (12, .t (.sc (.int .i64 (a.length : Int)))), (13, .t (.sc (.int .i64 ((0 : Nat) : Int))))]) (l := []) (by kernel_rfl)) ?_
    refine Sim.loop ?_
    refine loop_ind (α := Nat) (fun i => ⟨[(0, .t (.lst 3 (List.map elemT a))), (1, .t (.lst 3 (List.map elemT b))), (12, .t (.sc (.int .i64 (a.length : Int)))), (13, .t (.sc (.int .i64 (i : Int))))], app emp [], 72⟩) (fun i => i ≤ a.length ∧ sameFi a b 0 = sameFi a b i) (fun i => a.length - i) ?_ (0 : Nat) ?_
    rotate_left
    · -- loop 4, start
      exact ⟨by omega, rfl⟩
    rintro i I4 ih4
    show LoopSim _ _ _ _ ⟨[(0, .t (.lst 3 (List.map elemT a))), (1, .t (.lst 3 (List.map elemT b))), (12, .t (.sc (.int .i64 (a.length : Int)))), (13, .t (.sc (.int .i64 (i : Int))))], app emp [], 72⟩ _
    replace I4 : i ≤ a.length ∧ sameFi a b 0 = sameFi a b i := I4
    refine LoopSim.step ?_
    refine Sim.seq ?_
    refine Sim.reg (orcs := []) (keys := [0, 1, 12, 13, 14]) (τ := []) (nx := 80)
      (sl := [(0, .t (.lst 3 (List.map elemT a))), (1, .t (.lst 3 (List.map elemT b))), (12, .t (.sc (.int .i64 (a.length : Int)))), (13, .t (.sc (.int .i64 (i : Int)))), (14, .t (.sc (.bool (decide ((i : Int) < (a.length : Int))))))]) (l := [])
      (C := []) (by kernel_rfl) ?_ ?_
    · -- region 4
      trivial
    refine andThen_normal ?_
    refine Sim.seq ?_
    refine Sim.cond (b := decide ((i : Int) < (a.length : Int))) (by kernel_rfl) (fun h4 => ?_) (fun h4 => ?_)
    · (try simp only [decide_eq_true_eq, decide_eq_false_iff_not, Int.not_lt, Int.not_le] at h4)
      refine Sim.skip ?_
      refine andThen_normal ?_
      refine Sim.seq ?_
      refine Sim.block ?_
      refine Sim.seq ?_
      refine Sim.reg (orcs := []) (keys := [0, 1, 5, 12, 13]) (τ := []) (nx := 96)
        (sl := [(0, .t (.lst 3 (List.map elemT a))), (1, .t (.lst 3 (List.map elemT b))), (5, .t (.sc (.int .i64 (i : Int)))), (12, .t (.sc (.int .i64 (a.length : Int)))), (13, .t (.sc (.int .i64 (i : Int))))]) (l := [])
        (C := []) (by kernel_rfl) ?_ ?_
      · -- region 5
        trivial
      refine andThen_normal ?_
      refine Sim.seq ?_
      refine Sim.regD (by kernel_rfl) (orcs := [(2, ⟨none, none, some (elemT (a.getD i default)), none⟩), (6, ⟨none, none, some (elemT (b.getD i default)), none⟩), (8, ⟨none, none, none, some (⟨0, [], .t (.sc (.bool (sameE ((a.getD i default)) ((b.getD i default))))), []⟩)⟩)]) (keys := [0, 1, 12, 13, 25]) (τ := []) (nx := 176)
        (sl := [(0, .t (.lst 3 (List.map elemT a))), (1, .t (.lst 3 (List.map elemT b))), (12, .t (.sc (.int .i64 (a.length : Int)))), (13, .t (.sc (.int .i64 (i : Int)))), (25, .t (.sc (.bool (!(sameE ((a.getD i default)) ((b.getD i default)))))))]) (l := [])
        (C := [(0:Int) ≤ (i : Int), (List.map elemT a)[i]? = some (elemT (a.getD i default)), (0:Int) ≤ (i : Int), (List.map elemT b)[i]? = some (elemT (b.getD i default)), callable Try.prog 73 = true, FC Try.prog 73 [.t (elemT ((a.getD i default))), .t (elemT ((b.getD i default)))] emp (.t (.sc (.bool (sameE ((a.getD i default)) ((b.getD i default)))))) emp]) (by kernel_rfl) ?_ ?_
      · -- region 6
        refine ⟨?_, (elt_nat ?_), ?_, (elt_nat ?_), (by kernel_rfl), (fc_sameElem ((a.getD i default)) ((b.getD i default))), trivial⟩
        all_goals omega
      refine andThen_normal ?_
      refine Sim.cond (b := !(sameE ((a.getD i default)) ((b.getD i default)))) (by kernel_rfl) (fun h6 => ?_) (fun h6 => ?_)
      · (try simp only [Bool.not_eq_true', Bool.not_eq_false'] at h6)
        refine Sim.seq ?_
        refine Sim.reg (orcs := []) (keys := [4]) (τ := []) (nx := 184)
          (sl := [(4, .t (.sc (.bool false)))]) (l := [])
          (C := []) (by kernel_rfl) ?_ ?_
        · -- region 7
          trivial
        refine andThen_normal ?_
        refine Sim.ret ?_
        refine inBlk_ret ?_
        refine andThen_ret ?_
        refine andThen_ret ?_
        refine inBlk_ret ?_
        refine andThen_ret ?_
        refine Fin.mk2 (.inl rfl) (τ := []) (keys := [4]) (nx := 184) (sl := [(4, .t (.sc (.bool false)))]) (l := []) (res' := .t (.sc (.bool false))) (by kernel_rfl) ?_ (by kernel_rfl) ?_
        · -- end 2, objects
          first | done | rfl
        · -- end 2, result
          have e2 : ((sameF a b) : Bool) = false := by
            unfold sameF; rw [I4.2, sameFi, if_pos (by omega), if_neg (by rw [h6]; decide)]; simp
          show AVal.t (.sc (.bool false)) = .t (.sc (.bool (sameF a b)))
          rw [e2]
          try rfl
      · (try simp only [Bool.not_eq_true', Bool.not_eq_false'] at h6)
        refine Sim.skip ?_
        refine inBlk_normal ?_
        refine andThen_normal ?_
        refine Sim.reg (orcs := [(0, ⟨some (.t (.sc (.int .i64 ((i : Int) + 1)))), none, none, none⟩)]) (keys := [0, 1, 12, 13]) (τ := []) (nx := 192)
          (sl := [(0, .t (.lst 3 (List.map elemT a))), (1, .t (.lst 3 (List.map elemT b))), (12, .t (.sc (.int .i64 (a.length : Int)))), (13, .t (.sc (.int .i64 ((i : Int) + 1))))]) (l := [])
          (C := [Weak (.t (.sc (.int .i64 (IntKind.i64.wrap ((i : Int) + 1))))) (.t (.sc (.int .i64 ((i : Int) + 1))))]) (by kernel_rfl) ?_ ?_
        · -- region 8
          refine ⟨(Weak.of_eq (nw ?_)), trivial⟩
          all_goals omega
        refine andThen_normal ?_
        refine LoopSim.weaken (Le.ren (τ := []) (keys := [0, 1, 12, 13]) (nx := 72) (sl := [(0, .t (.lst 3 (List.map elemT a))), (1, .t (.lst 3 (List.map elemT b))), (12, .t (.sc (.int .i64 (a.length : Int)))), (13, .t (.sc (.int .i64 (((i + 1) : Nat) : Int))))]) (l := []) (by kernel_rfl)) ?_
        refine ih4 ((i + 1) : Nat) ?_ ?_
        · -- back 4.1, invariant
          refine ⟨by omega, ?_⟩; rw [I4.2, sameFi, if_pos (by omega), if_pos h6]
        · -- back 4.1, measure
          show (_:Nat) < _; omega
    · (try simp only [decide_eq_true_eq, decide_eq_false_iff_not, Int.not_lt, Int.not_le] at h4)
      refine Sim.exit ?_
      refine andThen_exit ?_
      refine andThen_exit ?_
      refine inBlk_same ?_
      refine andThen_normal ?_
      refine Sim.seq ?_
      refine Sim.reg (orcs := []) (keys := [4]) (τ := []) (nx := 88)
        (sl := [(4, .t (.sc (.bool true)))]) (l := [])
        (C := []) (by kernel_rfl) ?_ ?_
      · -- region 9
        trivial
      refine andThen_normal ?_
      refine Sim.ret ?_
      refine Fin.mk2 (.inl rfl) (τ := []) (keys := [4]) (nx := 88) (sl := [(4, .t (.sc (.bool true)))]) (l := []) (res' := .t (.sc (.bool true))) (by kernel_rfl) ?_ (by kernel_rfl) ?_
      · -- end 3, objects
        first | done | rfl
      · -- end 3, result
        have e3 : ((sameF a b) : Bool) = true := by
          unfold sameF; rw [I4.2, sameFi, if_neg (by omega), decide_eq_true (by omega)]; rfl
        show AVal.t (.sc (.bool true)) = .t (.sc (.bool (sameF a b)))
        rw [e3]
        try rfl
end Go.Ch
