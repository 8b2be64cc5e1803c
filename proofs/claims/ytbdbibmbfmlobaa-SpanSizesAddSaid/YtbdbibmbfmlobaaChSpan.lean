import Derived.Test.YtbdbibmbfmlobaaAbGen
import Derived.Test.YtbdbibmbfmlobaaProg
set_option linter.unusedVariables false
set_option linter.unusedSimpArgs false
set_option maxRecDepth 100000
set_option maxHeartbeats 4000000
open Go Go.Proofs Go.Ab
namespace Go.Ch
structure Span where
  fr : Int
  to : Int
instance : Inhabited Span := ⟨⟨0, 0⟩⟩
def spanT (s : Span) : Tree := .agg [.sc (.int .i64 s.fr), .sc (.int .i64 s.to)]
def badS (s : Span) : Prop := s.fr < 0 ∨ s.to ≤ s.fr ∨ s.to > 2147483647
instance (s : Span) : Decidable (badS s) := by unfold badS; infer_instance
def chkS (l : List Span) (i : Nat) : Int :=
  if i < l.length then
    if badS (l.getD i default) then 2
    else if 0 < i ∧ (l.getD i default).fr ≤ (l.getD (i - 1) default).to then 5
    else chkS l (i + 1)
  else 0
termination_by l.length - i
def endS (l : List Span) (k : Nat) : Int := if k % 2 = 0 then (l.getD (k / 2) default).fr else (l.getD (k / 2) default).to
def addS (l : List Span) (s : Span) : List Span :=
  if 0 < l.length ∧ s.fr ≤ (l.getD (l.length - 1) default).to then l.set (l.length - 1) ⟨(l.getD (l.length - 1) default).fr, max (l.getD (l.length - 1) default).to s.to⟩ else l ++ [s]
def skipS (l : List Span) (i : Nat) (p : Int) : Nat := if i < 2 * l.length ∧ endS l i = p then skipS l (i + 1) p else i
termination_by 2 * l.length - i
def nextS (a b : List Span) (i j : Nat) : Int :=
  if j < 2 * b.length then min (if i < 2 * a.length then endS a i else 2147483648) (endS b j) else (if i < 2 * a.length then endS a i else 2147483648)
theorem skipS_ge (l : List Span) (p : Int) (i : Nat) : i ≤ skipS l i p := by
  induction i using skipS.induct (l := l) (p := p) with
  | case1 i h ih => rw [skipS, if_pos h]; omega
  | case2 i h => rw [skipS, if_neg h]; omega
theorem skipS_le (l : List Span) (p : Int) (i : Nat) (hi : i ≤ 2 * l.length) : skipS l i p ≤ 2 * l.length := by
  induction i using skipS.induct (l := l) (p := p) with
  | case1 i h ih => rw [skipS, if_pos h]; exact ih (by omega)
  | case2 i h => rw [skipS, if_neg h]; omega
theorem skipS_lt (l : List Span) (i : Nat) (h : i < 2 * l.length) : i < skipS l i (endS l i) := by
  rw [skipS, if_pos ⟨h, rfl⟩]
  exact skipS_ge _ _ _
theorem skip_prog (a b : List Span) (i j : Nat) (h : i < 2 * a.length ∨ j < 2 * b.length) (hb : ∀ k, k < 2 * b.length → endS b k ≤ 2147483648) : i < 2 * a.length ∧ i < skipS a i (nextS a b i j) ∨ j < 2 * b.length ∧ j < skipS b j (nextS a b i j) := by
  unfold nextS
  by_cases h1 : i < 2 * a.length <;> by_cases h2 : j < 2 * b.length <;> simp only [h1, h2, if_true, if_false, true_and, false_and, or_false, false_or]
  · by_cases h3 : endS a i ≤ endS b j
    · left; rw [Int.min_eq_left h3]; exact skipS_lt a i h1
    · right; rw [Int.min_eq_right (by omega)]; exact skipS_lt b j h2
  · exact skipS_lt a i h1
  · rw [Int.min_eq_right (hb j h2)]; exact skipS_lt b j h2
  · omega
def mergeS (w : Bool → Bool → Bool) (a b : List Span) (out : List Span) (p : Int) (i j : Nat) : List Span :=
  if h : (i < 2 * a.length ∨ j < 2 * b.length) ∧ (2 * a.length - skipS a i (nextS a b i j)) + (2 * b.length - skipS b j (nextS a b i j)) < (2 * a.length - i) + (2 * b.length - j) then
    mergeS w a b (if p < nextS a b i j ∧ w (decide (i % 2 = 1)) (decide (j % 2 = 1)) = true then addS out ⟨p, nextS a b i j⟩ else out) (nextS a b i j) (skipS a i (nextS a b i j)) (skipS b j (nextS a b i j))
  else out
termination_by (2 * a.length - i) + (2 * b.length - j)
decreasing_by exact h.2
theorem mergeS_step (w : Bool → Bool → Bool) (a b out : List Span) (p : Int) (i j : Nat) (h : i < 2 * a.length ∨ j < 2 * b.length) (hb : ∀ k, k < 2 * b.length → endS b k ≤ 2147483648) :
    mergeS w a b out p i j = mergeS w a b (if p < nextS a b i j ∧ w (decide (i % 2 = 1)) (decide (j % 2 = 1)) = true then addS out ⟨p, nextS a b i j⟩ else out) (nextS a b i j) (skipS a i (nextS a b i j)) (skipS b j (nextS a b i j)) := by
  rw [mergeS, dif_pos]
  have h1 := skip_prog a b i j h hb
  have h2 := skipS_ge a (nextS a b i j) i
  have h3 := skipS_ge b (nextS a b i j) j
  refine ⟨h, ?_⟩
  omega
theorem mergeS_end (w : Bool → Bool → Bool) (a b out : List Span) (p : Int) (i j : Nat) (h : ¬ (i < 2 * a.length ∨ j < 2 * b.length)) : mergeS w a b out p i j = out := by
  rw [mergeS, dif_neg (fun e => h e.1)]
theorem mod2 (i : Nat) : (((i : Int) % 2) == 1) = decide (i % 2 = 1) := by
  by_cases h : i % 2 = 1
  · rw [decide_eq_true h]; simp; omega
  · rw [decide_eq_false h]; simp; omega
theorem addS_len (l : List Span) (s : Span) : (addS l s).length ≤ l.length + 1 := by
  unfold addS; split <;> simp

theorem fc_end (l : List Span) (k : Nat) (hk : k < 2 * l.length) (hk2 : k < 9223372036854775807) : FC Try.prog 148 [.t (.lst 2 (List.map spanT l)), .t (.sc (.int .i64 (k : Int)))] (app emp []) (.t (.sc (.int .i64 (endS l k)))) (app emp []) := by
  refine FC.of_sim (fn := Try.f148) (nx := 0) (by kernel_rfl) rfl (by kernel_rfl) rfl ?_
  show Sim _ _ _ _ ⟨[(0, .t (.lst 2 (List.map spanT l))), (1, .t (.sc (.int .i64 (k : Int))))], app emp [], 0⟩ _
  refine Sim.len (t := 0) (k := 2) rfl (fun hl0 => ?_)
  rw [List.length_map] at hl0
  refine Sim.seq ?_
  refine Sim.reg (orcs := []) (keys := [0, 1]) (τ := []) (nx := 8)
    (sl := [(0, .t (.lst 2 (List.map spanT l))), (1, .t (.sc (.int .i64 (k : Int))))]) (l := [])
    (C := []) (by kernel_rfl) ?_ ?_
  · -- region 0
    trivial
  refine andThen_normal ?_
  refine Sim.seq ?_
  refine Sim.seq ?_
  refine Sim.reg (orcs := [(1, ⟨some (.t (.sc (.int .i64 ((k : Int) % 2)))), none, none, none⟩)]) (keys := [0, 1, 7]) (τ := []) (nx := 32)
    (sl := [(0, .t (.lst 2 (List.map spanT l))), (1, .t (.sc (.int .i64 (k : Int)))), (7, .t (.sc (.bool (((k : Int) % 2) == 0))))]) (l := [])
    (C := [(2 : Int) ≠ 0, AVal.t (.sc (.int .i64 ((k : Int) % 2))) = .t (.sc (.int .i64 ((k : Int).tmod 2)))]) (by kernel_rfl) ?_ ?_
  · -- region 1
    exact ⟨(by (first | omega | exact fun h => h | (simp only [List.length_map]; done) | (simp only [List.length_map]; omega) | (simp; omega) | (simp; done))), (rem_nn (by (first | omega | exact fun h => h | (simp only [List.length_map]; done) | (simp only [List.length_map]; omega) | (simp; omega) | (simp; done)))), trivial⟩
  refine andThen_normal ?_
  refine Sim.cond (b := (((k : Int) % 2) == 0)) rfl (fun h1 => ?_) (fun h1 => ?_)
  · (try simp only [beq_iff_eq, beq_eq_false_iff_ne, ne_eq] at h1)
    refine Sim.seq ?_
    refine Sim.reg (orcs := [(2, ⟨some (.t (.sc (.int .i64 ((k : Int) / 2)))), none, none, none⟩), (3, ⟨none, none, some (spanT (l.getD (k / 2) default)), none⟩)]) (keys := [4]) (τ := []) (nx := 88)
      (sl := [(4, .t (.sc (.int .i64 (((l.getD (k / 2) default)).fr))))]) (l := [])
      (C := [(2 : Int) ≠ 0, AVal.t (.sc (.int .i64 ((k : Int) / 2))) = .t (.sc (.int .i64 (IntKind.i64.wrap ((k : Int).tdiv 2)))), (0:Int) ≤ ((k : Int) / 2), (List.map spanT l)[(k / 2)]? = some (spanT (l.getD (k / 2) default))]) (by kernel_rfl) ?_ ?_
    · -- region 2
      exact ⟨(by (first | omega | exact fun h => h | (simp only [List.length_map]; done) | (simp only [List.length_map]; omega) | (simp; omega) | (simp; done))), (quo_nn (by (first | omega | exact fun h => h | (simp only [List.length_map]; done) | (simp only [List.length_map]; omega) | (simp; omega) | (simp; done)))), (by (first | omega | exact fun h => h | (simp only [List.length_map]; done) | (simp only [List.length_map]; omega) | (simp; omega) | (simp; done))), (elt_nat (by (first | omega | exact fun h => h | (simp only [List.length_map]; done) | (simp only [List.length_map]; omega) | (simp; omega) | (simp; done)))), trivial⟩
    refine andThen_normal ?_
    refine Sim.ret ?_
    refine andThen_ret ?_
    refine Fin.mk2 (.inl rfl) (τ := []) (keys := [4]) (nx := 88) (sl := [(4, .t (.sc (.int .i64 (((l.getD (k / 2) default)).fr))))]) (l := []) (res' := .t (.sc (.int .i64 (((l.getD (k / 2) default)).fr)))) (by kernel_rfl) ?_ (by kernel_rfl) ?_
    · -- end 1, objects
      first | done | rfl
    · -- end 1, result
      have e1 : ((endS l k) : Int) = ((l.getD (k / 2) default)).fr := by
        unfold endS; split <;> first | rfl | omega
      show AVal.t (.sc (.int .i64 (((l.getD (k / 2) default)).fr))) = .t (.sc (.int .i64 (endS l k)))
      rw [e1]
      try rfl
  · (try simp only [beq_iff_eq, beq_eq_false_iff_ne, ne_eq] at h1)
    refine Sim.skip ?_
    refine andThen_normal ?_
    refine Sim.seq ?_
    refine Sim.reg (orcs := [(2, ⟨some (.t (.sc (.int .i64 ((k : Int) / 2)))), none, none, none⟩), (3, ⟨none, none, some (spanT (l.getD (k / 2) default)), none⟩)]) (keys := [4]) (τ := []) (nx := 88)
      (sl := [(4, .t (.sc (.int .i64 (((l.getD (k / 2) default)).to))))]) (l := [])
      (C := [(2 : Int) ≠ 0, AVal.t (.sc (.int .i64 ((k : Int) / 2))) = .t (.sc (.int .i64 (IntKind.i64.wrap ((k : Int).tdiv 2)))), (0:Int) ≤ ((k : Int) / 2), (List.map spanT l)[(k / 2)]? = some (spanT (l.getD (k / 2) default))]) (by kernel_rfl) ?_ ?_
    · -- region 3
      exact ⟨(by (first | omega | exact fun h => h | (simp only [List.length_map]; done) | (simp only [List.length_map]; omega) | (simp; omega) | (simp; done))), (quo_nn (by (first | omega | exact fun h => h | (simp only [List.length_map]; done) | (simp only [List.length_map]; omega) | (simp; omega) | (simp; done)))), (by (first | omega | exact fun h => h | (simp only [List.length_map]; done) | (simp only [List.length_map]; omega) | (simp; omega) | (simp; done))), (elt_nat (by (first | omega | exact fun h => h | (simp only [List.length_map]; done) | (simp only [List.length_map]; omega) | (simp; omega) | (simp; done)))), trivial⟩
    refine andThen_normal ?_
    refine Sim.ret ?_
    refine Fin.mk2 (.inl rfl) (τ := []) (keys := [4]) (nx := 88) (sl := [(4, .t (.sc (.int .i64 (((l.getD (k / 2) default)).to))))]) (l := []) (res' := .t (.sc (.int .i64 (((l.getD (k / 2) default)).to)))) (by kernel_rfl) ?_ (by kernel_rfl) ?_
    · -- end 2, objects
      first | done | rfl
    · -- end 2, result
      have e2 : ((endS l k) : Int) = ((l.getD (k / 2) default)).to := by
        unfold endS; split <;> first | rfl | omega
      show AVal.t (.sc (.int .i64 (((l.getD (k / 2) default)).to))) = .t (.sc (.int .i64 (endS l k)))
      rw [e2]
      try rfl

theorem fc_wor (a b : Bool) : FC Try.prog 76 [.t (.sc (.bool a)), .t (.sc (.bool b))] (app emp []) (.t (.sc (.bool (a || b)))) (app emp []) := by
  refine FC.of_sim (fn := Try.f76) (nx := 0) (by kernel_rfl) rfl (by kernel_rfl) rfl ?_
  show Sim _ _ _ _ ⟨[(0, .t (.sc (.bool a))), (1, .t (.sc (.bool b)))], app emp [], 0⟩ _
  refine Sim.seq ?_
  refine Sim.reg (orcs := []) (keys := [0, 1]) (τ := []) (nx := 8)
    (sl := [(0, .t (.sc (.bool a))), (1, .t (.sc (.bool b)))]) (l := [])
    (C := []) (by kernel_rfl) ?_ ?_
  · -- region 0
    trivial
  refine andThen_normal ?_
  refine Sim.seq ?_
  refine Sim.reg (orcs := []) (keys := [4]) (τ := []) (nx := 48)
    (sl := [(4, .t (.sc (.bool (a || b))))]) (l := [])
    (C := [a = false → (!a) = true]) (by kernel_rfl) ?_ ?_
  · -- region 1
    exact ⟨(by (first | omega | exact fun h => h | (simp only [List.length_map]; done) | (simp only [List.length_map]; omega) | (simp; omega) | (simp; done))), trivial⟩
  refine andThen_normal ?_
  refine Sim.ret ?_
  refine Fin.mk2 (.inl rfl) (τ := []) (keys := [4]) (nx := 48) (sl := [(4, .t (.sc (.bool (a || b))))]) (l := []) (res' := .t (.sc (.bool (a || b)))) (by kernel_rfl) ?_ (by kernel_rfl) ?_
  · -- end 1, objects
    first | done | rfl
  · -- end 1, result
    first | done | rfl

theorem fc_wand (a b : Bool) : FC Try.prog 77 [.t (.sc (.bool a)), .t (.sc (.bool b))] (app emp []) (.t (.sc (.bool (a && b)))) (app emp []) := by
  refine FC.of_sim (fn := Try.f77) (nx := 0) (by kernel_rfl) rfl (by kernel_rfl) rfl ?_
  show Sim _ _ _ _ ⟨[(0, .t (.sc (.bool a))), (1, .t (.sc (.bool b)))], app emp [], 0⟩ _
  refine Sim.seq ?_
  refine Sim.reg (orcs := []) (keys := [0, 1]) (τ := []) (nx := 8)
    (sl := [(0, .t (.sc (.bool a))), (1, .t (.sc (.bool b)))]) (l := [])
    (C := []) (by kernel_rfl) ?_ ?_
  · -- region 0
    trivial
  refine andThen_normal ?_
  refine Sim.seq ?_
  refine Sim.reg (orcs := []) (keys := [4]) (τ := []) (nx := 48)
    (sl := [(4, .t (.sc (.bool (a && b))))]) (l := [])
    (C := [a = true → a = true]) (by kernel_rfl) ?_ ?_
  · -- region 1
    exact ⟨(by (first | omega | exact fun h => h | (simp only [List.length_map]; done) | (simp only [List.length_map]; omega) | (simp; omega) | (simp; done))), trivial⟩
  refine andThen_normal ?_
  refine Sim.ret ?_
  refine Fin.mk2 (.inl rfl) (τ := []) (keys := [4]) (nx := 48) (sl := [(4, .t (.sc (.bool (a && b))))]) (l := []) (res' := .t (.sc (.bool (a && b)))) (by kernel_rfl) ?_ (by kernel_rfl) ?_
  · -- end 1, objects
    first | done | rfl
  · -- end 1, result
    first | done | rfl

theorem fc_wminus (a b : Bool) : FC Try.prog 78 [.t (.sc (.bool a)), .t (.sc (.bool b))] (app emp []) (.t (.sc (.bool (a && !b)))) (app emp []) := by
  refine FC.of_sim (fn := Try.f78) (nx := 0) (by kernel_rfl) rfl (by kernel_rfl) rfl ?_
  show Sim _ _ _ _ ⟨[(0, .t (.sc (.bool a))), (1, .t (.sc (.bool b)))], app emp [], 0⟩ _
  refine Sim.seq ?_
  refine Sim.reg (orcs := []) (keys := [0, 1]) (τ := []) (nx := 8)
    (sl := [(0, .t (.sc (.bool a))), (1, .t (.sc (.bool b)))]) (l := [])
    (C := []) (by kernel_rfl) ?_ ?_
  · -- region 0
    trivial
  refine andThen_normal ?_
  refine Sim.seq ?_
  refine Sim.reg (orcs := []) (keys := [4]) (τ := []) (nx := 56)
    (sl := [(4, .t (.sc (.bool (a && !b))))]) (l := [])
    (C := [a = true → a = true, a = true → a = true]) (by kernel_rfl) ?_ ?_
  · -- region 1
    exact ⟨(by first | exact fun h => h | (intro hg; skip; omega) | (intro _; (first | omega | exact fun h => h | (simp only [List.length_map]; done) | (simp only [List.length_map]; omega) | (simp; omega) | (simp; done)))), (by (first | omega | exact fun h => h | (simp only [List.length_map]; done) | (simp only [List.length_map]; omega) | (simp; omega) | (simp; done))), trivial⟩
  refine andThen_normal ?_
  refine Sim.ret ?_
  refine Fin.mk2 (.inl rfl) (τ := []) (keys := [4]) (nx := 56) (sl := [(4, .t (.sc (.bool (a && !b))))]) (l := []) (res' := .t (.sc (.bool (a && !b)))) (by kernel_rfl) ?_ (by kernel_rfl) ?_
  · -- end 1, objects
    first | done | rfl
  · -- end 1, result
    first | done | rfl

theorem fc_check (l : List Span) : FC Try.prog 24 [.t (.lst 2 (List.map spanT l))] (app emp []) (.t (.sc (.int .i64 (chkS l 0)))) (app emp []) := by
  refine FC.of_sim (fn := Try.f24) (nx := 0) (by kernel_rfl) rfl (by kernel_rfl) rfl ?_
  show Sim _ _ _ _ ⟨[(0, .t (.lst 2 (List.map spanT l)))], app emp [], 0⟩ _
  refine Sim.len (t := 0) (k := 2) rfl (fun hl0 => ?_)
  rw [List.length_map] at hl0
  refine Sim.seq ?_
  refine Sim.reg (orcs := []) (keys := [0]) (τ := []) (nx := 8)
    (sl := [(0, .t (.lst 2 (List.map spanT l)))]) (l := [])
    (C := []) (by kernel_rfl) ?_ ?_
  · -- region 0
    trivial
  refine andThen_normal ?_
  refine Sim.seq ?_
  refine Sim.seq ?_
  refine Sim.reg (orcs := [(1, ⟨some (.t (.sc (.int .i64 (l.length : Int)))), none, none, none⟩)]) (keys := [0, 5, 6, 7]) (τ := []) (nx := 32)
    (sl := [(0, .t (.lst 2 (List.map spanT l))), (5, .t (.lst 2 (List.map spanT l))), (6, .t (.sc (.int .i64 (l.length : Int)))), (7, .t (.sc (.int .i64 0)))]) (l := [])
    (C := [AVal.t (.sc (.int .i64 (l.length : Int))) = .t (.sc (.int .i64 ((List.map spanT l).length : Int)))]) (by kernel_rfl) ?_ ?_
  · -- region 1
    exact ⟨len_map, trivial⟩
  refine andThen_normal ?_
  refine Sim.block ?_
  refine Sim.weaken (Le.ren (τ := []) (keys := [0, 5, 6, 7]) (nx := 32) (sl := [(0, .t (.lst 2 (List.map spanT l))), (5, .t (.lst 2 (List.map spanT l))), (6, .t (.sc (.int .i64 (l.length : Int)))), (7, .t (.sc (.int .i64 ((0 : Nat) : Int))))]) (l := []) (by kernel_rfl)) ?_
  refine Sim.loop ?_
  refine loop_ind (α := Nat) (fun i => ⟨[(0, .t (.lst 2 (List.map spanT l))), (5, .t (.lst 2 (List.map spanT l))), (6, .t (.sc (.int .i64 (l.length : Int)))), (7, .t (.sc (.int .i64 (i : Int))))], app emp [], 32⟩) (fun i => i ≤ l.length ∧ chkS l 0 = chkS l i) (fun i => l.length - i) ?_ (0 : Nat) ?_
  rotate_left
  · -- loop 2, start
    exact ⟨by omega, rfl⟩
  rintro i I2 ih2
  show LoopSim _ _ _ _ ⟨[(0, .t (.lst 2 (List.map spanT l))), (5, .t (.lst 2 (List.map spanT l))), (6, .t (.sc (.int .i64 (l.length : Int)))), (7, .t (.sc (.int .i64 (i : Int))))], app emp [], 32⟩ _
  replace I2 : i ≤ l.length ∧ chkS l 0 = chkS l i := I2
  refine LoopSim.step ?_
  refine Sim.seq ?_
  refine Sim.reg (orcs := []) (keys := [0, 5, 6, 7, 8]) (τ := []) (nx := 40)
    (sl := [(0, .t (.lst 2 (List.map spanT l))), (5, .t (.lst 2 (List.map spanT l))), (6, .t (.sc (.int .i64 (l.length : Int)))), (7, .t (.sc (.int .i64 (i : Int)))), (8, .t (.sc (.bool (decide ((i : Int) < (l.length : Int))))))]) (l := [])
    (C := []) (by kernel_rfl) ?_ ?_
  · -- region 2
    trivial
  refine andThen_normal ?_
  refine Sim.seq ?_
  refine Sim.cond (b := decide ((i : Int) < (l.length : Int))) rfl (fun h2 => ?_) (fun h2 => ?_)
  · (try simp only [decide_eq_true_eq, decide_eq_false_iff_not, Int.not_lt, Int.not_le] at h2)
    refine Sim.skip ?_
    refine andThen_normal ?_
    refine Sim.seq ?_
    refine Sim.block ?_
    refine Sim.seq ?_
    refine Sim.reg (orcs := [(1, ⟨none, none, some (spanT (l.getD i default)), none⟩)]) (keys := [0, 3, 4, 5, 6, 7]) (τ := [(64, 64)]) (nx := 88)
      (sl := [(0, .t (.lst 2 (List.map spanT l))), (3, .t (.sc (.int .i64 (i : Int)))), (4, .ptr 64 0), (5, .t (.lst 2 (List.map spanT l))), (6, .t (.sc (.int .i64 (l.length : Int)))), (7, .t (.sc (.int .i64 (i : Int))))]) (l := [(64, .box [.t (.sc (.int .i64 (((l.getD i default)).fr))), .t (.sc (.int .i64 (((l.getD i default)).to)))])])
      (C := [(0:Int) ≤ (i : Int), (List.map spanT l)[i]? = some (spanT (l.getD i default))]) (by kernel_rfl) ?_ ?_
    · -- region 3
      exact ⟨(by (first | omega | exact fun h => h | (simp only [List.length_map]; done) | (simp only [List.length_map]; omega) | (simp; omega) | (simp; done))), (elt_nat (by (first | omega | exact fun h => h | (simp only [List.length_map]; done) | (simp only [List.length_map]; omega) | (simp; omega) | (simp; done)))), trivial⟩
    refine andThen_normal ?_
    refine Sim.seq ?_
    refine Sim.seq ?_
    refine Sim.reg (orcs := []) (keys := [0, 3, 4, 5, 6, 7, 26]) (τ := [(64, 64)]) (nx := 208)
      (sl := [(0, .t (.lst 2 (List.map spanT l))), (3, .t (.sc (.int .i64 (i : Int)))), (4, .ptr 64 0), (5, .t (.lst 2 (List.map spanT l))), (6, .t (.sc (.int .i64 (l.length : Int)))), (7, .t (.sc (.int .i64 (i : Int)))), (26, .t (.sc (.bool ((decide ((((l.getD i default)).fr) < 0) || decide ((((l.getD i default)).to) ≤ (((l.getD i default)).fr))) || decide ((((l.getD i default)).to) > 2147483647)))))]) (l := [(64, .box [.t (.sc (.int .i64 (((l.getD i default)).fr))), .t (.sc (.int .i64 (((l.getD i default)).to)))])])
      (C := [(!(decide ((((l.getD i default)).fr) < 0))) = true → (!(decide ((((l.getD i default)).fr) < 0))) = true, (!(decide ((((l.getD i default)).fr) < 0))) = true → (!(decide ((((l.getD i default)).fr) < 0))) = true, (!(decide ((((l.getD i default)).fr) < 0))) = true → (!(decide ((((l.getD i default)).fr) < 0))) = true, (!(decide ((((l.getD i default)).fr) < 0))) = true → (!(decide ((((l.getD i default)).fr) < 0))) = true, (decide ((((l.getD i default)).fr) < 0)) = false → (!(decide ((((l.getD i default)).fr) < 0))) = true, (!(decide ((((l.getD i default)).fr) < 0) || decide ((((l.getD i default)).to) ≤ (((l.getD i default)).fr)))) = true → (!(decide ((((l.getD i default)).fr) < 0) || decide ((((l.getD i default)).to) ≤ (((l.getD i default)).fr)))) = true, (!(decide ((((l.getD i default)).fr) < 0) || decide ((((l.getD i default)).to) ≤ (((l.getD i default)).fr)))) = true → (!(decide ((((l.getD i default)).fr) < 0) || decide ((((l.getD i default)).to) ≤ (((l.getD i default)).fr)))) = true, (decide ((((l.getD i default)).fr) < 0) || decide ((((l.getD i default)).to) ≤ (((l.getD i default)).fr))) = false → (!(decide ((((l.getD i default)).fr) < 0) || decide ((((l.getD i default)).to) ≤ (((l.getD i default)).fr)))) = true]) (by kernel_rfl) ?_ ?_
    · -- region 4
      exact ⟨(by first | exact fun h => h | (intro hg; (try simp only [decide_eq_true_eq, decide_eq_false_iff_not, Int.not_lt, Int.not_le, Bool.not_eq_true', Bool.not_eq_false'] at hg); omega) | (intro _; (first | omega | exact fun h => h | (simp only [List.length_map]; done) | (simp only [List.length_map]; omega) | (simp; omega) | (simp; done)))), (by first | exact fun h => h | (intro hg; (try simp only [decide_eq_true_eq, decide_eq_false_iff_not, Int.not_lt, Int.not_le, Bool.not_eq_true', Bool.not_eq_false'] at hg); omega) | (intro _; (first | omega | exact fun h => h | (simp only [List.length_map]; done) | (simp only [List.length_map]; omega) | (simp; omega) | (simp; done)))), (by first | exact fun h => h | (intro hg; (try simp only [decide_eq_true_eq, decide_eq_false_iff_not, Int.not_lt, Int.not_le, Bool.not_eq_true', Bool.not_eq_false'] at hg); omega) | (intro _; (first | omega | exact fun h => h | (simp only [List.length_map]; done) | (simp only [List.length_map]; omega) | (simp; omega) | (simp; done)))), (by first | exact fun h => h | (intro hg; (try simp only [decide_eq_true_eq, decide_eq_false_iff_not, Int.not_lt, Int.not_le, Bool.not_eq_true', Bool.not_eq_false'] at hg); omega) | (intro _; (first | omega | exact fun h => h | (simp only [List.length_map]; done) | (simp only [List.length_map]; omega) | (simp; omega) | (simp; done)))), (by (first | omega | exact fun h => h | (simp only [List.length_map]; done) | (simp only [List.length_map]; omega) | (simp; omega) | (simp; done))), (by first | exact fun h => h | (intro hg; (try simp only [decide_eq_true_eq, decide_eq_false_iff_not, Int.not_lt, Int.not_le, Bool.not_eq_true', Bool.not_eq_false', Bool.or_eq_true, Bool.or_eq_false_iff] at hg); omega) | (intro _; (first | omega | exact fun h => h | (simp only [List.length_map]; done) | (simp only [List.length_map]; omega) | (simp; omega) | (simp; done)))), (by first | exact fun h => h | (intro hg; (try simp only [decide_eq_true_eq, decide_eq_false_iff_not, Int.not_lt, Int.not_le, Bool.not_eq_true', Bool.not_eq_false', Bool.or_eq_true, Bool.or_eq_false_iff] at hg); omega) | (intro _; (first | omega | exact fun h => h | (simp only [List.length_map]; done) | (simp only [List.length_map]; omega) | (simp; omega) | (simp; done)))), (by (first | omega | exact fun h => h | (simp only [List.length_map]; done) | (simp only [List.length_map]; omega) | (simp; omega) | (simp; done))), trivial⟩
    refine andThen_normal ?_
    refine Sim.cond (b := ((decide ((((l.getD i default)).fr) < 0) || decide ((((l.getD i default)).to) ≤ (((l.getD i default)).fr))) || decide ((((l.getD i default)).to) > 2147483647))) rfl (fun h4 => ?_) (fun h4 => ?_)
    · (try simp only [decide_eq_true_eq, decide_eq_false_iff_not, Int.not_lt, Int.not_le, gt_iff_lt, Bool.or_eq_true, Bool.or_eq_false_iff] at h4)
      refine Sim.seq ?_
      refine Sim.reg (orcs := []) (keys := [2]) (τ := []) (nx := 216)
        (sl := [(2, .t (.sc (.int .i64 2)))]) (l := [])
        (C := []) (by kernel_rfl) ?_ ?_
      · -- region 5
        trivial
      refine andThen_normal ?_
      refine Sim.ret ?_
      refine andThen_ret ?_
      refine inBlk_ret ?_
      refine andThen_ret ?_
      refine andThen_ret ?_
      refine inBlk_ret ?_
      refine andThen_ret ?_
      refine Fin.mk2 (.inl rfl) (τ := []) (keys := [2]) (nx := 216) (sl := [(2, .t (.sc (.int .i64 2)))]) (l := []) (res' := .t (.sc (.int .i64 2))) (by kernel_rfl) ?_ (by kernel_rfl) ?_
      · -- end 1, objects
        first | done | rfl
      · -- end 1, result
        have e1 : ((chkS l 0) : Int) = 2 := by
          rw [I2.2, chkS.eq_def l i]; unfold badS; ((repeat' split) <;> first | rfl | omega | (simp_all; done) | (simp_all; omega))
        show AVal.t (.sc (.int .i64 2)) = .t (.sc (.int .i64 (chkS l 0)))
        rw [e1]
        try rfl
    · (try simp only [decide_eq_true_eq, decide_eq_false_iff_not, Int.not_lt, Int.not_le, gt_iff_lt, Bool.or_eq_true, Bool.or_eq_false_iff] at h4)
      refine Sim.skip ?_
      refine andThen_normal ?_
      refine Sim.seq ?_
      refine Sim.regD (by kernel_rfl) (orcs := [(7, ⟨some (.t (.sc (.int .i64 ((i : Int) - 1)))), none, none, none⟩), (8, ⟨none, none, some (spanT (l.getD (i - 1) default)), none⟩)]) (keys := [0, 5, 6, 7, 39]) (τ := []) (nx := 312)
        (sl := [(0, .t (.lst 2 (List.map spanT l))), (5, .t (.lst 2 (List.map spanT l))), (6, .t (.sc (.int .i64 (l.length : Int)))), (7, .t (.sc (.int .i64 (i : Int)))), (39, .t (.sc (.bool (decide ((i : Int) > 0) && decide ((((l.getD i default)).fr) ≤ (((l.getD (i - 1) default)).to))))))]) (l := [])
        (C := [(decide ((i : Int) > 0)) = true → (decide ((i : Int) > 0)) = true, (decide ((i : Int) > 0)) = true → (decide ((i : Int) > 0)) = true, (decide ((i : Int) > 0)) = true → AVal.t (.sc (.int .i64 ((i : Int) - 1))) = .t (.sc (.int .i64 (IntKind.i64.wrap ((i : Int) - 1)))), (decide ((i : Int) > 0)) = true → (decide ((i : Int) > 0)) = true, (decide ((i : Int) > 0)) = true → (decide ((i : Int) > 0)) = true, (decide ((i : Int) > 0)) = true → (0:Int) ≤ ((i : Int) - 1), (decide ((i : Int) > 0)) = true → (List.map spanT l)[(Int.toNat ((i : Int) - 1))]? = some (spanT (l.getD (i - 1) default)), (decide ((i : Int) > 0)) = true → (decide ((i : Int) > 0)) = true, (decide ((i : Int) > 0)) = true → (decide ((i : Int) > 0)) = true, (decide ((i : Int) > 0)) = true → (decide ((i : Int) > 0)) = true, (decide ((i : Int) > 0)) = true → (decide ((i : Int) > 0)) = true, (decide ((i : Int) > 0)) = true → (decide ((i : Int) > 0)) = true]) (by kernel_rfl) ?_ ?_
      · -- region 6
        exact ⟨(by first | exact fun h => h | (intro hg; (try simp only [decide_eq_true_eq, decide_eq_false_iff_not, Int.not_lt, Int.not_le, gt_iff_lt] at hg); omega) | (intro _; (first | omega | exact fun h => h | (simp only [List.length_map]; done) | (simp only [List.length_map]; omega) | (simp; omega) | (simp; done)))), (by first | exact fun h => h | (intro hg; (try simp only [decide_eq_true_eq, decide_eq_false_iff_not, Int.not_lt, Int.not_le, gt_iff_lt] at hg); omega) | (intro _; (first | omega | exact fun h => h | (simp only [List.length_map]; done) | (simp only [List.length_map]; omega) | (simp; omega) | (simp; done)))), (fun hg => nw (by (try simp only [decide_eq_true_eq, decide_eq_false_iff_not, Int.not_lt, Int.not_le, gt_iff_lt] at hg); omega)), (by first | exact fun h => h | (intro hg; (try simp only [decide_eq_true_eq, decide_eq_false_iff_not, Int.not_lt, Int.not_le, gt_iff_lt] at hg); omega) | (intro _; (first | omega | exact fun h => h | (simp only [List.length_map]; done) | (simp only [List.length_map]; omega) | (simp; omega) | (simp; done)))), (by first | exact fun h => h | (intro hg; (try simp only [decide_eq_true_eq, decide_eq_false_iff_not, Int.not_lt, Int.not_le, gt_iff_lt] at hg); omega) | (intro _; (first | omega | exact fun h => h | (simp only [List.length_map]; done) | (simp only [List.length_map]; omega) | (simp; omega) | (simp; done)))), (by first | exact fun h => h | (intro hg; (try simp only [decide_eq_true_eq, decide_eq_false_iff_not, Int.not_lt, Int.not_le, gt_iff_lt] at hg); omega) | (intro _; (first | omega | exact fun h => h | (simp only [List.length_map]; done) | (simp only [List.length_map]; omega) | (simp; omega) | (simp; done)))), (fun hg => by (try simp only [decide_eq_true_eq, decide_eq_false_iff_not, Int.not_lt, Int.not_le, gt_iff_lt] at hg); exact (elt_map' (by (first | omega | exact fun h => h | (simp only [List.length_map]; done) | (simp only [List.length_map]; omega) | (simp; omega) | (simp; done))) (by (first | omega | exact fun h => h | (simp only [List.length_map]; done) | (simp only [List.length_map]; omega) | (simp; omega) | (simp; done))))), (by first | exact fun h => h | (intro hg; (try simp only [decide_eq_true_eq, decide_eq_false_iff_not, Int.not_lt, Int.not_le, gt_iff_lt] at hg); omega) | (intro _; (first | omega | exact fun h => h | (simp only [List.length_map]; done) | (simp only [List.length_map]; omega) | (simp; omega) | (simp; done)))), (by first | exact fun h => h | (intro hg; (try simp only [decide_eq_true_eq, decide_eq_false_iff_not, Int.not_lt, Int.not_le, gt_iff_lt] at hg); omega) | (intro _; (first | omega | exact fun h => h | (simp only [List.length_map]; done) | (simp only [List.length_map]; omega) | (simp; omega) | (simp; done)))), (by first | exact fun h => h | (intro hg; (try simp only [decide_eq_true_eq, decide_eq_false_iff_not, Int.not_lt, Int.not_le, gt_iff_lt] at hg); omega) | (intro _; (first | omega | exact fun h => h | (simp only [List.length_map]; done) | (simp only [List.length_map]; omega) | (simp; omega) | (simp; done)))), (by first | exact fun h => h | (intro hg; (try simp only [decide_eq_true_eq, decide_eq_false_iff_not, Int.not_lt, Int.not_le, gt_iff_lt] at hg); omega) | (intro _; (first | omega | exact fun h => h | (simp only [List.length_map]; done) | (simp only [List.length_map]; omega) | (simp; omega) | (simp; done)))), (by (first | omega | exact fun h => h | (simp only [List.length_map]; done) | (simp only [List.length_map]; omega) | (simp; omega) | (simp; done))), trivial⟩
      refine andThen_normal ?_
      refine Sim.cond (b := (decide ((i : Int) > 0) && decide ((((l.getD i default)).fr) ≤ (((l.getD (i - 1) default)).to)))) rfl (fun h6 => ?_) (fun h6 => ?_)
      · (try simp only [decide_eq_true_eq, decide_eq_false_iff_not, Int.not_lt, Int.not_le, gt_iff_lt, Bool.and_eq_true, Bool.and_eq_false_iff, Bool.not_eq_true', Bool.not_eq_false'] at h6)
        refine Sim.seq ?_
        refine Sim.reg (orcs := []) (keys := [2]) (τ := []) (nx := 320)
          (sl := [(2, .t (.sc (.int .i64 5)))]) (l := [])
          (C := []) (by kernel_rfl) ?_ ?_
        · -- region 7
          trivial
        refine andThen_normal ?_
        refine Sim.ret ?_
        refine inBlk_ret ?_
        refine andThen_ret ?_
        refine andThen_ret ?_
        refine inBlk_ret ?_
        refine andThen_ret ?_
        refine Fin.mk2 (.inl rfl) (τ := []) (keys := [2]) (nx := 320) (sl := [(2, .t (.sc (.int .i64 5)))]) (l := []) (res' := .t (.sc (.int .i64 5))) (by kernel_rfl) ?_ (by kernel_rfl) ?_
        · -- end 2, objects
          first | done | rfl
        · -- end 2, result
          have e2 : ((chkS l 0) : Int) = 5 := by
            rw [I2.2, chkS.eq_def l i]; unfold badS; ((repeat' split) <;> first | rfl | omega | (simp_all; done) | (simp_all; omega))
          show AVal.t (.sc (.int .i64 5)) = .t (.sc (.int .i64 (chkS l 0)))
          rw [e2]
          try rfl
      · (try simp only [decide_eq_true_eq, decide_eq_false_iff_not, Int.not_lt, Int.not_le, gt_iff_lt, Bool.and_eq_true, Bool.and_eq_false_iff, Bool.not_eq_true', Bool.not_eq_false'] at h6)
        refine Sim.skip ?_
        refine inBlk_normal ?_
        refine andThen_normal ?_
        refine Sim.reg (orcs := [(0, ⟨some (.t (.sc (.int .i64 ((i : Int) + 1)))), none, none, none⟩)]) (keys := [0, 5, 6, 7]) (τ := []) (nx := 328)
          (sl := [(0, .t (.lst 2 (List.map spanT l))), (5, .t (.lst 2 (List.map spanT l))), (6, .t (.sc (.int .i64 (l.length : Int)))), (7, .t (.sc (.int .i64 ((i : Int) + 1))))]) (l := [])
          (C := [AVal.t (.sc (.int .i64 ((i : Int) + 1))) = .t (.sc (.int .i64 (IntKind.i64.wrap ((i : Int) + 1))))]) (by kernel_rfl) ?_ ?_
        · -- region 8
          exact ⟨(nw (by (first | omega | exact fun h => h | (simp only [List.length_map]; done) | (simp only [List.length_map]; omega) | (simp; omega) | (simp; done)))), trivial⟩
        refine andThen_normal ?_
        refine LoopSim.weaken (Le.ren (τ := []) (keys := [0, 5, 6, 7]) (nx := 32) (sl := [(0, .t (.lst 2 (List.map spanT l))), (5, .t (.lst 2 (List.map spanT l))), (6, .t (.sc (.int .i64 (l.length : Int)))), (7, .t (.sc (.int .i64 (((i + 1) : Nat) : Int))))]) (l := []) (by kernel_rfl)) ?_
        refine ih2 ((i + 1) : Nat) ?_ ?_
        · -- back 2.1, invariant
          refine ⟨by omega, ?_⟩; rw [I2.2, chkS.eq_def l i]; unfold badS; ((repeat' split) <;> first | rfl | omega | (simp_all; done) | (simp_all; omega))
        · -- back 2.1, measure
          show (_:Nat) < _; (first | omega | exact fun h => h | (simp only [List.length_map]; done) | (simp only [List.length_map]; omega) | (simp; omega) | (simp; done))
  · (try simp only [decide_eq_true_eq, decide_eq_false_iff_not, Int.not_lt, Int.not_le] at h2)
    refine Sim.exit ?_
    refine andThen_exit ?_
    refine andThen_exit ?_
    refine inBlk_same ?_
    refine andThen_normal ?_
    refine Sim.seq ?_
    refine Sim.reg (orcs := []) (keys := [2]) (τ := []) (nx := 48)
      (sl := [(2, .t (.sc (.int .i64 0)))]) (l := [])
      (C := []) (by kernel_rfl) ?_ ?_
    · -- region 9
      trivial
    refine andThen_normal ?_
    refine Sim.ret ?_
    refine Fin.mk2 (.inl rfl) (τ := []) (keys := [2]) (nx := 48) (sl := [(2, .t (.sc (.int .i64 0)))]) (l := []) (res' := .t (.sc (.int .i64 0))) (by kernel_rfl) ?_ (by kernel_rfl) ?_
    · -- end 3, objects
      first | done | rfl
    · -- end 3, result
      have e3 : ((chkS l 0) : Int) = 0 := by
        rw [I2.2, chkS.eq_def l i]; unfold badS; ((repeat' split) <;> first | rfl | omega | (simp_all; done) | (simp_all; omega))
      show AVal.t (.sc (.int .i64 0)) = .t (.sc (.int .i64 (chkS l 0)))
      rw [e3]
      try rfl

theorem fc_add (l : List Span) (s : Span) (hn : l.length < 1099511627776) : FC Try.prog 121 [.row 0 l.length, .t (spanT s)] (app emp [(0, .row 2 false (List.map spanT l))]) (.row 0 ((addS l s).length)) (app emp [(0, .row 2 false (List.map spanT (addS l s)))]) := by
  refine FC.of_sim (fn := Try.f121) (nx := 1) (by kernel_rfl) rfl (by kernel_rfl) rfl ?_
  show Sim _ _ _ _ ⟨[(0, .row 0 l.length), (1, .t (spanT s))], app emp [(0, .row 2 false (List.map spanT l))], 1⟩ _
  refine Sim.seq ?_
  refine Sim.reg (orcs := []) (keys := [0, 3]) (τ := [(0, 0), (1, 1)]) (nx := 17)
    (sl := [(0, .row 0 l.length), (3, .ptr 1 0)]) (l := [(0, .row 2 false (List.map spanT l)), (1, .box [.t (.sc (.int .i64 s.fr)), .t (.sc (.int .i64 s.to))])])
    (C := []) (by kernel_rfl) ?_ ?_
  · -- region 0
    trivial
  refine andThen_normal ?_
  refine Sim.seq ?_
  refine Sim.seq ?_
  refine Sim.reg (orcs := [(2, ⟨some (.t (.sc (.int .i64 ((l.length : Int) - 1)))), none, none, none⟩)]) (keys := [0, 3, 5]) (τ := [(0, 0), (1, 1)]) (nx := 49)
    (sl := [(0, .row 0 l.length), (3, .ptr 1 0), (5, .t (.sc (.int .i64 ((l.length : Int) - 1))))]) (l := [(0, .row 2 false (List.map spanT l)), (1, .box [.t (.sc (.int .i64 s.fr)), .t (.sc (.int .i64 s.to))])])
    (C := [AVal.t (.sc (.int .i64 ((l.length : Int) - 1))) = .t (.sc (.int .i64 (IntKind.i64.wrap ((l.length : Int) - 1))))]) (by kernel_rfl) ?_ ?_
  · -- region 1
    exact ⟨(nw (by (first | omega | exact fun h => h | (simp only [List.length_map]; done) | (simp only [List.length_map]; omega) | (simp; omega) | (simp; done)))), trivial⟩
  refine andThen_normal ?_
  refine Sim.seq ?_
  refine Sim.regD (by kernel_rfl) (orcs := [(7, ⟨some (.eptr 0 l.length (l.length - 1) 0), none, none, none⟩), (9, ⟨none, none, some (spanT (l.getD (l.length - 1) default)), none⟩)]) (keys := [0, 3, 5, 20]) (τ := [(0, 0), (1, 1)]) (nx := 145)
    (sl := [(0, .row 0 l.length), (3, .ptr 1 0), (5, .t (.sc (.int .i64 ((l.length : Int) - 1)))), (20, .t (.sc (.bool (decide (((l.length : Int) - 1) ≥ 0) && decide (s.fr ≤ (((l.getD (l.length - 1) default)).to))))))]) (l := [(0, .row 2 false (List.map spanT l)), (1, .box [.t (.sc (.int .i64 s.fr)), .t (.sc (.int .i64 s.to))])])
    (C := [(decide (((l.length : Int) - 1) ≥ 0)) = true → (decide (((l.length : Int) - 1) ≥ 0)) = true, (decide (((l.length : Int) - 1) ≥ 0)) = true → (decide (((l.length : Int) - 1) ≥ 0)) = true, (decide (((l.length : Int) - 1) ≥ 0)) = true → (decide (((l.length : Int) - 1) ≥ 0)) = true, (decide (((l.length : Int) - 1) ≥ 0)) = true → (l.length : Nat) = (List.map spanT l).length, (decide (((l.length : Int) - 1) ≥ 0)) = true → (0:Int) ≤ ((l.length : Int) - 1), (decide (((l.length : Int) - 1) ≥ 0)) = true → ((l.length : Int) - 1) < ((l.length : Nat) : Int), (decide (((l.length : Int) - 1) ≥ 0)) = true → AVal.eptr 0 l.length (l.length - 1) 0 = .eptr 0 l.length (Int.toNat ((l.length : Int) - 1)) 0, (decide (((l.length : Int) - 1) ≥ 0)) = true → (decide (((l.length : Int) - 1) ≥ 0)) = true, (decide (((l.length : Int) - 1) ≥ 0)) = true → (decide (((l.length : Int) - 1) ≥ 0)) = true, (decide (((l.length : Int) - 1) ≥ 0)) = true → (l.length : Nat) = (List.map spanT l).length, (decide (((l.length : Int) - 1) ≥ 0)) = true → (List.map spanT l)[(l.length - 1)]? = some (spanT (l.getD (l.length - 1) default)), (decide (((l.length : Int) - 1) ≥ 0)) = true → (decide (((l.length : Int) - 1) ≥ 0)) = true, (decide (((l.length : Int) - 1) ≥ 0)) = true → (decide (((l.length : Int) - 1) ≥ 0)) = true, (decide (((l.length : Int) - 1) ≥ 0)) = true → (decide (((l.length : Int) - 1) ≥ 0)) = true]) (by kernel_rfl) ?_ ?_
  · -- region 2
    exact ⟨(by first | exact fun h => h | (intro hg; (try simp only [decide_eq_true_eq, decide_eq_false_iff_not, Int.not_lt, Int.not_le, ge_iff_le] at hg); omega) | (intro _; (first | omega | exact fun h => h | (simp only [List.length_map]; done) | (simp only [List.length_map]; omega) | (simp; omega) | (simp; done)))), (by first | exact fun h => h | (intro hg; (try simp only [decide_eq_true_eq, decide_eq_false_iff_not, Int.not_lt, Int.not_le, ge_iff_le] at hg); omega) | (intro _; (first | omega | exact fun h => h | (simp only [List.length_map]; done) | (simp only [List.length_map]; omega) | (simp; omega) | (simp; done)))), (by first | exact fun h => h | (intro hg; (try simp only [decide_eq_true_eq, decide_eq_false_iff_not, Int.not_lt, Int.not_le, ge_iff_le] at hg); omega) | (intro _; (first | omega | exact fun h => h | (simp only [List.length_map]; done) | (simp only [List.length_map]; omega) | (simp; omega) | (simp; done)))), (by first | exact fun h => h | (intro hg; (try simp only [decide_eq_true_eq, decide_eq_false_iff_not, Int.not_lt, Int.not_le, ge_iff_le] at hg); omega) | (intro _; (first | omega | exact fun h => h | (simp only [List.length_map]; done) | (simp only [List.length_map]; omega) | (simp; omega) | (simp; done)))), (by first | exact fun h => h | (intro hg; (try simp only [decide_eq_true_eq, decide_eq_false_iff_not, Int.not_lt, Int.not_le, ge_iff_le] at hg); omega) | (intro _; (first | omega | exact fun h => h | (simp only [List.length_map]; done) | (simp only [List.length_map]; omega) | (simp; omega) | (simp; done)))), (by first | exact fun h => h | (intro hg; (try simp only [decide_eq_true_eq, decide_eq_false_iff_not, Int.not_lt, Int.not_le, ge_iff_le] at hg); omega) | (intro _; (first | omega | exact fun h => h | (simp only [List.length_map]; done) | (simp only [List.length_map]; omega) | (simp; omega) | (simp; done)))), (fun hg => by (try simp only [decide_eq_true_eq, decide_eq_false_iff_not, Int.not_lt, Int.not_le, ge_iff_le] at hg); exact (eptr_eq (by (first | omega | exact fun h => h | (simp only [List.length_map]; done) | (simp only [List.length_map]; omega) | (simp; omega) | (simp; done))))), (by first | exact fun h => h | (intro hg; (try simp only [decide_eq_true_eq, decide_eq_false_iff_not, Int.not_lt, Int.not_le, ge_iff_le] at hg); omega) | (intro _; (first | omega | exact fun h => h | (simp only [List.length_map]; done) | (simp only [List.length_map]; omega) | (simp; omega) | (simp; done)))), (by first | exact fun h => h | (intro hg; (try simp only [decide_eq_true_eq, decide_eq_false_iff_not, Int.not_lt, Int.not_le, ge_iff_le] at hg); omega) | (intro _; (first | omega | exact fun h => h | (simp only [List.length_map]; done) | (simp only [List.length_map]; omega) | (simp; omega) | (simp; done)))), (by first | exact fun h => h | (intro hg; (try simp only [decide_eq_true_eq, decide_eq_false_iff_not, Int.not_lt, Int.not_le, ge_iff_le] at hg); omega) | (intro _; (first | omega | exact fun h => h | (simp only [List.length_map]; done) | (simp only [List.length_map]; omega) | (simp; omega) | (simp; done)))), (fun hg => by (try simp only [decide_eq_true_eq, decide_eq_false_iff_not, Int.not_lt, Int.not_le, ge_iff_le] at hg); exact (elt_nat (by (first | omega | exact fun h => h | (simp only [List.length_map]; done) | (simp only [List.length_map]; omega) | (simp; omega) | (simp; done))))), (by first | exact fun h => h | (intro hg; (try simp only [decide_eq_true_eq, decide_eq_false_iff_not, Int.not_lt, Int.not_le, ge_iff_le] at hg); omega) | (intro _; (first | omega | exact fun h => h | (simp only [List.length_map]; done) | (simp only [List.length_map]; omega) | (simp; omega) | (simp; done)))), (by first | exact fun h => h | (intro hg; (try simp only [decide_eq_true_eq, decide_eq_false_iff_not, Int.not_lt, Int.not_le, ge_iff_le] at hg); omega) | (intro _; (first | omega | exact fun h => h | (simp only [List.length_map]; done) | (simp only [List.length_map]; omega) | (simp; omega) | (simp; done)))), (by (first | omega | exact fun h => h | (simp only [List.length_map]; done) | (simp only [List.length_map]; omega) | (simp; omega) | (simp; done))), trivial⟩
  refine andThen_normal ?_
  refine Sim.cond (b := (decide (((l.length : Int) - 1) ≥ 0) && decide (s.fr ≤ (((l.getD (l.length - 1) default)).to)))) rfl (fun h2 => ?_) (fun h2 => ?_)
  · (try simp only [decide_eq_true_eq, decide_eq_false_iff_not, Int.not_lt, Int.not_le, ge_iff_le, Bool.and_eq_true, Bool.and_eq_false_iff, Bool.not_eq_true', Bool.not_eq_false'] at h2)
    refine Sim.seq ?_
    refine Sim.regD (by kernel_rfl) (orcs := [(4, ⟨some (.eptr 0 l.length (l.length - 1) 0), none, none, none⟩), (6, ⟨none, none, some (spanT (l.getD (l.length - 1) default)), none⟩), (9, ⟨some (.t (.sc (.int .i64 (max (((l.getD (l.length - 1) default)).to) s.to)))), none, none, none⟩), (10, ⟨some (.eptr 0 l.length (l.length - 1) 0), none, none, none⟩), (12, ⟨none, some ([(0, .row 2 false (List.map spanT (l.set (l.length - 1) ({ fr := ((l.getD (l.length - 1) default)).fr, to := (max (((l.getD (l.length - 1) default)).to) s.to) } : Span))))]), some (spanT (l.getD (l.length - 1) default)), none⟩)]) (keys := [0]) (τ := [(0, 0)]) (nx := 249)
      (sl := [(0, .row 0 l.length)]) (l := [(0, .row 2 false (List.map spanT (l.set (l.length - 1) ({ fr := ((l.getD (l.length - 1) default)).fr, to := (max (((l.getD (l.length - 1) default)).to) s.to) } : Span))))])
      (C := [(l.length : Nat) = (List.map spanT l).length, (0:Int) ≤ ((l.length : Int) - 1), ((l.length : Int) - 1) < ((l.length : Nat) : Int), AVal.eptr 0 l.length (l.length - 1) 0 = .eptr 0 l.length (Int.toNat ((l.length : Int) - 1)) 0, (l.length : Nat) = (List.map spanT l).length, (List.map spanT l)[(l.length - 1)]? = some (spanT (l.getD (l.length - 1) default)), AVal.t (.sc (.int .i64 (max (((l.getD (l.length - 1) default)).to) s.to))) = .t (.sc (.int .i64 (if s.to > (((l.getD (l.length - 1) default)).to) then s.to else (((l.getD (l.length - 1) default)).to)))), (l.length : Nat) = (List.map spanT l).length, (0:Int) ≤ ((l.length : Int) - 1), ((l.length : Int) - 1) < ((l.length : Nat) : Int), AVal.eptr 0 l.length (l.length - 1) 0 = .eptr 0 l.length (Int.toNat ((l.length : Int) - 1)) 0, (l.length : Nat) = (List.map spanT l).length, (List.map spanT l)[(l.length - 1)]? = some (spanT (l.getD (l.length - 1) default)), ([(0, .row 2 false (List.map spanT (l.set (l.length - 1) ({ fr := ((l.getD (l.length - 1) default)).fr, to := (max (((l.getD (l.length - 1) default)).to) s.to) } : Span))))] : List (Nat × Ob)) = [(0, .row 2 false ((List.map spanT l).set (l.length - 1) (.agg [.sc (.int .i64 (((l.getD (l.length - 1) default)).fr)), .sc (.int .i64 (max (((l.getD (l.length - 1) default)).to) s.to))])))]]) (by kernel_rfl) ?_ ?_
    · -- region 3
      exact ⟨(by (first | omega | exact fun h => h | (simp only [List.length_map]; done) | (simp only [List.length_map]; omega) | (simp; omega) | (simp; done))), (by (first | omega | exact fun h => h | (simp only [List.length_map]; done) | (simp only [List.length_map]; omega) | (simp; omega) | (simp; done))), (by (first | omega | exact fun h => h | (simp only [List.length_map]; done) | (simp only [List.length_map]; omega) | (simp; omega) | (simp; done))), (eptr_eq (by (first | omega | exact fun h => h | (simp only [List.length_map]; done) | (simp only [List.length_map]; omega) | (simp; omega) | (simp; done)))), (by (first | omega | exact fun h => h | (simp only [List.length_map]; done) | (simp only [List.length_map]; omega) | (simp; omega) | (simp; done))), (elt_nat (by (first | omega | exact fun h => h | (simp only [List.length_map]; done) | (simp only [List.length_map]; omega) | (simp; omega) | (simp; done)))), max_if, (by (first | omega | exact fun h => h | (simp only [List.length_map]; done) | (simp only [List.length_map]; omega) | (simp; omega) | (simp; done))), (by (first | omega | exact fun h => h | (simp only [List.length_map]; done) | (simp only [List.length_map]; omega) | (simp; omega) | (simp; done))), (by (first | omega | exact fun h => h | (simp only [List.length_map]; done) | (simp only [List.length_map]; omega) | (simp; omega) | (simp; done))), (eptr_eq (by (first | omega | exact fun h => h | (simp only [List.length_map]; done) | (simp only [List.length_map]; omega) | (simp; omega) | (simp; done)))), (by (first | omega | exact fun h => h | (simp only [List.length_map]; done) | (simp only [List.length_map]; omega) | (simp; omega) | (simp; done))), (elt_nat (by (first | omega | exact fun h => h | (simp only [List.length_map]; done) | (simp only [List.length_map]; omega) | (simp; omega) | (simp; done)))), (row_set rfl), trivial⟩
    refine andThen_normal ?_
    refine Sim.seq ?_
    refine Sim.reg (orcs := []) (keys := [4]) (τ := [(0, 0)]) (nx := 265)
      (sl := [(4, .row 0 l.length)]) (l := [(0, .row 2 false (List.map spanT (l.set (l.length - 1) ({ fr := ((l.getD (l.length - 1) default)).fr, to := (max (((l.getD (l.length - 1) default)).to) s.to) } : Span))))])
      (C := []) (by kernel_rfl) ?_ ?_
    · -- region 4
      trivial
    refine andThen_normal ?_
    refine Sim.ret ?_
    refine andThen_ret ?_
    refine Fin.mk2 (.inl rfl) (τ := [(0, 0)]) (keys := [4]) (nx := 265) (sl := [(4, .row 0 l.length)]) (l := [(0, .row 2 false (List.map spanT (l.set (l.length - 1) ({ fr := ((l.getD (l.length - 1) default)).fr, to := (max (((l.getD (l.length - 1) default)).to) s.to) } : Span))))]) (res' := .row 0 l.length) (by kernel_rfl) ?_ (by kernel_rfl) ?_
    · -- end 1, objects
      have e1 : ((addS l s)) = (l.set (l.length - 1) ({ fr := ((l.getD (l.length - 1) default)).fr, to := (max (((l.getD (l.length - 1) default)).to) s.to) } : Span)) := by
        unfold addS; ((repeat' split) <;> first | rfl | omega | (simp_all; done) | (simp_all; omega))
      show ([(0, .row 2 false (List.map spanT (l.set (l.length - 1) ({ fr := ((l.getD (l.length - 1) default)).fr, to := (max (((l.getD (l.length - 1) default)).to) s.to) } : Span))))] : List (Nat × Ob)) = [(0, .row 2 false (List.map spanT (addS l s)))]
      rw [e1]
      try rfl
    · -- end 1, result
      have e2 : ((addS l s).length : Nat) = l.length := by
        unfold addS; ((repeat' split) <;> first | rfl | omega | (simp_all; done) | (simp_all; omega))
      show AVal.row 0 l.length = .row 0 ((addS l s).length)
      rw [e2]
      try rfl
  · (try simp only [decide_eq_true_eq, decide_eq_false_iff_not, Int.not_lt, Int.not_le, ge_iff_le, Bool.and_eq_true, Bool.and_eq_false_iff, Bool.not_eq_true', Bool.not_eq_false'] at h2)
    refine Sim.skip ?_
    refine andThen_normal ?_
    refine Sim.seq ?_
    refine Sim.reg (orcs := [(3, ⟨some (.row 0 ((l ++ [s]).length)), some ([(0, .row 2 false (List.map spanT (l ++ [s])))]), none, none⟩)]) (keys := [4]) (τ := [(0, 0)]) (nx := 185)
      (sl := [(4, .row 0 ((l ++ [s]).length))]) (l := [(0, .row 2 false (List.map spanT (l ++ [s])))])
      (C := [1 = (List.map spanT [s]).length, (l.length : Nat) = (List.map spanT l).length, (l.length : Nat) + (List.map spanT [s]).length ≤ 1099511627776, AVal.row 0 ((l ++ [s]).length) = .row 0 (l.length + (List.map spanT [s]).length), ([(0, .row 2 false (List.map spanT (l ++ [s])))] : List (Nat × Ob)) = [(0, .row 2 false (List.map spanT l ++ List.map spanT [s]))]]) (by kernel_rfl) ?_ ?_
    · -- region 5
      exact ⟨(by (first | omega | exact fun h => h | (simp only [List.length_map]; done) | (simp only [List.length_map]; omega) | (simp; omega) | (simp; done))), (by (first | omega | exact fun h => h | (simp only [List.length_map]; done) | (simp only [List.length_map]; omega) | (simp; omega) | (simp; done))), (by (first | omega | exact fun h => h | (simp only [List.length_map]; done) | (simp only [List.length_map]; omega) | (simp; omega) | (simp; done))), (by simp), (row_append rfl), trivial⟩
    refine andThen_normal ?_
    refine Sim.ret ?_
    refine Fin.mk2 (.inl rfl) (τ := [(0, 0)]) (keys := [4]) (nx := 185) (sl := [(4, .row 0 ((l ++ [s]).length))]) (l := [(0, .row 2 false (List.map spanT (l ++ [s])))]) (res' := .row 0 ((l ++ [s]).length)) (by kernel_rfl) ?_ (by kernel_rfl) ?_
    · -- end 2, objects
      have e3 : ((addS l s)) = (l ++ [s]) := by
        unfold addS; ((repeat' split) <;> first | rfl | omega | (simp_all; done) | (simp_all; omega))
      show ([(0, .row 2 false (List.map spanT (l ++ [s])))] : List (Nat × Ob)) = [(0, .row 2 false (List.map spanT (addS l s)))]
      rw [e3]
      try rfl
    · -- end 2, result
      have e4 : ((addS l s).length : Nat) = (l ++ [s]).length := by
        unfold addS; ((repeat' split) <;> first | rfl | omega | (simp_all; done) | (simp_all; omega))
      show AVal.row 0 ((l ++ [s]).length) = .row 0 ((addS l s).length)
      rw [e4]
      try rfl

theorem chkS_spec (l : List Span) (i : Nat) (h : chkS l i = 0) : ∀ k, i ≤ k → k < l.length → 0 ≤ (l.getD k default).fr ∧ (l.getD k default).fr < (l.getD k default).to ∧ (l.getD k default).to ≤ 2147483647 ∧ (0 < k → (l.getD (k - 1) default).to < (l.getD k default).fr) := by
  induction i using chkS.induct (l := l) with
  | case1 i hi hb => rw [chkS, if_pos hi, if_pos hb] at h; omega
  | case2 i hi hb hc => rw [chkS, if_pos hi, if_neg hb, if_pos hc] at h; omega
  | case3 i hi hb hc ih =>
    rw [chkS, if_pos hi, if_neg hb, if_neg hc] at h
    intro k hk hkl
    by_cases e : k = i
    · subst e
      unfold badS at hb
      refine ⟨by omega, by omega, by omega, fun h0 => ?_⟩
      have : ¬ ((l.getD k default).fr ≤ (l.getD (k - 1) default).to) := fun hh => hc ⟨h0, hh⟩
      omega
    · exact ih h k (by omega) hkl
  | case4 i hi => intro k hk hkl; omega
theorem chk_end {l : List Span} (h : chkS l 0 = 0) : ∀ k, k < 2 * l.length → endS l k ≤ 2147483647 := by
  intro k hk
  have := chkS_spec l 0 h (k / 2) (by omega) (by omega)
  unfold endS
  split <;> omega
theorem chk_far {l : List Span} (h : chkS l 0 = 0) : ∀ k, k < l.length → (k : Int) < (l.getD k default).to := by
  intro k
  induction k with
  | zero => intro hk; have := chkS_spec l 0 h 0 (by omega) hk; omega
  | succ k ih =>
    intro hk
    have h1 := ih (by omega)
    have h2 := chkS_spec l 0 h (k + 1) (by omega) hk
    have h3 := h2.2.2.2 (by omega)
    simp only [Nat.add_sub_cancel] at h3
    omega
theorem chk_len {l : List Span} (h : chkS l 0 = 0) : l.length ≤ 2147483648 := by
  by_cases h0 : l.length = 0
  · omega
  · have h1 := chk_far h (l.length - 1) (by omega)
    have h2 := chkS_spec l 0 h (l.length - 1) (by omega) (by omega)
    omega
def twoS (w : Bool → Bool → Bool) (a b : List Span) : List Span := if chkS a 0 = 0 ∧ chkS b 0 = 0 then mergeS w a b [] 0 0 0 else []
def errS (a b : List Span) : Int := if chkS a 0 ≠ 0 then chkS a 0 else chkS b 0

theorem fc_merged (f : FuncId) (w : Bool → Bool → Bool) (hfc : callable Try.prog f = true) (hf : ∀ x y : Bool, FC Try.prog f [.t (.sc (.bool x)), .t (.sc (.bool y))] (app emp []) (.t (.sc (.bool (w x y)))) (app emp []))
    (a b : List Span) (ha : a.length ≤ 2147483648) (hlb : b.length ≤ 2147483648) (hb : ∀ k, k < 2 * b.length → endS b k ≤ 2147483648) : FC Try.prog 126 [.t (.lst 2 (List.map spanT a)), .t (.lst 2 (List.map spanT b)), .fn f []] (app emp []) (.row 0 ((mergeS w a b [] 0 0 0).length)) (app emp [(0, .row 2 false (List.map spanT (mergeS w a b [] 0 0 0)))]) := by
  refine FC.of_sim (fn := Try.f126) (nx := 0) (by kernel_rfl) rfl (by kernel_rfl) rfl ?_
  show Sim _ _ _ _ ⟨[(0, .t (.lst 2 (List.map spanT a))), (1, .t (.lst 2 (List.map spanT b))), (2, .fn f [])], app emp [], 0⟩ _
  refine Sim.len (t := 0) (k := 2) rfl (fun hl0 => ?_)
  rw [List.length_map] at hl0
  refine Sim.len (t := 1) (k := 2) rfl (fun hl1 => ?_)
  rw [List.length_map] at hl1
  refine Sim.seq ?_
  refine Sim.reg (orcs := []) (keys := [0, 1, 2]) (τ := []) (nx := 8)
    (sl := [(0, .t (.lst 2 (List.map spanT a))), (1, .t (.lst 2 (List.map spanT b))), (2, .fn f [])]) (l := [])
    (C := []) (by kernel_rfl) ?_ ?_
  · -- region 0
    trivial
  refine andThen_normal ?_
  refine Sim.seq ?_
  refine Sim.reg (orcs := []) (keys := [0, 1, 2, 7]) (τ := []) (nx := 16)
    (sl := [(0, .t (.lst 2 (List.map spanT a))), (1, .t (.lst 2 (List.map spanT b))), (2, .fn f []), (7, .t (.sc (.slice none 0 0)))]) (l := [])
    (C := []) (by kernel_rfl) ?_ ?_
  · -- region 1
    trivial
  refine andThen_normal ?_
  refine Sim.seq ?_
  refine Sim.reg (orcs := []) (keys := [0, 1, 2, 7, 8, 9, 10]) (τ := []) (nx := 40)
    (sl := [(0, .t (.lst 2 (List.map spanT a))), (1, .t (.lst 2 (List.map spanT b))), (2, .fn f []), (7, .t (.sc (.slice none 0 0))), (8, .t (.sc (.int .i64 0))), (9, .t (.sc (.int .i64 0))), (10, .t (.sc (.int .i64 0)))]) (l := [])
    (C := []) (by kernel_rfl) ?_ ?_
  · -- region 2
    trivial
  refine andThen_normal ?_
  refine Sim.seq ?_
  refine Sim.block ?_
  refine Sim.weaken (Le.nilRow (t := 7) (k := 2) (id := 40) rfl rfl rfl) ?_
  refine Sim.weaken (Le.ren (τ := [(40, 40)]) (keys := [0, 1, 2, 7, 8, 9, 10]) (nx := 41) (sl := [(0, .t (.lst 2 (List.map spanT a))), (1, .t (.lst 2 (List.map spanT b))), (2, .fn f []), (7, .row 40 0), (8, .t (.sc (.int .i64 0))), (9, .t (.sc (.int .i64 ((0 : Nat) : Int)))), (10, .t (.sc (.int .i64 ((0 : Nat) : Int))))]) (l := [(40, .row 2 false (List.map spanT []))]) (by kernel_rfl)) ?_
  refine Sim.loop ?_
  refine loop_ind (α := Int × Nat × Nat × (List Span)) (fun (p, i, j, out) => ⟨[(0, .t (.lst 2 (List.map spanT a))), (1, .t (.lst 2 (List.map spanT b))), (2, .fn f []), (7, .row 40 out.length), (8, .t (.sc (.int .i64 p))), (9, .t (.sc (.int .i64 (i : Int)))), (10, .t (.sc (.int .i64 (j : Int))))], app emp [(40, .row 2 false (List.map spanT out))], 41⟩) (fun (p, i, j, out) => i ≤ 2 * a.length ∧ j ≤ 2 * b.length ∧ out.length ≤ i + j ∧ mergeS w a b [] 0 0 0 = mergeS w a b out p i j) (fun (p, i, j, out) => (2 * a.length - i) + (2 * b.length - j)) ?_ (0, 0, 0, []) ?_
  rotate_left
  · -- loop 3, start
    exact ⟨by omega, by omega, by simp, rfl⟩
  rintro ⟨p, i, j, out⟩ I3 ih3
  show LoopSim _ _ _ _ ⟨[(0, .t (.lst 2 (List.map spanT a))), (1, .t (.lst 2 (List.map spanT b))), (2, .fn f []), (7, .row 40 out.length), (8, .t (.sc (.int .i64 p))), (9, .t (.sc (.int .i64 (i : Int)))), (10, .t (.sc (.int .i64 (j : Int))))], app emp [(40, .row 2 false (List.map spanT out))], 41⟩ _
  replace I3 : i ≤ 2 * a.length ∧ j ≤ 2 * b.length ∧ out.length ≤ i + j ∧ mergeS w a b [] 0 0 0 = mergeS w a b out p i j := I3
  refine LoopSim.step ?_
  refine Sim.seq ?_
  refine Sim.seq ?_
  refine Sim.reg (orcs := [(2, ⟨some (.t (.sc (.int .i64 (a.length : Int)))), none, none, none⟩), (3, ⟨some (.t (.sc (.int .i64 (2 * (a.length : Int))))), none, none, none⟩), (8, ⟨some (.t (.sc (.int .i64 (b.length : Int)))), none, none, none⟩), (9, ⟨some (.t (.sc (.int .i64 (2 * (b.length : Int))))), none, none, none⟩)]) (keys := [0, 1, 2, 7, 8, 9, 10, 23]) (τ := [(40, 40)]) (nx := 137)
    (sl := [(0, .t (.lst 2 (List.map spanT a))), (1, .t (.lst 2 (List.map spanT b))), (2, .fn f []), (7, .row 40 out.length), (8, .t (.sc (.int .i64 p))), (9, .t (.sc (.int .i64 (i : Int)))), (10, .t (.sc (.int .i64 (j : Int)))), (23, .t (.sc (.bool (decide ((i : Int) < (2 * (a.length : Int))) || decide ((j : Int) < (2 * (b.length : Int)))))))]) (l := [(40, .row 2 false (List.map spanT out))])
    (C := [AVal.t (.sc (.int .i64 (a.length : Int))) = .t (.sc (.int .i64 ((List.map spanT a).length : Int))), AVal.t (.sc (.int .i64 (2 * (a.length : Int)))) = .t (.sc (.int .i64 (IntKind.i64.wrap (2 * (a.length : Int))))), (!(decide ((i : Int) < (2 * (a.length : Int))))) = true → (!(decide ((i : Int) < (2 * (a.length : Int))))) = true, (!(decide ((i : Int) < (2 * (a.length : Int))))) = true → AVal.t (.sc (.int .i64 (b.length : Int))) = .t (.sc (.int .i64 ((List.map spanT b).length : Int))), (!(decide ((i : Int) < (2 * (a.length : Int))))) = true → (!(decide ((i : Int) < (2 * (a.length : Int))))) = true, (!(decide ((i : Int) < (2 * (a.length : Int))))) = true → AVal.t (.sc (.int .i64 (2 * (b.length : Int)))) = .t (.sc (.int .i64 (IntKind.i64.wrap (2 * (b.length : Int))))), (!(decide ((i : Int) < (2 * (a.length : Int))))) = true → (!(decide ((i : Int) < (2 * (a.length : Int))))) = true, (!(decide ((i : Int) < (2 * (a.length : Int))))) = true → (!(decide ((i : Int) < (2 * (a.length : Int))))) = true, (decide ((i : Int) < (2 * (a.length : Int)))) = false → (!(decide ((i : Int) < (2 * (a.length : Int))))) = true]) (by kernel_rfl) ?_ ?_
  · -- region 3
    exact ⟨len_map, (nw (by (first | omega | exact fun h => h | (simp only [List.length_map]; done) | (simp only [List.length_map]; omega) | (simp; omega) | (simp; done)))), (by first | exact fun h => h | (intro hg; (try simp only [decide_eq_true_eq, decide_eq_false_iff_not, Int.not_lt, Int.not_le, Bool.not_eq_true', Bool.not_eq_false'] at hg); omega) | (intro _; (first | omega | exact fun h => h | (simp only [List.length_map]; done) | (simp only [List.length_map]; omega) | (simp; omega) | (simp; done)))), (fun hg => by (try simp only [decide_eq_true_eq, decide_eq_false_iff_not, Int.not_lt, Int.not_le, Bool.not_eq_true', Bool.not_eq_false'] at hg); exact len_map), (by first | exact fun h => h | (intro hg; (try simp only [decide_eq_true_eq, decide_eq_false_iff_not, Int.not_lt, Int.not_le, Bool.not_eq_true', Bool.not_eq_false'] at hg); omega) | (intro _; (first | omega | exact fun h => h | (simp only [List.length_map]; done) | (simp only [List.length_map]; omega) | (simp; omega) | (simp; done)))), (fun hg => nw (by (try simp only [decide_eq_true_eq, decide_eq_false_iff_not, Int.not_lt, Int.not_le, Bool.not_eq_true', Bool.not_eq_false'] at hg); omega)), (by first | exact fun h => h | (intro hg; (try simp only [decide_eq_true_eq, decide_eq_false_iff_not, Int.not_lt, Int.not_le, Bool.not_eq_true', Bool.not_eq_false'] at hg); omega) | (intro _; (first | omega | exact fun h => h | (simp only [List.length_map]; done) | (simp only [List.length_map]; omega) | (simp; omega) | (simp; done)))), (by first | exact fun h => h | (intro hg; (try simp only [decide_eq_true_eq, decide_eq_false_iff_not, Int.not_lt, Int.not_le, Bool.not_eq_true', Bool.not_eq_false'] at hg); omega) | (intro _; (first | omega | exact fun h => h | (simp only [List.length_map]; done) | (simp only [List.length_map]; omega) | (simp; omega) | (simp; done)))), (by (first | omega | exact fun h => h | (simp only [List.length_map]; done) | (simp only [List.length_map]; omega) | (simp; omega) | (simp; done))), trivial⟩
  refine andThen_normal ?_
  refine Sim.cond (b := (decide ((i : Int) < (2 * (a.length : Int))) || decide ((j : Int) < (2 * (b.length : Int))))) rfl (fun h3 => ?_) (fun h3 => ?_)
  · (try simp only [decide_eq_true_eq, decide_eq_false_iff_not, Int.not_lt, Int.not_le, Bool.or_eq_true, Bool.or_eq_false_iff] at h3)
    refine Sim.skip ?_
    refine andThen_normal ?_
    refine Sim.block ?_
    refine Sim.seq ?_
    refine Sim.reg (orcs := []) (keys := [0, 1, 2, 7, 8, 9, 10, 11]) (τ := [(40, 40)]) (nx := 145)
      (sl := [(0, .t (.lst 2 (List.map spanT a))), (1, .t (.lst 2 (List.map spanT b))), (2, .fn f []), (7, .row 40 out.length), (8, .t (.sc (.int .i64 p))), (9, .t (.sc (.int .i64 (i : Int)))), (10, .t (.sc (.int .i64 (j : Int)))), (11, .t (.sc (.int .i64 2147483648)))]) (l := [(40, .row 2 false (List.map spanT out))])
      (C := []) (by kernel_rfl) ?_ ?_
    · -- region 4
      trivial
    refine andThen_normal ?_
    refine Sim.seq ?_
    refine Sim.seq ?_
    refine Sim.reg (orcs := [(2, ⟨some (.t (.sc (.int .i64 (a.length : Int)))), none, none, none⟩), (3, ⟨some (.t (.sc (.int .i64 (2 * (a.length : Int))))), none, none, none⟩)]) (keys := [0, 1, 2, 7, 8, 9, 10, 11, 28]) (τ := [(40, 40)]) (nx := 185)
      (sl := [(0, .t (.lst 2 (List.map spanT a))), (1, .t (.lst 2 (List.map spanT b))), (2, .fn f []), (7, .row 40 out.length), (8, .t (.sc (.int .i64 p))), (9, .t (.sc (.int .i64 (i : Int)))), (10, .t (.sc (.int .i64 (j : Int)))), (11, .t (.sc (.int .i64 2147483648))), (28, .t (.sc (.bool (decide ((i : Int) < (2 * (a.length : Int)))))))]) (l := [(40, .row 2 false (List.map spanT out))])
      (C := [AVal.t (.sc (.int .i64 (a.length : Int))) = .t (.sc (.int .i64 ((List.map spanT a).length : Int))), AVal.t (.sc (.int .i64 (2 * (a.length : Int)))) = .t (.sc (.int .i64 (IntKind.i64.wrap (2 * (a.length : Int)))))]) (by kernel_rfl) ?_ ?_
    · -- region 5
      exact ⟨len_map, (nw (by (first | omega | exact fun h => h | (simp only [List.length_map]; done) | (simp only [List.length_map]; omega) | (simp; omega) | (simp; done)))), trivial⟩
    refine andThen_normal ?_
    refine Sim.cond (b := decide ((i : Int) < (2 * (a.length : Int)))) rfl (fun h5 => ?_) (fun h5 => ?_)
    · (try simp only [decide_eq_true_eq, decide_eq_false_iff_not, Int.not_lt, Int.not_le] at h5)
      refine Sim.reg (orcs := [(2, ⟨none, none, none, some (⟨0, [], .t (.sc (.int .i64 (endS a i))), []⟩)⟩)]) (keys := [0, 1, 2, 7, 8, 9, 10, 11]) (τ := [(40, 40)]) (nx := 217)
        (sl := [(0, .t (.lst 2 (List.map spanT a))), (1, .t (.lst 2 (List.map spanT b))), (2, .fn f []), (7, .row 40 out.length), (8, .t (.sc (.int .i64 p))), (9, .t (.sc (.int .i64 (i : Int)))), (10, .t (.sc (.int .i64 (j : Int)))), (11, .t (.sc (.int .i64 (endS a i))))]) (l := [(40, .row 2 false (List.map spanT out))])
        (C := [callable Try.prog 148 = true, FC Try.prog 148 [.t (.lst 2 (List.map spanT a)), .t (.sc (.int .i64 (i : Int)))] emp (.t (.sc (.int .i64 (endS a i)))) emp]) (by kernel_rfl) ?_ ?_
      · -- region 6
        exact ⟨(by kernel_rfl), (fc_end a i (by (first | omega | exact fun h => h | (simp only [List.length_map]; done) | (simp only [List.length_map]; omega) | (simp; omega) | (simp; done))) (by (first | omega | exact fun h => h | (simp only [List.length_map]; done) | (simp only [List.length_map]; omega) | (simp; omega) | (simp; done)))), trivial⟩
      refine andThen_normal ?_
      refine Sim.seq ?_
      refine Sim.seq ?_
      refine Sim.reg (orcs := [(2, ⟨some (.t (.sc (.int .i64 (b.length : Int)))), none, none, none⟩), (3, ⟨some (.t (.sc (.int .i64 (2 * (b.length : Int))))), none, none, none⟩)]) (keys := [0, 1, 2, 7, 8, 9, 10, 11, 36]) (τ := [(40, 40)]) (nx := 257)
        (sl := [(0, .t (.lst 2 (List.map spanT a))), (1, .t (.lst 2 (List.map spanT b))), (2, .fn f []), (7, .row 40 out.length), (8, .t (.sc (.int .i64 p))), (9, .t (.sc (.int .i64 (i : Int)))), (10, .t (.sc (.int .i64 (j : Int)))), (11, .t (.sc (.int .i64 (endS a i)))), (36, .t (.sc (.bool (decide ((j : Int) < (2 * (b.length : Int)))))))]) (l := [(40, .row 2 false (List.map spanT out))])
        (C := [AVal.t (.sc (.int .i64 (b.length : Int))) = .t (.sc (.int .i64 ((List.map spanT b).length : Int))), AVal.t (.sc (.int .i64 (2 * (b.length : Int)))) = .t (.sc (.int .i64 (IntKind.i64.wrap (2 * (b.length : Int)))))]) (by kernel_rfl) ?_ ?_
      · -- region 7
        exact ⟨len_map, (nw (by (first | omega | exact fun h => h | (simp only [List.length_map]; done) | (simp only [List.length_map]; omega) | (simp; omega) | (simp; done)))), trivial⟩
      refine andThen_normal ?_
      refine Sim.cond (b := decide ((j : Int) < (2 * (b.length : Int)))) rfl (fun h7 => ?_) (fun h7 => ?_)
      · (try simp only [decide_eq_true_eq, decide_eq_false_iff_not, Int.not_lt, Int.not_le] at h7)
        refine Sim.reg (orcs := [(3, ⟨none, none, none, some (⟨0, [], .t (.sc (.int .i64 (endS b j))), []⟩)⟩), (4, ⟨some (.t (.sc (.int .i64 (min (endS a i) (endS b j))))), none, none, none⟩)]) (keys := [0, 1, 2, 7, 8, 9, 10, 11]) (τ := [(40, 40)]) (nx := 305)
          (sl := [(0, .t (.lst 2 (List.map spanT a))), (1, .t (.lst 2 (List.map spanT b))), (2, .fn f []), (7, .row 40 out.length), (8, .t (.sc (.int .i64 p))), (9, .t (.sc (.int .i64 (i : Int)))), (10, .t (.sc (.int .i64 (j : Int)))), (11, .t (.sc (.int .i64 (min (endS a i) (endS b j)))))]) (l := [(40, .row 2 false (List.map spanT out))])
          (C := [callable Try.prog 148 = true, FC Try.prog 148 [.t (.lst 2 (List.map spanT b)), .t (.sc (.int .i64 (j : Int)))] emp (.t (.sc (.int .i64 (endS b j)))) emp, AVal.t (.sc (.int .i64 (min (endS a i) (endS b j)))) = .t (.sc (.int .i64 (if (endS b j) < (endS a i) then (endS b j) else (endS a i))))]) (by kernel_rfl) ?_ ?_
        · -- region 8
          exact ⟨(by kernel_rfl), (fc_end b j (by (first | omega | exact fun h => h | (simp only [List.length_map]; done) | (simp only [List.length_map]; omega) | (simp; omega) | (simp; done))) (by (first | omega | exact fun h => h | (simp only [List.length_map]; done) | (simp only [List.length_map]; omega) | (simp; omega) | (simp; done)))), min_if, trivial⟩
        refine andThen_normal ?_
        refine Sim.seq ?_
        refine Sim.seq ?_
        refine Sim.reg (orcs := [(6, ⟨some (.t (.sc (.int .i64 ((i : Int) % 2)))), none, none, none⟩), (9, ⟨some (.t (.sc (.int .i64 ((j : Int) % 2)))), none, none, none⟩), (11, ⟨none, none, none, some (⟨0, [], .t (.sc (.bool (w (((i : Int) % 2) == 1) (((j : Int) % 2) == 1)))), []⟩)⟩)]) (keys := [0, 1, 2, 7, 8, 9, 10, 11, 54]) (τ := [(40, 40)]) (nx := 409)
          (sl := [(0, .t (.lst 2 (List.map spanT a))), (1, .t (.lst 2 (List.map spanT b))), (2, .fn f []), (7, .row 40 out.length), (8, .t (.sc (.int .i64 p))), (9, .t (.sc (.int .i64 (i : Int)))), (10, .t (.sc (.int .i64 (j : Int)))), (11, .t (.sc (.int .i64 (min (endS a i) (endS b j))))), (54, .t (.sc (.bool (decide (p < (min (endS a i) (endS b j))) && (w (((i : Int) % 2) == 1) (((j : Int) % 2) == 1))))))]) (l := [(40, .row 2 false (List.map spanT out))])
          (C := [(decide (p < (min (endS a i) (endS b j)))) = true → (decide (p < (min (endS a i) (endS b j)))) = true, (decide (p < (min (endS a i) (endS b j)))) = true → (2 : Int) ≠ 0, (decide (p < (min (endS a i) (endS b j)))) = true → AVal.t (.sc (.int .i64 ((i : Int) % 2))) = .t (.sc (.int .i64 ((i : Int).tmod 2))), (decide (p < (min (endS a i) (endS b j)))) = true → (decide (p < (min (endS a i) (endS b j)))) = true, (decide (p < (min (endS a i) (endS b j)))) = true → (decide (p < (min (endS a i) (endS b j)))) = true, (decide (p < (min (endS a i) (endS b j)))) = true → (2 : Int) ≠ 0, (decide (p < (min (endS a i) (endS b j)))) = true → AVal.t (.sc (.int .i64 ((j : Int) % 2))) = .t (.sc (.int .i64 ((j : Int).tmod 2))), (decide (p < (min (endS a i) (endS b j)))) = true → (decide (p < (min (endS a i) (endS b j)))) = true, (decide (p < (min (endS a i) (endS b j)))) = true → (decide (p < (min (endS a i) (endS b j)))) = true, (decide (p < (min (endS a i) (endS b j)))) = true → (decide (p < (min (endS a i) (endS b j)))) = true, (decide (p < (min (endS a i) (endS b j)))) = true → (decide (p < (min (endS a i) (endS b j)))) = true, (decide (p < (min (endS a i) (endS b j)))) = true → callable Try.prog f = true, (decide (p < (min (endS a i) (endS b j)))) = true → FC Try.prog f [.t (.sc (.bool (((i : Int) % 2) == 1))), .t (.sc (.bool (((j : Int) % 2) == 1)))] emp (.t (.sc (.bool (w (((i : Int) % 2) == 1) (((j : Int) % 2) == 1))))) emp, (decide (p < (min (endS a i) (endS b j)))) = true → (decide (p < (min (endS a i) (endS b j)))) = true]) (by kernel_rfl) ?_ ?_
        · -- region 9
          exact ⟨(by first | exact fun h => h | (intro hg; (try simp only [decide_eq_true_eq, decide_eq_false_iff_not, Int.not_lt, Int.not_le] at hg); omega) | (intro _; (first | omega | exact fun h => h | (simp only [List.length_map]; done) | (simp only [List.length_map]; omega) | (simp; omega) | (simp; done)))), (by first | exact fun h => h | (intro hg; (try simp only [decide_eq_true_eq, decide_eq_false_iff_not, Int.not_lt, Int.not_le] at hg); omega) | (intro _; (first | omega | exact fun h => h | (simp only [List.length_map]; done) | (simp only [List.length_map]; omega) | (simp; omega) | (simp; done)))), (fun hg => by (try simp only [decide_eq_true_eq, decide_eq_false_iff_not, Int.not_lt, Int.not_le] at hg); exact (rem_nn (by (first | omega | exact fun h => h | (simp only [List.length_map]; done) | (simp only [List.length_map]; omega) | (simp; omega) | (simp; done))))), (by first | exact fun h => h | (intro hg; (try simp only [decide_eq_true_eq, decide_eq_false_iff_not, Int.not_lt, Int.not_le] at hg); omega) | (intro _; (first | omega | exact fun h => h | (simp only [List.length_map]; done) | (simp only [List.length_map]; omega) | (simp; omega) | (simp; done)))), (by first | exact fun h => h | (intro hg; (try simp only [decide_eq_true_eq, decide_eq_false_iff_not, Int.not_lt, Int.not_le] at hg); omega) | (intro _; (first | omega | exact fun h => h | (simp only [List.length_map]; done) | (simp only [List.length_map]; omega) | (simp; omega) | (simp; done)))), (by first | exact fun h => h | (intro hg; (try simp only [decide_eq_true_eq, decide_eq_false_iff_not, Int.not_lt, Int.not_le] at hg); omega) | (intro _; (first | omega | exact fun h => h | (simp only [List.length_map]; done) | (simp only [List.length_map]; omega) | (simp; omega) | (simp; done)))), (fun hg => by (try simp only [decide_eq_true_eq, decide_eq_false_iff_not, Int.not_lt, Int.not_le] at hg); exact (rem_nn (by (first | omega | exact fun h => h | (simp only [List.length_map]; done) | (simp only [List.length_map]; omega) | (simp; omega) | (simp; done))))), (by first | exact fun h => h | (intro hg; (try simp only [decide_eq_true_eq, decide_eq_false_iff_not, Int.not_lt, Int.not_le] at hg); omega) | (intro _; (first | omega | exact fun h => h | (simp only [List.length_map]; done) | (simp only [List.length_map]; omega) | (simp; omega) | (simp; done)))), (by first | exact fun h => h | (intro hg; (try simp only [decide_eq_true_eq, decide_eq_false_iff_not, Int.not_lt, Int.not_le] at hg); omega) | (intro _; (first | omega | exact fun h => h | (simp only [List.length_map]; done) | (simp only [List.length_map]; omega) | (simp; omega) | (simp; done)))), (by first | exact fun h => h | (intro hg; (try simp only [decide_eq_true_eq, decide_eq_false_iff_not, Int.not_lt, Int.not_le] at hg); omega) | (intro _; (first | omega | exact fun h => h | (simp only [List.length_map]; done) | (simp only [List.length_map]; omega) | (simp; omega) | (simp; done)))), (by first | exact fun h => h | (intro hg; (try simp only [decide_eq_true_eq, decide_eq_false_iff_not, Int.not_lt, Int.not_le] at hg); omega) | (intro _; (first | omega | exact fun h => h | (simp only [List.length_map]; done) | (simp only [List.length_map]; omega) | (simp; omega) | (simp; done)))), (fun hg => by (try simp only [decide_eq_true_eq, decide_eq_false_iff_not, Int.not_lt, Int.not_le] at hg); exact hfc), (fun hg => by (try simp only [decide_eq_true_eq, decide_eq_false_iff_not, Int.not_lt, Int.not_le] at hg); exact (hf (((i : Int) % 2) == 1) (((j : Int) % 2) == 1))), (by (first | omega | exact fun h => h | (simp only [List.length_map]; done) | (simp only [List.length_map]; omega) | (simp; omega) | (simp; done))), trivial⟩
        refine andThen_normal ?_
        refine Sim.cond (b := (decide (p < (min (endS a i) (endS b j))) && (w (((i : Int) % 2) == 1) (((j : Int) % 2) == 1)))) rfl (fun h9 => ?_) (fun h9 => ?_)
        · (try simp only [decide_eq_true_eq, decide_eq_false_iff_not, Int.not_lt, Int.not_le, Bool.and_eq_true, Bool.and_eq_false_iff, Bool.not_eq_true', Bool.not_eq_false', beq_iff_eq, beq_eq_false_iff_ne, ne_eq] at h9)
          refine Sim.reg (orcs := [(4, ⟨none, none, none, some (⟨2, [40], .row 40 ((addS out ({ fr := p, to := (min (endS a i) (endS b j)) } : Span)).length), [(40, .row 2 false (List.map spanT (addS out ({ fr := p, to := (min (endS a i) (endS b j)) } : Span))))]⟩)⟩)]) (keys := [0, 1, 2, 7, 9, 10, 11]) (τ := [(40, 40)]) (nx := 457)
            (sl := [(0, .t (.lst 2 (List.map spanT a))), (1, .t (.lst 2 (List.map spanT b))), (2, .fn f []), (7, .row 40 ((addS out ({ fr := p, to := (min (endS a i) (endS b j)) } : Span)).length)), (9, .t (.sc (.int .i64 (i : Int)))), (10, .t (.sc (.int .i64 (j : Int)))), (11, .t (.sc (.int .i64 (min (endS a i) (endS b j)))))]) (l := [(40, .row 2 false (List.map spanT (addS out ({ fr := p, to := (min (endS a i) (endS b j)) } : Span))))])
            (C := [callable Try.prog 121 = true, FC Try.prog 121 [.row 40 out.length, .t (spanT ({ fr := p, to := (min (endS a i) (endS b j)) } : Span))] (only (only (app emp [(40, .row 2 false (List.map spanT out))]) [40, 40]) [40]) (.row 40 ((addS out ({ fr := p, to := (min (endS a i) (endS b j)) } : Span)).length)) (app (only (only (app emp [(40, .row 2 false (List.map spanT out))]) [40, 40]) [40]) [(40, .row 2 false (List.map spanT (addS out ({ fr := p, to := (min (endS a i) (endS b j)) } : Span))))])]) (by kernel_rfl) ?_ ?_
          · -- region 10
            exact ⟨(by kernel_rfl), (FC.at (FC.ren (fc_add out ({ fr := p, to := (min (endS a i) (endS b j)) } : Span) (by (first | omega | exact fun h => h | (simp only [List.length_map]; done) | (simp only [List.length_map]; omega) | (simp; omega) | (simp; done)))) [(0, 40)] [(0, 40)] (l0' := [(40, .row 2 false (List.map spanT out))]) (args' := [.row 40 out.length, .t (spanT ({ fr := p, to := (min (endS a i) (endS b j)) } : Span))]) (res' := .row 40 ((addS out ({ fr := p, to := (min (endS a i) (endS b j)) } : Span)).length)) (l1' := [(40, .row 2 false (List.map spanT (addS out ({ fr := p, to := (min (endS a i) (endS b j)) } : Span))))]) (by kernel_rfl) (by kernel_rfl) (by kernel_rfl) (by kernel_rfl) (by kernel_rfl) (by kernel_rfl)) (fun i => by by_cases e0 : i = 40; (subst e0; rfl); simp only [only, app, upd, emp, hasId, cond_false, beq_ne e0, beq_ne (Ne.symm e0)]) (fun i => by by_cases e0 : i = 40; (subst e0; rfl); simp only [only, app, upd, emp, hasId, cond_false, beq_ne e0, beq_ne (Ne.symm e0)])), trivial⟩
          refine andThen_normal ?_
          refine Sim.seq ?_
          refine Sim.reg (orcs := []) (keys := [0, 1, 2, 7, 8, 9, 10]) (τ := [(40, 40)]) (nx := 473)
            (sl := [(0, .t (.lst 2 (List.map spanT a))), (1, .t (.lst 2 (List.map spanT b))), (2, .fn f []), (7, .row 40 ((addS out ({ fr := p, to := (min (endS a i) (endS b j)) } : Span)).length)), (8, .t (.sc (.int .i64 (min (endS a i) (endS b j))))), (9, .t (.sc (.int .i64 (i : Int)))), (10, .t (.sc (.int .i64 (j : Int))))]) (l := [(40, .row 2 false (List.map spanT (addS out ({ fr := p, to := (min (endS a i) (endS b j)) } : Span))))])
            (C := []) (by kernel_rfl) ?_ ?_
          · -- region 11
            trivial
          refine andThen_normal ?_
          refine Sim.seq ?_
          refine Sim.block ?_
          refine Sim.weaken (Le.ren (τ := [(40, 40)]) (keys := [0, 1, 2, 7, 8, 9, 10]) (nx := 473) (sl := [(0, .t (.lst 2 (List.map spanT a))), (1, .t (.lst 2 (List.map spanT b))), (2, .fn f []), (7, .row 40 ((addS out ({ fr := p, to := (min (endS a i) (endS b j)) } : Span)).length)), (8, .t (.sc (.int .i64 (min (endS a i) (endS b j))))), (9, .t (.sc (.int .i64 (i : Int)))), (10, .t (.sc (.int .i64 (j : Int))))]) (l := [(40, .row 2 false (List.map spanT (addS out ({ fr := p, to := (min (endS a i) (endS b j)) } : Span))))]) (by kernel_rfl)) ?_
          refine Sim.loop ?_
          refine loop_ind (α := Nat) (fun i1 => ⟨[(0, .t (.lst 2 (List.map spanT a))), (1, .t (.lst 2 (List.map spanT b))), (2, .fn f []), (7, .row 40 ((addS out ({ fr := p, to := (min (endS a i) (endS b j)) } : Span)).length)), (8, .t (.sc (.int .i64 (min (endS a i) (endS b j))))), (9, .t (.sc (.int .i64 (i1 : Int)))), (10, .t (.sc (.int .i64 (j : Int))))], app emp [(40, .row 2 false (List.map spanT (addS out ({ fr := p, to := (min (endS a i) (endS b j)) } : Span))))], 473⟩) (fun i1 => i ≤ i1 ∧ i1 ≤ 2 * a.length ∧ skipS a i (min (endS a i) (endS b j)) = skipS a i1 (min (endS a i) (endS b j))) (fun i1 => 2 * a.length - i1) ?_ (i : Nat) ?_
          rotate_left
          · -- loop 12, start
            exact ⟨by omega, by omega, rfl⟩
          rintro i1 I12 ih12
          show LoopSim _ _ _ _ ⟨[(0, .t (.lst 2 (List.map spanT a))), (1, .t (.lst 2 (List.map spanT b))), (2, .fn f []), (7, .row 40 ((addS out ({ fr := p, to := (min (endS a i) (endS b j)) } : Span)).length)), (8, .t (.sc (.int .i64 (min (endS a i) (endS b j))))), (9, .t (.sc (.int .i64 (i1 : Int)))), (10, .t (.sc (.int .i64 (j : Int))))], app emp [(40, .row 2 false (List.map spanT (addS out ({ fr := p, to := (min (endS a i) (endS b j)) } : Span))))], 473⟩ _
          replace I12 : i ≤ i1 ∧ i1 ≤ 2 * a.length ∧ skipS a i (min (endS a i) (endS b j)) = skipS a i1 (min (endS a i) (endS b j)) := I12
          refine LoopSim.step ?_
          refine Sim.seq ?_
          refine Sim.seq ?_
          refine Sim.reg (orcs := [(2, ⟨some (.t (.sc (.int .i64 (a.length : Int)))), none, none, none⟩), (3, ⟨some (.t (.sc (.int .i64 (2 * (a.length : Int))))), none, none, none⟩), (8, ⟨none, none, none, some (⟨0, [], .t (.sc (.int .i64 (endS a i1))), []⟩)⟩)]) (keys := [0, 1, 2, 7, 8, 9, 10, 72]) (τ := [(40, 40)]) (nx := 569)
            (sl := [(0, .t (.lst 2 (List.map spanT a))), (1, .t (.lst 2 (List.map spanT b))), (2, .fn f []), (7, .row 40 ((addS out ({ fr := p, to := (min (endS a i) (endS b j)) } : Span)).length)), (8, .t (.sc (.int .i64 (min (endS a i) (endS b j))))), (9, .t (.sc (.int .i64 (i1 : Int)))), (10, .t (.sc (.int .i64 (j : Int)))), (72, .t (.sc (.bool (decide ((i1 : Int) < (2 * (a.length : Int))) && ((endS a i1) == (min (endS a i) (endS b j)))))))]) (l := [(40, .row 2 false (List.map spanT (addS out ({ fr := p, to := (min (endS a i) (endS b j)) } : Span))))])
            (C := [AVal.t (.sc (.int .i64 (a.length : Int))) = .t (.sc (.int .i64 ((List.map spanT a).length : Int))), AVal.t (.sc (.int .i64 (2 * (a.length : Int)))) = .t (.sc (.int .i64 (IntKind.i64.wrap (2 * (a.length : Int))))), (decide ((i1 : Int) < (2 * (a.length : Int)))) = true → (decide ((i1 : Int) < (2 * (a.length : Int)))) = true, (decide ((i1 : Int) < (2 * (a.length : Int)))) = true → (decide ((i1 : Int) < (2 * (a.length : Int)))) = true, (decide ((i1 : Int) < (2 * (a.length : Int)))) = true → callable Try.prog 148 = true, (decide ((i1 : Int) < (2 * (a.length : Int)))) = true → FC Try.prog 148 [.t (.lst 2 (List.map spanT a)), .t (.sc (.int .i64 (i1 : Int)))] emp (.t (.sc (.int .i64 (endS a i1)))) emp, (decide ((i1 : Int) < (2 * (a.length : Int)))) = true → (decide ((i1 : Int) < (2 * (a.length : Int)))) = true, (decide ((i1 : Int) < (2 * (a.length : Int)))) = true → (decide ((i1 : Int) < (2 * (a.length : Int)))) = true, (decide ((i1 : Int) < (2 * (a.length : Int)))) = true → (decide ((i1 : Int) < (2 * (a.length : Int)))) = true]) (by kernel_rfl) ?_ ?_
          · -- region 12
            exact ⟨len_map, (nw (by (first | omega | exact fun h => h | (simp only [List.length_map]; done) | (simp only [List.length_map]; omega) | (simp; omega) | (simp; done)))), (by first | exact fun h => h | (intro hg; (try simp only [decide_eq_true_eq, decide_eq_false_iff_not, Int.not_lt, Int.not_le] at hg); omega) | (intro _; (first | omega | exact fun h => h | (simp only [List.length_map]; done) | (simp only [List.length_map]; omega) | (simp; omega) | (simp; done)))), (by first | exact fun h => h | (intro hg; (try simp only [decide_eq_true_eq, decide_eq_false_iff_not, Int.not_lt, Int.not_le] at hg); omega) | (intro _; (first | omega | exact fun h => h | (simp only [List.length_map]; done) | (simp only [List.length_map]; omega) | (simp; omega) | (simp; done)))), (fun hg => by (try simp only [decide_eq_true_eq, decide_eq_false_iff_not, Int.not_lt, Int.not_le] at hg); exact (by kernel_rfl)), (fun hg => by (try simp only [decide_eq_true_eq, decide_eq_false_iff_not, Int.not_lt, Int.not_le] at hg); exact (fc_end a i1 (by (first | omega | exact fun h => h | (simp only [List.length_map]; done) | (simp only [List.length_map]; omega) | (simp; omega) | (simp; done))) (by (first | omega | exact fun h => h | (simp only [List.length_map]; done) | (simp only [List.length_map]; omega) | (simp; omega) | (simp; done))))), (by first | exact fun h => h | (intro hg; (try simp only [decide_eq_true_eq, decide_eq_false_iff_not, Int.not_lt, Int.not_le] at hg); omega) | (intro _; (first | omega | exact fun h => h | (simp only [List.length_map]; done) | (simp only [List.length_map]; omega) | (simp; omega) | (simp; done)))), (by first | exact fun h => h | (intro hg; (try simp only [decide_eq_true_eq, decide_eq_false_iff_not, Int.not_lt, Int.not_le] at hg); omega) | (intro _; (first | omega | exact fun h => h | (simp only [List.length_map]; done) | (simp only [List.length_map]; omega) | (simp; omega) | (simp; done)))), (by (first | omega | exact fun h => h | (simp only [List.length_map]; done) | (simp only [List.length_map]; omega) | (simp; omega) | (simp; done))), trivial⟩
          refine andThen_normal ?_
          refine Sim.cond (b := (decide ((i1 : Int) < (2 * (a.length : Int))) && ((endS a i1) == (min (endS a i) (endS b j))))) rfl (fun h12 => ?_) (fun h12 => ?_)
          · (try simp only [decide_eq_true_eq, decide_eq_false_iff_not, Int.not_lt, Int.not_le, Bool.and_eq_true, Bool.and_eq_false_iff, Bool.not_eq_true', Bool.not_eq_false', beq_iff_eq, beq_eq_false_iff_ne, ne_eq] at h12)
            refine Sim.skip ?_
            refine andThen_normal ?_
            refine Sim.block ?_
            refine Sim.reg (orcs := [(1, ⟨some (.t (.sc (.int .i64 ((i1 : Int) + 1)))), none, none, none⟩)]) (keys := [0, 1, 2, 7, 8, 9, 10]) (τ := [(40, 40)]) (nx := 593)
              (sl := [(0, .t (.lst 2 (List.map spanT a))), (1, .t (.lst 2 (List.map spanT b))), (2, .fn f []), (7, .row 40 ((addS out ({ fr := p, to := (min (endS a i) (endS b j)) } : Span)).length)), (8, .t (.sc (.int .i64 (min (endS a i) (endS b j))))), (9, .t (.sc (.int .i64 ((i1 : Int) + 1)))), (10, .t (.sc (.int .i64 (j : Int))))]) (l := [(40, .row 2 false (List.map spanT (addS out ({ fr := p, to := (min (endS a i) (endS b j)) } : Span))))])
              (C := [AVal.t (.sc (.int .i64 ((i1 : Int) + 1))) = .t (.sc (.int .i64 (IntKind.i64.wrap ((i1 : Int) + 1))))]) (by kernel_rfl) ?_ ?_
            · -- region 13
              exact ⟨(nw (by (first | omega | exact fun h => h | (simp only [List.length_map]; done) | (simp only [List.length_map]; omega) | (simp; omega) | (simp; done)))), trivial⟩
            refine inBlk_normal ?_
            refine andThen_normal ?_
            refine LoopSim.weaken (Le.ren (τ := [(40, 40)]) (keys := [0, 1, 2, 7, 8, 9, 10]) (nx := 473) (sl := [(0, .t (.lst 2 (List.map spanT a))), (1, .t (.lst 2 (List.map spanT b))), (2, .fn f []), (7, .row 40 ((addS out ({ fr := p, to := (min (endS a i) (endS b j)) } : Span)).length)), (8, .t (.sc (.int .i64 (min (endS a i) (endS b j))))), (9, .t (.sc (.int .i64 (((i1 + 1) : Nat) : Int)))), (10, .t (.sc (.int .i64 (j : Int))))]) (l := [(40, .row 2 false (List.map spanT (addS out ({ fr := p, to := (min (endS a i) (endS b j)) } : Span))))]) (by kernel_rfl)) ?_
            refine ih12 ((i1 + 1) : Nat) ?_ ?_
            · -- back 12.1, invariant
              refine ⟨by omega, by omega, ?_⟩; rw [I12.2.2, skipS.eq_def a i1, if_pos (by omega)]
            · -- back 12.1, measure
              show (_:Nat) < _; (first | omega | exact fun h => h | (simp only [List.length_map]; done) | (simp only [List.length_map]; omega) | (simp; omega) | (simp; done))
          · (try simp only [decide_eq_true_eq, decide_eq_false_iff_not, Int.not_lt, Int.not_le, Bool.and_eq_true, Bool.and_eq_false_iff, Bool.not_eq_true', Bool.not_eq_false', beq_iff_eq, beq_eq_false_iff_ne, ne_eq] at h12)
            refine Sim.exit ?_
            refine andThen_exit ?_
            refine andThen_exit ?_
            refine inBlk_same ?_
            refine andThen_normal ?_
            refine Sim.block ?_
            refine Sim.weaken (Le.ren (τ := [(40, 40)]) (keys := [0, 1, 2, 7, 8, 9, 10]) (nx := 569) (sl := [(0, .t (.lst 2 (List.map spanT a))), (1, .t (.lst 2 (List.map spanT b))), (2, .fn f []), (7, .row 40 ((addS out ({ fr := p, to := (min (endS a i) (endS b j)) } : Span)).length)), (8, .t (.sc (.int .i64 (min (endS a i) (endS b j))))), (9, .t (.sc (.int .i64 (i1 : Int)))), (10, .t (.sc (.int .i64 (j : Int))))]) (l := [(40, .row 2 false (List.map spanT (addS out ({ fr := p, to := (min (endS a i) (endS b j)) } : Span))))]) (by kernel_rfl)) ?_
            refine Sim.loop ?_
            refine loop_ind (α := Nat) (fun j1 => ⟨[(0, .t (.lst 2 (List.map spanT a))), (1, .t (.lst 2 (List.map spanT b))), (2, .fn f []), (7, .row 40 ((addS out ({ fr := p, to := (min (endS a i) (endS b j)) } : Span)).length)), (8, .t (.sc (.int .i64 (min (endS a i) (endS b j))))), (9, .t (.sc (.int .i64 (i1 : Int)))), (10, .t (.sc (.int .i64 (j1 : Int))))], app emp [(40, .row 2 false (List.map spanT (addS out ({ fr := p, to := (min (endS a i) (endS b j)) } : Span))))], 569⟩) (fun j1 => j ≤ j1 ∧ j1 ≤ 2 * b.length ∧ skipS b j (min (endS a i) (endS b j)) = skipS b j1 (min (endS a i) (endS b j))) (fun j1 => 2 * b.length - j1) ?_ (j : Nat) ?_
            rotate_left
            · -- loop 14, start
              exact ⟨by omega, by omega, rfl⟩
            rintro j1 I14 ih14
            show LoopSim _ _ _ _ ⟨[(0, .t (.lst 2 (List.map spanT a))), (1, .t (.lst 2 (List.map spanT b))), (2, .fn f []), (7, .row 40 ((addS out ({ fr := p, to := (min (endS a i) (endS b j)) } : Span)).length)), (8, .t (.sc (.int .i64 (min (endS a i) (endS b j))))), (9, .t (.sc (.int .i64 (i1 : Int)))), (10, .t (.sc (.int .i64 (j1 : Int))))], app emp [(40, .row 2 false (List.map spanT (addS out ({ fr := p, to := (min (endS a i) (endS b j)) } : Span))))], 569⟩ _
            replace I14 : j ≤ j1 ∧ j1 ≤ 2 * b.length ∧ skipS b j (min (endS a i) (endS b j)) = skipS b j1 (min (endS a i) (endS b j)) := I14
            refine LoopSim.step ?_
            refine Sim.seq ?_
            refine Sim.seq ?_
            refine Sim.reg (orcs := [(2, ⟨some (.t (.sc (.int .i64 (b.length : Int)))), none, none, none⟩), (3, ⟨some (.t (.sc (.int .i64 (2 * (b.length : Int))))), none, none, none⟩), (8, ⟨none, none, none, some (⟨0, [], .t (.sc (.int .i64 (endS b j1))), []⟩)⟩)]) (keys := [0, 1, 2, 7, 8, 9, 10, 86]) (τ := [(40, 40)]) (nx := 665)
              (sl := [(0, .t (.lst 2 (List.map spanT a))), (1, .t (.lst 2 (List.map spanT b))), (2, .fn f []), (7, .row 40 ((addS out ({ fr := p, to := (min (endS a i) (endS b j)) } : Span)).length)), (8, .t (.sc (.int .i64 (min (endS a i) (endS b j))))), (9, .t (.sc (.int .i64 (i1 : Int)))), (10, .t (.sc (.int .i64 (j1 : Int)))), (86, .t (.sc (.bool (decide ((j1 : Int) < (2 * (b.length : Int))) && ((endS b j1) == (min (endS a i) (endS b j)))))))]) (l := [(40, .row 2 false (List.map spanT (addS out ({ fr := p, to := (min (endS a i) (endS b j)) } : Span))))])
              (C := [AVal.t (.sc (.int .i64 (b.length : Int))) = .t (.sc (.int .i64 ((List.map spanT b).length : Int))), AVal.t (.sc (.int .i64 (2 * (b.length : Int)))) = .t (.sc (.int .i64 (IntKind.i64.wrap (2 * (b.length : Int))))), (decide ((j1 : Int) < (2 * (b.length : Int)))) = true → (decide ((j1 : Int) < (2 * (b.length : Int)))) = true, (decide ((j1 : Int) < (2 * (b.length : Int)))) = true → (decide ((j1 : Int) < (2 * (b.length : Int)))) = true, (decide ((j1 : Int) < (2 * (b.length : Int)))) = true → callable Try.prog 148 = true, (decide ((j1 : Int) < (2 * (b.length : Int)))) = true → FC Try.prog 148 [.t (.lst 2 (List.map spanT b)), .t (.sc (.int .i64 (j1 : Int)))] emp (.t (.sc (.int .i64 (endS b j1)))) emp, (decide ((j1 : Int) < (2 * (b.length : Int)))) = true → (decide ((j1 : Int) < (2 * (b.length : Int)))) = true, (decide ((j1 : Int) < (2 * (b.length : Int)))) = true → (decide ((j1 : Int) < (2 * (b.length : Int)))) = true, (decide ((j1 : Int) < (2 * (b.length : Int)))) = true → (decide ((j1 : Int) < (2 * (b.length : Int)))) = true]) (by kernel_rfl) ?_ ?_
            · -- region 14
              exact ⟨len_map, (nw (by (first | omega | exact fun h => h | (simp only [List.length_map]; done) | (simp only [List.length_map]; omega) | (simp; omega) | (simp; done)))), (by first | exact fun h => h | (intro hg; (try simp only [decide_eq_true_eq, decide_eq_false_iff_not, Int.not_lt, Int.not_le] at hg); omega) | (intro _; (first | omega | exact fun h => h | (simp only [List.length_map]; done) | (simp only [List.length_map]; omega) | (simp; omega) | (simp; done)))), (by first | exact fun h => h | (intro hg; (try simp only [decide_eq_true_eq, decide_eq_false_iff_not, Int.not_lt, Int.not_le] at hg); omega) | (intro _; (first | omega | exact fun h => h | (simp only [List.length_map]; done) | (simp only [List.length_map]; omega) | (simp; omega) | (simp; done)))), (fun hg => by (try simp only [decide_eq_true_eq, decide_eq_false_iff_not, Int.not_lt, Int.not_le] at hg); exact (by kernel_rfl)), (fun hg => by (try simp only [decide_eq_true_eq, decide_eq_false_iff_not, Int.not_lt, Int.not_le] at hg); exact (fc_end b j1 (by (first | omega | exact fun h => h | (simp only [List.length_map]; done) | (simp only [List.length_map]; omega) | (simp; omega) | (simp; done))) (by (first | omega | exact fun h => h | (simp only [List.length_map]; done) | (simp only [List.length_map]; omega) | (simp; omega) | (simp; done))))), (by first | exact fun h => h | (intro hg; (try simp only [decide_eq_true_eq, decide_eq_false_iff_not, Int.not_lt, Int.not_le] at hg); omega) | (intro _; (first | omega | exact fun h => h | (simp only [List.length_map]; done) | (simp only [List.length_map]; omega) | (simp; omega) | (simp; done)))), (by first | exact fun h => h | (intro hg; (try simp only [decide_eq_true_eq, decide_eq_false_iff_not, Int.not_lt, Int.not_le] at hg); omega) | (intro _; (first | omega | exact fun h => h | (simp only [List.length_map]; done) | (simp only [List.length_map]; omega) | (simp; omega) | (simp; done)))), (by (first | omega | exact fun h => h | (simp only [List.length_map]; done) | (simp only [List.length_map]; omega) | (simp; omega) | (simp; done))), trivial⟩
            refine andThen_normal ?_
            refine Sim.cond (b := (decide ((j1 : Int) < (2 * (b.length : Int))) && ((endS b j1) == (min (endS a i) (endS b j))))) rfl (fun h14 => ?_) (fun h14 => ?_)
            · (try simp only [decide_eq_true_eq, decide_eq_false_iff_not, Int.not_lt, Int.not_le, Bool.and_eq_true, Bool.and_eq_false_iff, Bool.not_eq_true', Bool.not_eq_false', beq_iff_eq, beq_eq_false_iff_ne, ne_eq] at h14)
              refine Sim.skip ?_
              refine andThen_normal ?_
              refine Sim.block ?_
              refine Sim.reg (orcs := [(1, ⟨some (.t (.sc (.int .i64 ((j1 : Int) + 1)))), none, none, none⟩)]) (keys := [0, 1, 2, 7, 8, 9, 10]) (τ := [(40, 40)]) (nx := 689)
                (sl := [(0, .t (.lst 2 (List.map spanT a))), (1, .t (.lst 2 (List.map spanT b))), (2, .fn f []), (7, .row 40 ((addS out ({ fr := p, to := (min (endS a i) (endS b j)) } : Span)).length)), (8, .t (.sc (.int .i64 (min (endS a i) (endS b j))))), (9, .t (.sc (.int .i64 (i1 : Int)))), (10, .t (.sc (.int .i64 ((j1 : Int) + 1))))]) (l := [(40, .row 2 false (List.map spanT (addS out ({ fr := p, to := (min (endS a i) (endS b j)) } : Span))))])
                (C := [AVal.t (.sc (.int .i64 ((j1 : Int) + 1))) = .t (.sc (.int .i64 (IntKind.i64.wrap ((j1 : Int) + 1))))]) (by kernel_rfl) ?_ ?_
              · -- region 15
                exact ⟨(nw (by (first | omega | exact fun h => h | (simp only [List.length_map]; done) | (simp only [List.length_map]; omega) | (simp; omega) | (simp; done)))), trivial⟩
              refine inBlk_normal ?_
              refine andThen_normal ?_
              refine LoopSim.weaken (Le.ren (τ := [(40, 40)]) (keys := [0, 1, 2, 7, 8, 9, 10]) (nx := 569) (sl := [(0, .t (.lst 2 (List.map spanT a))), (1, .t (.lst 2 (List.map spanT b))), (2, .fn f []), (7, .row 40 ((addS out ({ fr := p, to := (min (endS a i) (endS b j)) } : Span)).length)), (8, .t (.sc (.int .i64 (min (endS a i) (endS b j))))), (9, .t (.sc (.int .i64 (i1 : Int)))), (10, .t (.sc (.int .i64 (((j1 + 1) : Nat) : Int))))]) (l := [(40, .row 2 false (List.map spanT (addS out ({ fr := p, to := (min (endS a i) (endS b j)) } : Span))))]) (by kernel_rfl)) ?_
              refine ih14 ((j1 + 1) : Nat) ?_ ?_
              · -- back 14.1, invariant
                refine ⟨by omega, by omega, ?_⟩; rw [I14.2.2, skipS.eq_def b j1, if_pos (by omega)]
              · -- back 14.1, measure
                show (_:Nat) < _; (first | omega | exact fun h => h | (simp only [List.length_map]; done) | (simp only [List.length_map]; omega) | (simp; omega) | (simp; done))
            · (try simp only [decide_eq_true_eq, decide_eq_false_iff_not, Int.not_lt, Int.not_le, Bool.and_eq_true, Bool.and_eq_false_iff, Bool.not_eq_true', Bool.not_eq_false', beq_iff_eq, beq_eq_false_iff_ne, ne_eq] at h14)
              refine Sim.exit ?_
              refine andThen_exit ?_
              refine andThen_exit ?_
              refine inBlk_same ?_
              refine inBlk_normal ?_
              refine andThen_normal ?_
              refine LoopSim.weaken (Le.ren (τ := [(40, 40)]) (keys := [0, 1, 2, 7, 8, 9, 10]) (nx := 41) (sl := [(0, .t (.lst 2 (List.map spanT a))), (1, .t (.lst 2 (List.map spanT b))), (2, .fn f []), (7, .row 40 ((addS out ({ fr := p, to := (min (endS a i) (endS b j)) } : Span)).length)), (8, .t (.sc (.int .i64 (min (endS a i) (endS b j))))), (9, .t (.sc (.int .i64 (i1 : Int)))), (10, .t (.sc (.int .i64 (j1 : Int))))]) (l := [(40, .row 2 false (List.map spanT (addS out ({ fr := p, to := (min (endS a i) (endS b j)) } : Span))))]) (by kernel_rfl)) ?_
              have hn : nextS a b i j = (min (endS a i) (endS b j)) := by unfold nextS; ((repeat' split) <;> first | rfl | omega | (simp_all; done) | (simp_all; omega))
              have hi : skipS a i1 (min (endS a i) (endS b j)) = i1 := by rw [skipS.eq_def, if_neg (by omega)]
              have hj : skipS b j1 (min (endS a i) (endS b j)) = j1 := by rw [skipS.eq_def, if_neg (by omega)]
              have hp := skip_prog a b i j (by omega) hb
              have hs := mergeS_step w a b out p i j (by omega) hb
              rw [hn, I12.2.2, hi, I14.2.2, hj] at hs hp
              simp only [mod2] at h9
              have hl := addS_len out ⟨p, (min (endS a i) (endS b j))⟩
              refine ih3 ((min (endS a i) (endS b j)), i1, j1, (addS out ({ fr := p, to := (min (endS a i) (endS b j)) } : Span))) ?_ ?_
              · -- back 3.1, invariant
                refine ⟨by omega, by omega, by omega, ?_⟩
                rw [I3.2.2.2, hs]
                first | rw [if_pos h9] | rw [if_neg (fun hh => by rcases h9 with h9 | h9; omega; exact absurd hh.2 (by rw [h9]; decide))]
              · -- back 3.1, measure
                show (_:Nat) < _; (first | omega | exact fun h => h | (simp only [List.length_map]; done) | (simp only [List.length_map]; omega) | (simp; omega) | (simp; done))
        · (try simp only [decide_eq_true_eq, decide_eq_false_iff_not, Int.not_lt, Int.not_le, Bool.and_eq_true, Bool.and_eq_false_iff, Bool.not_eq_true', Bool.not_eq_false', beq_iff_eq, beq_eq_false_iff_ne, ne_eq] at h9)
          refine Sim.skip ?_
          refine andThen_normal ?_
          refine Sim.seq ?_
          refine Sim.reg (orcs := []) (keys := [0, 1, 2, 7, 8, 9, 10]) (τ := [(40, 40)]) (nx := 425)
            (sl := [(0, .t (.lst 2 (List.map spanT a))), (1, .t (.lst 2 (List.map spanT b))), (2, .fn f []), (7, .row 40 out.length), (8, .t (.sc (.int .i64 (min (endS a i) (endS b j))))), (9, .t (.sc (.int .i64 (i : Int)))), (10, .t (.sc (.int .i64 (j : Int))))]) (l := [(40, .row 2 false (List.map spanT out))])
            (C := []) (by kernel_rfl) ?_ ?_
          · -- region 11
            trivial
          refine andThen_normal ?_
          refine Sim.seq ?_
          refine Sim.block ?_
          refine Sim.weaken (Le.ren (τ := [(40, 40)]) (keys := [0, 1, 2, 7, 8, 9, 10]) (nx := 425) (sl := [(0, .t (.lst 2 (List.map spanT a))), (1, .t (.lst 2 (List.map spanT b))), (2, .fn f []), (7, .row 40 out.length), (8, .t (.sc (.int .i64 (min (endS a i) (endS b j))))), (9, .t (.sc (.int .i64 (i : Int)))), (10, .t (.sc (.int .i64 (j : Int))))]) (l := [(40, .row 2 false (List.map spanT out))]) (by kernel_rfl)) ?_
          refine Sim.loop ?_
          refine loop_ind (α := Nat) (fun i1 => ⟨[(0, .t (.lst 2 (List.map spanT a))), (1, .t (.lst 2 (List.map spanT b))), (2, .fn f []), (7, .row 40 out.length), (8, .t (.sc (.int .i64 (min (endS a i) (endS b j))))), (9, .t (.sc (.int .i64 (i1 : Int)))), (10, .t (.sc (.int .i64 (j : Int))))], app emp [(40, .row 2 false (List.map spanT out))], 425⟩) (fun i1 => i ≤ i1 ∧ i1 ≤ 2 * a.length ∧ skipS a i (min (endS a i) (endS b j)) = skipS a i1 (min (endS a i) (endS b j))) (fun i1 => 2 * a.length - i1) ?_ (i : Nat) ?_
          rotate_left
          · -- loop 12, start
            exact ⟨by omega, by omega, rfl⟩
          rintro i1 I12 ih12
          show LoopSim _ _ _ _ ⟨[(0, .t (.lst 2 (List.map spanT a))), (1, .t (.lst 2 (List.map spanT b))), (2, .fn f []), (7, .row 40 out.length), (8, .t (.sc (.int .i64 (min (endS a i) (endS b j))))), (9, .t (.sc (.int .i64 (i1 : Int)))), (10, .t (.sc (.int .i64 (j : Int))))], app emp [(40, .row 2 false (List.map spanT out))], 425⟩ _
          replace I12 : i ≤ i1 ∧ i1 ≤ 2 * a.length ∧ skipS a i (min (endS a i) (endS b j)) = skipS a i1 (min (endS a i) (endS b j)) := I12
          refine LoopSim.step ?_
          refine Sim.seq ?_
          refine Sim.seq ?_
          refine Sim.reg (orcs := [(2, ⟨some (.t (.sc (.int .i64 (a.length : Int)))), none, none, none⟩), (3, ⟨some (.t (.sc (.int .i64 (2 * (a.length : Int))))), none, none, none⟩), (8, ⟨none, none, none, some (⟨0, [], .t (.sc (.int .i64 (endS a i1))), []⟩)⟩)]) (keys := [0, 1, 2, 7, 8, 9, 10, 72]) (τ := [(40, 40)]) (nx := 521)
            (sl := [(0, .t (.lst 2 (List.map spanT a))), (1, .t (.lst 2 (List.map spanT b))), (2, .fn f []), (7, .row 40 out.length), (8, .t (.sc (.int .i64 (min (endS a i) (endS b j))))), (9, .t (.sc (.int .i64 (i1 : Int)))), (10, .t (.sc (.int .i64 (j : Int)))), (72, .t (.sc (.bool (decide ((i1 : Int) < (2 * (a.length : Int))) && ((endS a i1) == (min (endS a i) (endS b j)))))))]) (l := [(40, .row 2 false (List.map spanT out))])
            (C := [AVal.t (.sc (.int .i64 (a.length : Int))) = .t (.sc (.int .i64 ((List.map spanT a).length : Int))), AVal.t (.sc (.int .i64 (2 * (a.length : Int)))) = .t (.sc (.int .i64 (IntKind.i64.wrap (2 * (a.length : Int))))), (decide ((i1 : Int) < (2 * (a.length : Int)))) = true → (decide ((i1 : Int) < (2 * (a.length : Int)))) = true, (decide ((i1 : Int) < (2 * (a.length : Int)))) = true → (decide ((i1 : Int) < (2 * (a.length : Int)))) = true, (decide ((i1 : Int) < (2 * (a.length : Int)))) = true → callable Try.prog 148 = true, (decide ((i1 : Int) < (2 * (a.length : Int)))) = true → FC Try.prog 148 [.t (.lst 2 (List.map spanT a)), .t (.sc (.int .i64 (i1 : Int)))] emp (.t (.sc (.int .i64 (endS a i1)))) emp, (decide ((i1 : Int) < (2 * (a.length : Int)))) = true → (decide ((i1 : Int) < (2 * (a.length : Int)))) = true, (decide ((i1 : Int) < (2 * (a.length : Int)))) = true → (decide ((i1 : Int) < (2 * (a.length : Int)))) = true, (decide ((i1 : Int) < (2 * (a.length : Int)))) = true → (decide ((i1 : Int) < (2 * (a.length : Int)))) = true]) (by kernel_rfl) ?_ ?_
          · -- region 12
            exact ⟨len_map, (nw (by (first | omega | exact fun h => h | (simp only [List.length_map]; done) | (simp only [List.length_map]; omega) | (simp; omega) | (simp; done)))), (by first | exact fun h => h | (intro hg; (try simp only [decide_eq_true_eq, decide_eq_false_iff_not, Int.not_lt, Int.not_le] at hg); omega) | (intro _; (first | omega | exact fun h => h | (simp only [List.length_map]; done) | (simp only [List.length_map]; omega) | (simp; omega) | (simp; done)))), (by first | exact fun h => h | (intro hg; (try simp only [decide_eq_true_eq, decide_eq_false_iff_not, Int.not_lt, Int.not_le] at hg); omega) | (intro _; (first | omega | exact fun h => h | (simp only [List.length_map]; done) | (simp only [List.length_map]; omega) | (simp; omega) | (simp; done)))), (fun hg => by (try simp only [decide_eq_true_eq, decide_eq_false_iff_not, Int.not_lt, Int.not_le] at hg); exact (by kernel_rfl)), (fun hg => by (try simp only [decide_eq_true_eq, decide_eq_false_iff_not, Int.not_lt, Int.not_le] at hg); exact (fc_end a i1 (by (first | omega | exact fun h => h | (simp only [List.length_map]; done) | (simp only [List.length_map]; omega) | (simp; omega) | (simp; done))) (by (first | omega | exact fun h => h | (simp only [List.length_map]; done) | (simp only [List.length_map]; omega) | (simp; omega) | (simp; done))))), (by first | exact fun h => h | (intro hg; (try simp only [decide_eq_true_eq, decide_eq_false_iff_not, Int.not_lt, Int.not_le] at hg); omega) | (intro _; (first | omega | exact fun h => h | (simp only [List.length_map]; done) | (simp only [List.length_map]; omega) | (simp; omega) | (simp; done)))), (by first | exact fun h => h | (intro hg; (try simp only [decide_eq_true_eq, decide_eq_false_iff_not, Int.not_lt, Int.not_le] at hg); omega) | (intro _; (first | omega | exact fun h => h | (simp only [List.length_map]; done) | (simp only [List.length_map]; omega) | (simp; omega) | (simp; done)))), (by (first | omega | exact fun h => h | (simp only [List.length_map]; done) | (simp only [List.length_map]; omega) | (simp; omega) | (simp; done))), trivial⟩
          refine andThen_normal ?_
          refine Sim.cond (b := (decide ((i1 : Int) < (2 * (a.length : Int))) && ((endS a i1) == (min (endS a i) (endS b j))))) rfl (fun h12 => ?_) (fun h12 => ?_)
          · (try simp only [decide_eq_true_eq, decide_eq_false_iff_not, Int.not_lt, Int.not_le, Bool.and_eq_true, Bool.and_eq_false_iff, Bool.not_eq_true', Bool.not_eq_false', beq_iff_eq, beq_eq_false_iff_ne, ne_eq] at h12)
            refine Sim.skip ?_
            refine andThen_normal ?_
            refine Sim.block ?_
            refine Sim.reg (orcs := [(1, ⟨some (.t (.sc (.int .i64 ((i1 : Int) + 1)))), none, none, none⟩)]) (keys := [0, 1, 2, 7, 8, 9, 10]) (τ := [(40, 40)]) (nx := 545)
              (sl := [(0, .t (.lst 2 (List.map spanT a))), (1, .t (.lst 2 (List.map spanT b))), (2, .fn f []), (7, .row 40 out.length), (8, .t (.sc (.int .i64 (min (endS a i) (endS b j))))), (9, .t (.sc (.int .i64 ((i1 : Int) + 1)))), (10, .t (.sc (.int .i64 (j : Int))))]) (l := [(40, .row 2 false (List.map spanT out))])
              (C := [AVal.t (.sc (.int .i64 ((i1 : Int) + 1))) = .t (.sc (.int .i64 (IntKind.i64.wrap ((i1 : Int) + 1))))]) (by kernel_rfl) ?_ ?_
            · -- region 13
              exact ⟨(nw (by (first | omega | exact fun h => h | (simp only [List.length_map]; done) | (simp only [List.length_map]; omega) | (simp; omega) | (simp; done)))), trivial⟩
            refine inBlk_normal ?_
            refine andThen_normal ?_
            refine LoopSim.weaken (Le.ren (τ := [(40, 40)]) (keys := [0, 1, 2, 7, 8, 9, 10]) (nx := 425) (sl := [(0, .t (.lst 2 (List.map spanT a))), (1, .t (.lst 2 (List.map spanT b))), (2, .fn f []), (7, .row 40 out.length), (8, .t (.sc (.int .i64 (min (endS a i) (endS b j))))), (9, .t (.sc (.int .i64 (((i1 + 1) : Nat) : Int)))), (10, .t (.sc (.int .i64 (j : Int))))]) (l := [(40, .row 2 false (List.map spanT out))]) (by kernel_rfl)) ?_
            refine ih12 ((i1 + 1) : Nat) ?_ ?_
            · -- back 12.1, invariant
              refine ⟨by omega, by omega, ?_⟩; rw [I12.2.2, skipS.eq_def a i1, if_pos (by omega)]
            · -- back 12.1, measure
              show (_:Nat) < _; (first | omega | exact fun h => h | (simp only [List.length_map]; done) | (simp only [List.length_map]; omega) | (simp; omega) | (simp; done))
          · (try simp only [decide_eq_true_eq, decide_eq_false_iff_not, Int.not_lt, Int.not_le, Bool.and_eq_true, Bool.and_eq_false_iff, Bool.not_eq_true', Bool.not_eq_false', beq_iff_eq, beq_eq_false_iff_ne, ne_eq] at h12)
            refine Sim.exit ?_
            refine andThen_exit ?_
            refine andThen_exit ?_
            refine inBlk_same ?_
            refine andThen_normal ?_
            refine Sim.block ?_
            refine Sim.weaken (Le.ren (τ := [(40, 40)]) (keys := [0, 1, 2, 7, 8, 9, 10]) (nx := 521) (sl := [(0, .t (.lst 2 (List.map spanT a))), (1, .t (.lst 2 (List.map spanT b))), (2, .fn f []), (7, .row 40 out.length), (8, .t (.sc (.int .i64 (min (endS a i) (endS b j))))), (9, .t (.sc (.int .i64 (i1 : Int)))), (10, .t (.sc (.int .i64 (j : Int))))]) (l := [(40, .row 2 false (List.map spanT out))]) (by kernel_rfl)) ?_
            refine Sim.loop ?_
            refine loop_ind (α := Nat) (fun j1 => ⟨[(0, .t (.lst 2 (List.map spanT a))), (1, .t (.lst 2 (List.map spanT b))), (2, .fn f []), (7, .row 40 out.length), (8, .t (.sc (.int .i64 (min (endS a i) (endS b j))))), (9, .t (.sc (.int .i64 (i1 : Int)))), (10, .t (.sc (.int .i64 (j1 : Int))))], app emp [(40, .row 2 false (List.map spanT out))], 521⟩) (fun j1 => j ≤ j1 ∧ j1 ≤ 2 * b.length ∧ skipS b j (min (endS a i) (endS b j)) = skipS b j1 (min (endS a i) (endS b j))) (fun j1 => 2 * b.length - j1) ?_ (j : Nat) ?_
            rotate_left
            · -- loop 14, start
              exact ⟨by omega, by omega, rfl⟩
            rintro j1 I14 ih14
            show LoopSim _ _ _ _ ⟨[(0, .t (.lst 2 (List.map spanT a))), (1, .t (.lst 2 (List.map spanT b))), (2, .fn f []), (7, .row 40 out.length), (8, .t (.sc (.int .i64 (min (endS a i) (endS b j))))), (9, .t (.sc (.int .i64 (i1 : Int)))), (10, .t (.sc (.int .i64 (j1 : Int))))], app emp [(40, .row 2 false (List.map spanT out))], 521⟩ _
            replace I14 : j ≤ j1 ∧ j1 ≤ 2 * b.length ∧ skipS b j (min (endS a i) (endS b j)) = skipS b j1 (min (endS a i) (endS b j)) := I14
            refine LoopSim.step ?_
            refine Sim.seq ?_
            refine Sim.seq ?_
            refine Sim.reg (orcs := [(2, ⟨some (.t (.sc (.int .i64 (b.length : Int)))), none, none, none⟩), (3, ⟨some (.t (.sc (.int .i64 (2 * (b.length : Int))))), none, none, none⟩), (8, ⟨none, none, none, some (⟨0, [], .t (.sc (.int .i64 (endS b j1))), []⟩)⟩)]) (keys := [0, 1, 2, 7, 8, 9, 10, 86]) (τ := [(40, 40)]) (nx := 617)
              (sl := [(0, .t (.lst 2 (List.map spanT a))), (1, .t (.lst 2 (List.map spanT b))), (2, .fn f []), (7, .row 40 out.length), (8, .t (.sc (.int .i64 (min (endS a i) (endS b j))))), (9, .t (.sc (.int .i64 (i1 : Int)))), (10, .t (.sc (.int .i64 (j1 : Int)))), (86, .t (.sc (.bool (decide ((j1 : Int) < (2 * (b.length : Int))) && ((endS b j1) == (min (endS a i) (endS b j)))))))]) (l := [(40, .row 2 false (List.map spanT out))])
              (C := [AVal.t (.sc (.int .i64 (b.length : Int))) = .t (.sc (.int .i64 ((List.map spanT b).length : Int))), AVal.t (.sc (.int .i64 (2 * (b.length : Int)))) = .t (.sc (.int .i64 (IntKind.i64.wrap (2 * (b.length : Int))))), (decide ((j1 : Int) < (2 * (b.length : Int)))) = true → (decide ((j1 : Int) < (2 * (b.length : Int)))) = true, (decide ((j1 : Int) < (2 * (b.length : Int)))) = true → (decide ((j1 : Int) < (2 * (b.length : Int)))) = true, (decide ((j1 : Int) < (2 * (b.length : Int)))) = true → callable Try.prog 148 = true, (decide ((j1 : Int) < (2 * (b.length : Int)))) = true → FC Try.prog 148 [.t (.lst 2 (List.map spanT b)), .t (.sc (.int .i64 (j1 : Int)))] emp (.t (.sc (.int .i64 (endS b j1)))) emp, (decide ((j1 : Int) < (2 * (b.length : Int)))) = true → (decide ((j1 : Int) < (2 * (b.length : Int)))) = true, (decide ((j1 : Int) < (2 * (b.length : Int)))) = true → (decide ((j1 : Int) < (2 * (b.length : Int)))) = true, (decide ((j1 : Int) < (2 * (b.length : Int)))) = true → (decide ((j1 : Int) < (2 * (b.length : Int)))) = true]) (by kernel_rfl) ?_ ?_
            · -- region 14
              exact ⟨len_map, (nw (by (first | omega | exact fun h => h | (simp only [List.length_map]; done) | (simp only [List.length_map]; omega) | (simp; omega) | (simp; done)))), (by first | exact fun h => h | (intro hg; (try simp only [decide_eq_true_eq, decide_eq_false_iff_not, Int.not_lt, Int.not_le] at hg); omega) | (intro _; (first | omega | exact fun h => h | (simp only [List.length_map]; done) | (simp only [List.length_map]; omega) | (simp; omega) | (simp; done)))), (by first | exact fun h => h | (intro hg; (try simp only [decide_eq_true_eq, decide_eq_false_iff_not, Int.not_lt, Int.not_le] at hg); omega) | (intro _; (first | omega | exact fun h => h | (simp only [List.length_map]; done) | (simp only [List.length_map]; omega) | (simp; omega) | (simp; done)))), (fun hg => by (try simp only [decide_eq_true_eq, decide_eq_false_iff_not, Int.not_lt, Int.not_le] at hg); exact (by kernel_rfl)), (fun hg => by (try simp only [decide_eq_true_eq, decide_eq_false_iff_not, Int.not_lt, Int.not_le] at hg); exact (fc_end b j1 (by (first | omega | exact fun h => h | (simp only [List.length_map]; done) | (simp only [List.length_map]; omega) | (simp; omega) | (simp; done))) (by (first | omega | exact fun h => h | (simp only [List.length_map]; done) | (simp only [List.length_map]; omega) | (simp; omega) | (simp; done))))), (by first | exact fun h => h | (intro hg; (try simp only [decide_eq_true_eq, decide_eq_false_iff_not, Int.not_lt, Int.not_le] at hg); omega) | (intro _; (first | omega | exact fun h => h | (simp only [List.length_map]; done) | (simp only [List.length_map]; omega) | (simp; omega) | (simp; done)))), (by first | exact fun h => h | (intro hg; (try simp only [decide_eq_true_eq, decide_eq_false_iff_not, Int.not_lt, Int.not_le] at hg); omega) | (intro _; (first | omega | exact fun h => h | (simp only [List.length_map]; done) | (simp only [List.length_map]; omega) | (simp; omega) | (simp; done)))), (by (first | omega | exact fun h => h | (simp only [List.length_map]; done) | (simp only [List.length_map]; omega) | (simp; omega) | (simp; done))), trivial⟩
            refine andThen_normal ?_
            refine Sim.cond (b := (decide ((j1 : Int) < (2 * (b.length : Int))) && ((endS b j1) == (min (endS a i) (endS b j))))) rfl (fun h14 => ?_) (fun h14 => ?_)
            · (try simp only [decide_eq_true_eq, decide_eq_false_iff_not, Int.not_lt, Int.not_le, Bool.and_eq_true, Bool.and_eq_false_iff, Bool.not_eq_true', Bool.not_eq_false', beq_iff_eq, beq_eq_false_iff_ne, ne_eq] at h14)
              refine Sim.skip ?_
              refine andThen_normal ?_
              refine Sim.block ?_
              refine Sim.reg (orcs := [(1, ⟨some (.t (.sc (.int .i64 ((j1 : Int) + 1)))), none, none, none⟩)]) (keys := [0, 1, 2, 7, 8, 9, 10]) (τ := [(40, 40)]) (nx := 641)
                (sl := [(0, .t (.lst 2 (List.map spanT a))), (1, .t (.lst 2 (List.map spanT b))), (2, .fn f []), (7, .row 40 out.length), (8, .t (.sc (.int .i64 (min (endS a i) (endS b j))))), (9, .t (.sc (.int .i64 (i1 : Int)))), (10, .t (.sc (.int .i64 ((j1 : Int) + 1))))]) (l := [(40, .row 2 false (List.map spanT out))])
                (C := [AVal.t (.sc (.int .i64 ((j1 : Int) + 1))) = .t (.sc (.int .i64 (IntKind.i64.wrap ((j1 : Int) + 1))))]) (by kernel_rfl) ?_ ?_
              · -- region 15
                exact ⟨(nw (by (first | omega | exact fun h => h | (simp only [List.length_map]; done) | (simp only [List.length_map]; omega) | (simp; omega) | (simp; done)))), trivial⟩
              refine inBlk_normal ?_
              refine andThen_normal ?_
              refine LoopSim.weaken (Le.ren (τ := [(40, 40)]) (keys := [0, 1, 2, 7, 8, 9, 10]) (nx := 521) (sl := [(0, .t (.lst 2 (List.map spanT a))), (1, .t (.lst 2 (List.map spanT b))), (2, .fn f []), (7, .row 40 out.length), (8, .t (.sc (.int .i64 (min (endS a i) (endS b j))))), (9, .t (.sc (.int .i64 (i1 : Int)))), (10, .t (.sc (.int .i64 (((j1 + 1) : Nat) : Int))))]) (l := [(40, .row 2 false (List.map spanT out))]) (by kernel_rfl)) ?_
              refine ih14 ((j1 + 1) : Nat) ?_ ?_
              · -- back 14.1, invariant
                refine ⟨by omega, by omega, ?_⟩; rw [I14.2.2, skipS.eq_def b j1, if_pos (by omega)]
              · -- back 14.1, measure
                show (_:Nat) < _; (first | omega | exact fun h => h | (simp only [List.length_map]; done) | (simp only [List.length_map]; omega) | (simp; omega) | (simp; done))
            · (try simp only [decide_eq_true_eq, decide_eq_false_iff_not, Int.not_lt, Int.not_le, Bool.and_eq_true, Bool.and_eq_false_iff, Bool.not_eq_true', Bool.not_eq_false', beq_iff_eq, beq_eq_false_iff_ne, ne_eq] at h14)
              refine Sim.exit ?_
              refine andThen_exit ?_
              refine andThen_exit ?_
              refine inBlk_same ?_
              refine inBlk_normal ?_
              refine andThen_normal ?_
              refine LoopSim.weaken (Le.ren (τ := [(40, 40)]) (keys := [0, 1, 2, 7, 8, 9, 10]) (nx := 41) (sl := [(0, .t (.lst 2 (List.map spanT a))), (1, .t (.lst 2 (List.map spanT b))), (2, .fn f []), (7, .row 40 out.length), (8, .t (.sc (.int .i64 (min (endS a i) (endS b j))))), (9, .t (.sc (.int .i64 (i1 : Int)))), (10, .t (.sc (.int .i64 (j1 : Int))))]) (l := [(40, .row 2 false (List.map spanT out))]) (by kernel_rfl)) ?_
              have hn : nextS a b i j = (min (endS a i) (endS b j)) := by unfold nextS; ((repeat' split) <;> first | rfl | omega | (simp_all; done) | (simp_all; omega))
              have hi : skipS a i1 (min (endS a i) (endS b j)) = i1 := by rw [skipS.eq_def, if_neg (by omega)]
              have hj : skipS b j1 (min (endS a i) (endS b j)) = j1 := by rw [skipS.eq_def, if_neg (by omega)]
              have hp := skip_prog a b i j (by omega) hb
              have hs := mergeS_step w a b out p i j (by omega) hb
              rw [hn, I12.2.2, hi, I14.2.2, hj] at hs hp
              simp only [mod2] at h9
              have hl := addS_len out ⟨p, (min (endS a i) (endS b j))⟩
              refine ih3 ((min (endS a i) (endS b j)), i1, j1, out) ?_ ?_
              · -- back 3.2, invariant
                refine ⟨by omega, by omega, by omega, ?_⟩
                rw [I3.2.2.2, hs]
                first | rw [if_pos h9] | rw [if_neg (fun hh => by rcases h9 with h9 | h9; omega; exact absurd hh.2 (by rw [h9]; decide))]
              · -- back 3.2, measure
                show (_:Nat) < _; (first | omega | exact fun h => h | (simp only [List.length_map]; done) | (simp only [List.length_map]; omega) | (simp; omega) | (simp; done))
      · (try simp only [decide_eq_true_eq, decide_eq_false_iff_not, Int.not_lt, Int.not_le] at h7)
        refine Sim.skip ?_
        refine andThen_normal ?_
        refine Sim.seq ?_
        refine Sim.seq ?_
        refine Sim.reg (orcs := [(6, ⟨some (.t (.sc (.int .i64 ((i : Int) % 2)))), none, none, none⟩), (9, ⟨some (.t (.sc (.int .i64 ((j : Int) % 2)))), none, none, none⟩), (11, ⟨none, none, none, some (⟨0, [], .t (.sc (.bool (w (((i : Int) % 2) == 1) (((j : Int) % 2) == 1)))), []⟩)⟩)]) (keys := [0, 1, 2, 7, 8, 9, 10, 11, 54]) (τ := [(40, 40)]) (nx := 361)
          (sl := [(0, .t (.lst 2 (List.map spanT a))), (1, .t (.lst 2 (List.map spanT b))), (2, .fn f []), (7, .row 40 out.length), (8, .t (.sc (.int .i64 p))), (9, .t (.sc (.int .i64 (i : Int)))), (10, .t (.sc (.int .i64 (j : Int)))), (11, .t (.sc (.int .i64 (endS a i)))), (54, .t (.sc (.bool (decide (p < (endS a i)) && (w (((i : Int) % 2) == 1) (((j : Int) % 2) == 1))))))]) (l := [(40, .row 2 false (List.map spanT out))])
          (C := [(decide (p < (endS a i))) = true → (decide (p < (endS a i))) = true, (decide (p < (endS a i))) = true → (2 : Int) ≠ 0, (decide (p < (endS a i))) = true → AVal.t (.sc (.int .i64 ((i : Int) % 2))) = .t (.sc (.int .i64 ((i : Int).tmod 2))), (decide (p < (endS a i))) = true → (decide (p < (endS a i))) = true, (decide (p < (endS a i))) = true → (decide (p < (endS a i))) = true, (decide (p < (endS a i))) = true → (2 : Int) ≠ 0, (decide (p < (endS a i))) = true → AVal.t (.sc (.int .i64 ((j : Int) % 2))) = .t (.sc (.int .i64 ((j : Int).tmod 2))), (decide (p < (endS a i))) = true → (decide (p < (endS a i))) = true, (decide (p < (endS a i))) = true → (decide (p < (endS a i))) = true, (decide (p < (endS a i))) = true → (decide (p < (endS a i))) = true, (decide (p < (endS a i))) = true → (decide (p < (endS a i))) = true, (decide (p < (endS a i))) = true → callable Try.prog f = true, (decide (p < (endS a i))) = true → FC Try.prog f [.t (.sc (.bool (((i : Int) % 2) == 1))), .t (.sc (.bool (((j : Int) % 2) == 1)))] emp (.t (.sc (.bool (w (((i : Int) % 2) == 1) (((j : Int) % 2) == 1))))) emp, (decide (p < (endS a i))) = true → (decide (p < (endS a i))) = true]) (by kernel_rfl) ?_ ?_
        · -- region 9
          exact ⟨(by first | exact fun h => h | (intro hg; (try simp only [decide_eq_true_eq, decide_eq_false_iff_not, Int.not_lt, Int.not_le] at hg); omega) | (intro _; (first | omega | exact fun h => h | (simp only [List.length_map]; done) | (simp only [List.length_map]; omega) | (simp; omega) | (simp; done)))), (by first | exact fun h => h | (intro hg; (try simp only [decide_eq_true_eq, decide_eq_false_iff_not, Int.not_lt, Int.not_le] at hg); omega) | (intro _; (first | omega | exact fun h => h | (simp only [List.length_map]; done) | (simp only [List.length_map]; omega) | (simp; omega) | (simp; done)))), (fun hg => by (try simp only [decide_eq_true_eq, decide_eq_false_iff_not, Int.not_lt, Int.not_le] at hg); exact (rem_nn (by (first | omega | exact fun h => h | (simp only [List.length_map]; done) | (simp only [List.length_map]; omega) | (simp; omega) | (simp; done))))), (by first | exact fun h => h | (intro hg; (try simp only [decide_eq_true_eq, decide_eq_false_iff_not, Int.not_lt, Int.not_le] at hg); omega) | (intro _; (first | omega | exact fun h => h | (simp only [List.length_map]; done) | (simp only [List.length_map]; omega) | (simp; omega) | (simp; done)))), (by first | exact fun h => h | (intro hg; (try simp only [decide_eq_true_eq, decide_eq_false_iff_not, Int.not_lt, Int.not_le] at hg); omega) | (intro _; (first | omega | exact fun h => h | (simp only [List.length_map]; done) | (simp only [List.length_map]; omega) | (simp; omega) | (simp; done)))), (by first | exact fun h => h | (intro hg; (try simp only [decide_eq_true_eq, decide_eq_false_iff_not, Int.not_lt, Int.not_le] at hg); omega) | (intro _; (first | omega | exact fun h => h | (simp only [List.length_map]; done) | (simp only [List.length_map]; omega) | (simp; omega) | (simp; done)))), (fun hg => by (try simp only [decide_eq_true_eq, decide_eq_false_iff_not, Int.not_lt, Int.not_le] at hg); exact (rem_nn (by (first | omega | exact fun h => h | (simp only [List.length_map]; done) | (simp only [List.length_map]; omega) | (simp; omega) | (simp; done))))), (by first | exact fun h => h | (intro hg; (try simp only [decide_eq_true_eq, decide_eq_false_iff_not, Int.not_lt, Int.not_le] at hg); omega) | (intro _; (first | omega | exact fun h => h | (simp only [List.length_map]; done) | (simp only [List.length_map]; omega) | (simp; omega) | (simp; done)))), (by first | exact fun h => h | (intro hg; (try simp only [decide_eq_true_eq, decide_eq_false_iff_not, Int.not_lt, Int.not_le] at hg); omega) | (intro _; (first | omega | exact fun h => h | (simp only [List.length_map]; done) | (simp only [List.length_map]; omega) | (simp; omega) | (simp; done)))), (by first | exact fun h => h | (intro hg; (try simp only [decide_eq_true_eq, decide_eq_false_iff_not, Int.not_lt, Int.not_le] at hg); omega) | (intro _; (first | omega | exact fun h => h | (simp only [List.length_map]; done) | (simp only [List.length_map]; omega) | (simp; omega) | (simp; done)))), (by first | exact fun h => h | (intro hg; (try simp only [decide_eq_true_eq, decide_eq_false_iff_not, Int.not_lt, Int.not_le] at hg); omega) | (intro _; (first | omega | exact fun h => h | (simp only [List.length_map]; done) | (simp only [List.length_map]; omega) | (simp; omega) | (simp; done)))), (fun hg => by (try simp only [decide_eq_true_eq, decide_eq_false_iff_not, Int.not_lt, Int.not_le] at hg); exact hfc), (fun hg => by (try simp only [decide_eq_true_eq, decide_eq_false_iff_not, Int.not_lt, Int.not_le] at hg); exact (hf (((i : Int) % 2) == 1) (((j : Int) % 2) == 1))), (by (first | omega | exact fun h => h | (simp only [List.length_map]; done) | (simp only [List.length_map]; omega) | (simp; omega) | (simp; done))), trivial⟩
        refine andThen_normal ?_
        refine Sim.cond (b := (decide (p < (endS a i)) && (w (((i : Int) % 2) == 1) (((j : Int) % 2) == 1)))) rfl (fun h9 => ?_) (fun h9 => ?_)
        · (try simp only [decide_eq_true_eq, decide_eq_false_iff_not, Int.not_lt, Int.not_le, Bool.and_eq_true, Bool.and_eq_false_iff, Bool.not_eq_true', Bool.not_eq_false', beq_iff_eq, beq_eq_false_iff_ne, ne_eq] at h9)
          refine Sim.reg (orcs := [(4, ⟨none, none, none, some (⟨2, [40], .row 40 ((addS out ({ fr := p, to := (endS a i) } : Span)).length), [(40, .row 2 false (List.map spanT (addS out ({ fr := p, to := (endS a i) } : Span))))]⟩)⟩)]) (keys := [0, 1, 2, 7, 9, 10, 11]) (τ := [(40, 40)]) (nx := 409)
            (sl := [(0, .t (.lst 2 (List.map spanT a))), (1, .t (.lst 2 (List.map spanT b))), (2, .fn f []), (7, .row 40 ((addS out ({ fr := p, to := (endS a i) } : Span)).length)), (9, .t (.sc (.int .i64 (i : Int)))), (10, .t (.sc (.int .i64 (j : Int)))), (11, .t (.sc (.int .i64 (endS a i))))]) (l := [(40, .row 2 false (List.map spanT (addS out ({ fr := p, to := (endS a i) } : Span))))])
            (C := [callable Try.prog 121 = true, FC Try.prog 121 [.row 40 out.length, .t (spanT ({ fr := p, to := (endS a i) } : Span))] (only (only (app emp [(40, .row 2 false (List.map spanT out))]) [40, 40]) [40]) (.row 40 ((addS out ({ fr := p, to := (endS a i) } : Span)).length)) (app (only (only (app emp [(40, .row 2 false (List.map spanT out))]) [40, 40]) [40]) [(40, .row 2 false (List.map spanT (addS out ({ fr := p, to := (endS a i) } : Span))))])]) (by kernel_rfl) ?_ ?_
          · -- region 10
            exact ⟨(by kernel_rfl), (FC.at (FC.ren (fc_add out ({ fr := p, to := (endS a i) } : Span) (by (first | omega | exact fun h => h | (simp only [List.length_map]; done) | (simp only [List.length_map]; omega) | (simp; omega) | (simp; done)))) [(0, 40)] [(0, 40)] (l0' := [(40, .row 2 false (List.map spanT out))]) (args' := [.row 40 out.length, .t (spanT ({ fr := p, to := (endS a i) } : Span))]) (res' := .row 40 ((addS out ({ fr := p, to := (endS a i) } : Span)).length)) (l1' := [(40, .row 2 false (List.map spanT (addS out ({ fr := p, to := (endS a i) } : Span))))]) (by kernel_rfl) (by kernel_rfl) (by kernel_rfl) (by kernel_rfl) (by kernel_rfl) (by kernel_rfl)) (fun i => by by_cases e0 : i = 40; (subst e0; rfl); simp only [only, app, upd, emp, hasId, cond_false, beq_ne e0, beq_ne (Ne.symm e0)]) (fun i => by by_cases e0 : i = 40; (subst e0; rfl); simp only [only, app, upd, emp, hasId, cond_false, beq_ne e0, beq_ne (Ne.symm e0)])), trivial⟩
          refine andThen_normal ?_
          refine Sim.seq ?_
          refine Sim.reg (orcs := []) (keys := [0, 1, 2, 7, 8, 9, 10]) (τ := [(40, 40)]) (nx := 425)
            (sl := [(0, .t (.lst 2 (List.map spanT a))), (1, .t (.lst 2 (List.map spanT b))), (2, .fn f []), (7, .row 40 ((addS out ({ fr := p, to := (endS a i) } : Span)).length)), (8, .t (.sc (.int .i64 (endS a i)))), (9, .t (.sc (.int .i64 (i : Int)))), (10, .t (.sc (.int .i64 (j : Int))))]) (l := [(40, .row 2 false (List.map spanT (addS out ({ fr := p, to := (endS a i) } : Span))))])
            (C := []) (by kernel_rfl) ?_ ?_
          · -- region 11
            trivial
          refine andThen_normal ?_
          refine Sim.seq ?_
          refine Sim.block ?_
          refine Sim.weaken (Le.ren (τ := [(40, 40)]) (keys := [0, 1, 2, 7, 8, 9, 10]) (nx := 425) (sl := [(0, .t (.lst 2 (List.map spanT a))), (1, .t (.lst 2 (List.map spanT b))), (2, .fn f []), (7, .row 40 ((addS out ({ fr := p, to := (endS a i) } : Span)).length)), (8, .t (.sc (.int .i64 (endS a i)))), (9, .t (.sc (.int .i64 (i : Int)))), (10, .t (.sc (.int .i64 (j : Int))))]) (l := [(40, .row 2 false (List.map spanT (addS out ({ fr := p, to := (endS a i) } : Span))))]) (by kernel_rfl)) ?_
          refine Sim.loop ?_
          refine loop_ind (α := Nat) (fun i1 => ⟨[(0, .t (.lst 2 (List.map spanT a))), (1, .t (.lst 2 (List.map spanT b))), (2, .fn f []), (7, .row 40 ((addS out ({ fr := p, to := (endS a i) } : Span)).length)), (8, .t (.sc (.int .i64 (endS a i)))), (9, .t (.sc (.int .i64 (i1 : Int)))), (10, .t (.sc (.int .i64 (j : Int))))], app emp [(40, .row 2 false (List.map spanT (addS out ({ fr := p, to := (endS a i) } : Span))))], 425⟩) (fun i1 => i ≤ i1 ∧ i1 ≤ 2 * a.length ∧ skipS a i (endS a i) = skipS a i1 (endS a i)) (fun i1 => 2 * a.length - i1) ?_ (i : Nat) ?_
          rotate_left
          · -- loop 12, start
            exact ⟨by omega, by omega, rfl⟩
          rintro i1 I12 ih12
          show LoopSim _ _ _ _ ⟨[(0, .t (.lst 2 (List.map spanT a))), (1, .t (.lst 2 (List.map spanT b))), (2, .fn f []), (7, .row 40 ((addS out ({ fr := p, to := (endS a i) } : Span)).length)), (8, .t (.sc (.int .i64 (endS a i)))), (9, .t (.sc (.int .i64 (i1 : Int)))), (10, .t (.sc (.int .i64 (j : Int))))], app emp [(40, .row 2 false (List.map spanT (addS out ({ fr := p, to := (endS a i) } : Span))))], 425⟩ _
          replace I12 : i ≤ i1 ∧ i1 ≤ 2 * a.length ∧ skipS a i (endS a i) = skipS a i1 (endS a i) := I12
          refine LoopSim.step ?_
          refine Sim.seq ?_
          refine Sim.seq ?_
          refine Sim.reg (orcs := [(2, ⟨some (.t (.sc (.int .i64 (a.length : Int)))), none, none, none⟩), (3, ⟨some (.t (.sc (.int .i64 (2 * (a.length : Int))))), none, none, none⟩), (8, ⟨none, none, none, some (⟨0, [], .t (.sc (.int .i64 (endS a i1))), []⟩)⟩)]) (keys := [0, 1, 2, 7, 8, 9, 10, 72]) (τ := [(40, 40)]) (nx := 521)
            (sl := [(0, .t (.lst 2 (List.map spanT a))), (1, .t (.lst 2 (List.map spanT b))), (2, .fn f []), (7, .row 40 ((addS out ({ fr := p, to := (endS a i) } : Span)).length)), (8, .t (.sc (.int .i64 (endS a i)))), (9, .t (.sc (.int .i64 (i1 : Int)))), (10, .t (.sc (.int .i64 (j : Int)))), (72, .t (.sc (.bool (decide ((i1 : Int) < (2 * (a.length : Int))) && ((endS a i1) == (endS a i))))))]) (l := [(40, .row 2 false (List.map spanT (addS out ({ fr := p, to := (endS a i) } : Span))))])
            (C := [AVal.t (.sc (.int .i64 (a.length : Int))) = .t (.sc (.int .i64 ((List.map spanT a).length : Int))), AVal.t (.sc (.int .i64 (2 * (a.length : Int)))) = .t (.sc (.int .i64 (IntKind.i64.wrap (2 * (a.length : Int))))), (decide ((i1 : Int) < (2 * (a.length : Int)))) = true → (decide ((i1 : Int) < (2 * (a.length : Int)))) = true, (decide ((i1 : Int) < (2 * (a.length : Int)))) = true → (decide ((i1 : Int) < (2 * (a.length : Int)))) = true, (decide ((i1 : Int) < (2 * (a.length : Int)))) = true → callable Try.prog 148 = true, (decide ((i1 : Int) < (2 * (a.length : Int)))) = true → FC Try.prog 148 [.t (.lst 2 (List.map spanT a)), .t (.sc (.int .i64 (i1 : Int)))] emp (.t (.sc (.int .i64 (endS a i1)))) emp, (decide ((i1 : Int) < (2 * (a.length : Int)))) = true → (decide ((i1 : Int) < (2 * (a.length : Int)))) = true, (decide ((i1 : Int) < (2 * (a.length : Int)))) = true → (decide ((i1 : Int) < (2 * (a.length : Int)))) = true, (decide ((i1 : Int) < (2 * (a.length : Int)))) = true → (decide ((i1 : Int) < (2 * (a.length : Int)))) = true]) (by kernel_rfl) ?_ ?_
          · -- region 12
            exact ⟨len_map, (nw (by (first | omega | exact fun h => h | (simp only [List.length_map]; done) | (simp only [List.length_map]; omega) | (simp; omega) | (simp; done)))), (by first | exact fun h => h | (intro hg; (try simp only [decide_eq_true_eq, decide_eq_false_iff_not, Int.not_lt, Int.not_le] at hg); omega) | (intro _; (first | omega | exact fun h => h | (simp only [List.length_map]; done) | (simp only [List.length_map]; omega) | (simp; omega) | (simp; done)))), (by first | exact fun h => h | (intro hg; (try simp only [decide_eq_true_eq, decide_eq_false_iff_not, Int.not_lt, Int.not_le] at hg); omega) | (intro _; (first | omega | exact fun h => h | (simp only [List.length_map]; done) | (simp only [List.length_map]; omega) | (simp; omega) | (simp; done)))), (fun hg => by (try simp only [decide_eq_true_eq, decide_eq_false_iff_not, Int.not_lt, Int.not_le] at hg); exact (by kernel_rfl)), (fun hg => by (try simp only [decide_eq_true_eq, decide_eq_false_iff_not, Int.not_lt, Int.not_le] at hg); exact (fc_end a i1 (by (first | omega | exact fun h => h | (simp only [List.length_map]; done) | (simp only [List.length_map]; omega) | (simp; omega) | (simp; done))) (by (first | omega | exact fun h => h | (simp only [List.length_map]; done) | (simp only [List.length_map]; omega) | (simp; omega) | (simp; done))))), (by first | exact fun h => h | (intro hg; (try simp only [decide_eq_true_eq, decide_eq_false_iff_not, Int.not_lt, Int.not_le] at hg); omega) | (intro _; (first | omega | exact fun h => h | (simp only [List.length_map]; done) | (simp only [List.length_map]; omega) | (simp; omega) | (simp; done)))), (by first | exact fun h => h | (intro hg; (try simp only [decide_eq_true_eq, decide_eq_false_iff_not, Int.not_lt, Int.not_le] at hg); omega) | (intro _; (first | omega | exact fun h => h | (simp only [List.length_map]; done) | (simp only [List.length_map]; omega) | (simp; omega) | (simp; done)))), (by (first | omega | exact fun h => h | (simp only [List.length_map]; done) | (simp only [List.length_map]; omega) | (simp; omega) | (simp; done))), trivial⟩
          refine andThen_normal ?_
          refine Sim.cond (b := (decide ((i1 : Int) < (2 * (a.length : Int))) && ((endS a i1) == (endS a i)))) rfl (fun h12 => ?_) (fun h12 => ?_)
          · (try simp only [decide_eq_true_eq, decide_eq_false_iff_not, Int.not_lt, Int.not_le, Bool.and_eq_true, Bool.and_eq_false_iff, Bool.not_eq_true', Bool.not_eq_false', beq_iff_eq, beq_eq_false_iff_ne, ne_eq] at h12)
            refine Sim.skip ?_
            refine andThen_normal ?_
            refine Sim.block ?_
            refine Sim.reg (orcs := [(1, ⟨some (.t (.sc (.int .i64 ((i1 : Int) + 1)))), none, none, none⟩)]) (keys := [0, 1, 2, 7, 8, 9, 10]) (τ := [(40, 40)]) (nx := 545)
              (sl := [(0, .t (.lst 2 (List.map spanT a))), (1, .t (.lst 2 (List.map spanT b))), (2, .fn f []), (7, .row 40 ((addS out ({ fr := p, to := (endS a i) } : Span)).length)), (8, .t (.sc (.int .i64 (endS a i)))), (9, .t (.sc (.int .i64 ((i1 : Int) + 1)))), (10, .t (.sc (.int .i64 (j : Int))))]) (l := [(40, .row 2 false (List.map spanT (addS out ({ fr := p, to := (endS a i) } : Span))))])
              (C := [AVal.t (.sc (.int .i64 ((i1 : Int) + 1))) = .t (.sc (.int .i64 (IntKind.i64.wrap ((i1 : Int) + 1))))]) (by kernel_rfl) ?_ ?_
            · -- region 13
              exact ⟨(nw (by (first | omega | exact fun h => h | (simp only [List.length_map]; done) | (simp only [List.length_map]; omega) | (simp; omega) | (simp; done)))), trivial⟩
            refine inBlk_normal ?_
            refine andThen_normal ?_
            refine LoopSim.weaken (Le.ren (τ := [(40, 40)]) (keys := [0, 1, 2, 7, 8, 9, 10]) (nx := 425) (sl := [(0, .t (.lst 2 (List.map spanT a))), (1, .t (.lst 2 (List.map spanT b))), (2, .fn f []), (7, .row 40 ((addS out ({ fr := p, to := (endS a i) } : Span)).length)), (8, .t (.sc (.int .i64 (endS a i)))), (9, .t (.sc (.int .i64 (((i1 + 1) : Nat) : Int)))), (10, .t (.sc (.int .i64 (j : Int))))]) (l := [(40, .row 2 false (List.map spanT (addS out ({ fr := p, to := (endS a i) } : Span))))]) (by kernel_rfl)) ?_
            refine ih12 ((i1 + 1) : Nat) ?_ ?_
            · -- back 12.1, invariant
              refine ⟨by omega, by omega, ?_⟩; rw [I12.2.2, skipS.eq_def a i1, if_pos (by omega)]
            · -- back 12.1, measure
              show (_:Nat) < _; (first | omega | exact fun h => h | (simp only [List.length_map]; done) | (simp only [List.length_map]; omega) | (simp; omega) | (simp; done))
          · (try simp only [decide_eq_true_eq, decide_eq_false_iff_not, Int.not_lt, Int.not_le, Bool.and_eq_true, Bool.and_eq_false_iff, Bool.not_eq_true', Bool.not_eq_false', beq_iff_eq, beq_eq_false_iff_ne, ne_eq] at h12)
            refine Sim.exit ?_
            refine andThen_exit ?_
            refine andThen_exit ?_
            refine inBlk_same ?_
            refine andThen_normal ?_
            refine Sim.block ?_
            refine Sim.weaken (Le.ren (τ := [(40, 40)]) (keys := [0, 1, 2, 7, 8, 9, 10]) (nx := 521) (sl := [(0, .t (.lst 2 (List.map spanT a))), (1, .t (.lst 2 (List.map spanT b))), (2, .fn f []), (7, .row 40 ((addS out ({ fr := p, to := (endS a i) } : Span)).length)), (8, .t (.sc (.int .i64 (endS a i)))), (9, .t (.sc (.int .i64 (i1 : Int)))), (10, .t (.sc (.int .i64 (j : Int))))]) (l := [(40, .row 2 false (List.map spanT (addS out ({ fr := p, to := (endS a i) } : Span))))]) (by kernel_rfl)) ?_
            refine Sim.loop ?_
            refine loop_ind (α := Nat) (fun j1 => ⟨[(0, .t (.lst 2 (List.map spanT a))), (1, .t (.lst 2 (List.map spanT b))), (2, .fn f []), (7, .row 40 ((addS out ({ fr := p, to := (endS a i) } : Span)).length)), (8, .t (.sc (.int .i64 (endS a i)))), (9, .t (.sc (.int .i64 (i1 : Int)))), (10, .t (.sc (.int .i64 (j1 : Int))))], app emp [(40, .row 2 false (List.map spanT (addS out ({ fr := p, to := (endS a i) } : Span))))], 521⟩) (fun j1 => j ≤ j1 ∧ j1 ≤ 2 * b.length ∧ skipS b j (endS a i) = skipS b j1 (endS a i)) (fun j1 => 2 * b.length - j1) ?_ (j : Nat) ?_
            rotate_left
            · -- loop 14, start
              exact ⟨by omega, by omega, rfl⟩
            rintro j1 I14 ih14
            show LoopSim _ _ _ _ ⟨[(0, .t (.lst 2 (List.map spanT a))), (1, .t (.lst 2 (List.map spanT b))), (2, .fn f []), (7, .row 40 ((addS out ({ fr := p, to := (endS a i) } : Span)).length)), (8, .t (.sc (.int .i64 (endS a i)))), (9, .t (.sc (.int .i64 (i1 : Int)))), (10, .t (.sc (.int .i64 (j1 : Int))))], app emp [(40, .row 2 false (List.map spanT (addS out ({ fr := p, to := (endS a i) } : Span))))], 521⟩ _
            replace I14 : j ≤ j1 ∧ j1 ≤ 2 * b.length ∧ skipS b j (endS a i) = skipS b j1 (endS a i) := I14
            refine LoopSim.step ?_
            refine Sim.seq ?_
            refine Sim.seq ?_
            refine Sim.reg (orcs := [(2, ⟨some (.t (.sc (.int .i64 (b.length : Int)))), none, none, none⟩), (3, ⟨some (.t (.sc (.int .i64 (2 * (b.length : Int))))), none, none, none⟩), (8, ⟨none, none, none, some (⟨0, [], .t (.sc (.int .i64 (endS b j1))), []⟩)⟩)]) (keys := [0, 1, 2, 7, 8, 9, 10, 86]) (τ := [(40, 40)]) (nx := 617)
              (sl := [(0, .t (.lst 2 (List.map spanT a))), (1, .t (.lst 2 (List.map spanT b))), (2, .fn f []), (7, .row 40 ((addS out ({ fr := p, to := (endS a i) } : Span)).length)), (8, .t (.sc (.int .i64 (endS a i)))), (9, .t (.sc (.int .i64 (i1 : Int)))), (10, .t (.sc (.int .i64 (j1 : Int)))), (86, .t (.sc (.bool (decide ((j1 : Int) < (2 * (b.length : Int))) && ((endS b j1) == (endS a i))))))]) (l := [(40, .row 2 false (List.map spanT (addS out ({ fr := p, to := (endS a i) } : Span))))])
              (C := [AVal.t (.sc (.int .i64 (b.length : Int))) = .t (.sc (.int .i64 ((List.map spanT b).length : Int))), AVal.t (.sc (.int .i64 (2 * (b.length : Int)))) = .t (.sc (.int .i64 (IntKind.i64.wrap (2 * (b.length : Int))))), (decide ((j1 : Int) < (2 * (b.length : Int)))) = true → (decide ((j1 : Int) < (2 * (b.length : Int)))) = true, (decide ((j1 : Int) < (2 * (b.length : Int)))) = true → (decide ((j1 : Int) < (2 * (b.length : Int)))) = true, (decide ((j1 : Int) < (2 * (b.length : Int)))) = true → callable Try.prog 148 = true, (decide ((j1 : Int) < (2 * (b.length : Int)))) = true → FC Try.prog 148 [.t (.lst 2 (List.map spanT b)), .t (.sc (.int .i64 (j1 : Int)))] emp (.t (.sc (.int .i64 (endS b j1)))) emp, (decide ((j1 : Int) < (2 * (b.length : Int)))) = true → (decide ((j1 : Int) < (2 * (b.length : Int)))) = true, (decide ((j1 : Int) < (2 * (b.length : Int)))) = true → (decide ((j1 : Int) < (2 * (b.length : Int)))) = true, (decide ((j1 : Int) < (2 * (b.length : Int)))) = true → (decide ((j1 : Int) < (2 * (b.length : Int)))) = true]) (by kernel_rfl) ?_ ?_
            · -- region 14
              exact ⟨len_map, (nw (by (first | omega | exact fun h => h | (simp only [List.length_map]; done) | (simp only [List.length_map]; omega) | (simp; omega) | (simp; done)))), (by first | exact fun h => h | (intro hg; (try simp only [decide_eq_true_eq, decide_eq_false_iff_not, Int.not_lt, Int.not_le] at hg); omega) | (intro _; (first | omega | exact fun h => h | (simp only [List.length_map]; done) | (simp only [List.length_map]; omega) | (simp; omega) | (simp; done)))), (by first | exact fun h => h | (intro hg; (try simp only [decide_eq_true_eq, decide_eq_false_iff_not, Int.not_lt, Int.not_le] at hg); omega) | (intro _; (first | omega | exact fun h => h | (simp only [List.length_map]; done) | (simp only [List.length_map]; omega) | (simp; omega) | (simp; done)))), (fun hg => by (try simp only [decide_eq_true_eq, decide_eq_false_iff_not, Int.not_lt, Int.not_le] at hg); exact (by kernel_rfl)), (fun hg => by (try simp only [decide_eq_true_eq, decide_eq_false_iff_not, Int.not_lt, Int.not_le] at hg); exact (fc_end b j1 (by (first | omega | exact fun h => h | (simp only [List.length_map]; done) | (simp only [List.length_map]; omega) | (simp; omega) | (simp; done))) (by (first | omega | exact fun h => h | (simp only [List.length_map]; done) | (simp only [List.length_map]; omega) | (simp; omega) | (simp; done))))), (by first | exact fun h => h | (intro hg; (try simp only [decide_eq_true_eq, decide_eq_false_iff_not, Int.not_lt, Int.not_le] at hg); omega) | (intro _; (first | omega | exact fun h => h | (simp only [List.length_map]; done) | (simp only [List.length_map]; omega) | (simp; omega) | (simp; done)))), (by first | exact fun h => h | (intro hg; (try simp only [decide_eq_true_eq, decide_eq_false_iff_not, Int.not_lt, Int.not_le] at hg); omega) | (intro _; (first | omega | exact fun h => h | (simp only [List.length_map]; done) | (simp only [List.length_map]; omega) | (simp; omega) | (simp; done)))), (by (first | omega | exact fun h => h | (simp only [List.length_map]; done) | (simp only [List.length_map]; omega) | (simp; omega) | (simp; done))), trivial⟩
            refine andThen_normal ?_
            refine Sim.cond (b := (decide ((j1 : Int) < (2 * (b.length : Int))) && ((endS b j1) == (endS a i)))) rfl (fun h14 => ?_) (fun h14 => ?_)
            · (try simp only [decide_eq_true_eq, decide_eq_false_iff_not, Int.not_lt, Int.not_le, Bool.and_eq_true, Bool.and_eq_false_iff, Bool.not_eq_true', Bool.not_eq_false', beq_iff_eq, beq_eq_false_iff_ne, ne_eq] at h14)
              refine Sim.skip ?_
              refine andThen_normal ?_
              refine Sim.block ?_
              refine Sim.reg (orcs := [(1, ⟨some (.t (.sc (.int .i64 ((j1 : Int) + 1)))), none, none, none⟩)]) (keys := [0, 1, 2, 7, 8, 9, 10]) (τ := [(40, 40)]) (nx := 641)
                (sl := [(0, .t (.lst 2 (List.map spanT a))), (1, .t (.lst 2 (List.map spanT b))), (2, .fn f []), (7, .row 40 ((addS out ({ fr := p, to := (endS a i) } : Span)).length)), (8, .t (.sc (.int .i64 (endS a i)))), (9, .t (.sc (.int .i64 (i1 : Int)))), (10, .t (.sc (.int .i64 ((j1 : Int) + 1))))]) (l := [(40, .row 2 false (List.map spanT (addS out ({ fr := p, to := (endS a i) } : Span))))])
                (C := [AVal.t (.sc (.int .i64 ((j1 : Int) + 1))) = .t (.sc (.int .i64 (IntKind.i64.wrap ((j1 : Int) + 1))))]) (by kernel_rfl) ?_ ?_
              · -- region 15
                exact ⟨(nw (by (first | omega | exact fun h => h | (simp only [List.length_map]; done) | (simp only [List.length_map]; omega) | (simp; omega) | (simp; done)))), trivial⟩
              refine inBlk_normal ?_
              refine andThen_normal ?_
              refine LoopSim.weaken (Le.ren (τ := [(40, 40)]) (keys := [0, 1, 2, 7, 8, 9, 10]) (nx := 521) (sl := [(0, .t (.lst 2 (List.map spanT a))), (1, .t (.lst 2 (List.map spanT b))), (2, .fn f []), (7, .row 40 ((addS out ({ fr := p, to := (endS a i) } : Span)).length)), (8, .t (.sc (.int .i64 (endS a i)))), (9, .t (.sc (.int .i64 (i1 : Int)))), (10, .t (.sc (.int .i64 (((j1 + 1) : Nat) : Int))))]) (l := [(40, .row 2 false (List.map spanT (addS out ({ fr := p, to := (endS a i) } : Span))))]) (by kernel_rfl)) ?_
              refine ih14 ((j1 + 1) : Nat) ?_ ?_
              · -- back 14.1, invariant
                refine ⟨by omega, by omega, ?_⟩; rw [I14.2.2, skipS.eq_def b j1, if_pos (by omega)]
              · -- back 14.1, measure
                show (_:Nat) < _; (first | omega | exact fun h => h | (simp only [List.length_map]; done) | (simp only [List.length_map]; omega) | (simp; omega) | (simp; done))
            · (try simp only [decide_eq_true_eq, decide_eq_false_iff_not, Int.not_lt, Int.not_le, Bool.and_eq_true, Bool.and_eq_false_iff, Bool.not_eq_true', Bool.not_eq_false', beq_iff_eq, beq_eq_false_iff_ne, ne_eq] at h14)
              refine Sim.exit ?_
              refine andThen_exit ?_
              refine andThen_exit ?_
              refine inBlk_same ?_
              refine inBlk_normal ?_
              refine andThen_normal ?_
              refine LoopSim.weaken (Le.ren (τ := [(40, 40)]) (keys := [0, 1, 2, 7, 8, 9, 10]) (nx := 41) (sl := [(0, .t (.lst 2 (List.map spanT a))), (1, .t (.lst 2 (List.map spanT b))), (2, .fn f []), (7, .row 40 ((addS out ({ fr := p, to := (endS a i) } : Span)).length)), (8, .t (.sc (.int .i64 (endS a i)))), (9, .t (.sc (.int .i64 (i1 : Int)))), (10, .t (.sc (.int .i64 (j1 : Int))))]) (l := [(40, .row 2 false (List.map spanT (addS out ({ fr := p, to := (endS a i) } : Span))))]) (by kernel_rfl)) ?_
              have hn : nextS a b i j = (endS a i) := by unfold nextS; ((repeat' split) <;> first | rfl | omega | (simp_all; done) | (simp_all; omega))
              have hi : skipS a i1 (endS a i) = i1 := by rw [skipS.eq_def, if_neg (by omega)]
              have hj : skipS b j1 (endS a i) = j1 := by rw [skipS.eq_def, if_neg (by omega)]
              have hp := skip_prog a b i j (by omega) hb
              have hs := mergeS_step w a b out p i j (by omega) hb
              rw [hn, I12.2.2, hi, I14.2.2, hj] at hs hp
              simp only [mod2] at h9
              have hl := addS_len out ⟨p, (endS a i)⟩
              refine ih3 ((endS a i), i1, j1, (addS out ({ fr := p, to := (endS a i) } : Span))) ?_ ?_
              · -- back 3.3, invariant
                refine ⟨by omega, by omega, by omega, ?_⟩
                rw [I3.2.2.2, hs]
                first | rw [if_pos h9] | rw [if_neg (fun hh => by rcases h9 with h9 | h9; omega; exact absurd hh.2 (by rw [h9]; decide))]
              · -- back 3.3, measure
                show (_:Nat) < _; (first | omega | exact fun h => h | (simp only [List.length_map]; done) | (simp only [List.length_map]; omega) | (simp; omega) | (simp; done))
        · (try simp only [decide_eq_true_eq, decide_eq_false_iff_not, Int.not_lt, Int.not_le, Bool.and_eq_true, Bool.and_eq_false_iff, Bool.not_eq_true', Bool.not_eq_false', beq_iff_eq, beq_eq_false_iff_ne, ne_eq] at h9)
          refine Sim.skip ?_
          refine andThen_normal ?_
          refine Sim.seq ?_
          refine Sim.reg (orcs := []) (keys := [0, 1, 2, 7, 8, 9, 10]) (τ := [(40, 40)]) (nx := 377)
            (sl := [(0, .t (.lst 2 (List.map spanT a))), (1, .t (.lst 2 (List.map spanT b))), (2, .fn f []), (7, .row 40 out.length), (8, .t (.sc (.int .i64 (endS a i)))), (9, .t (.sc (.int .i64 (i : Int)))), (10, .t (.sc (.int .i64 (j : Int))))]) (l := [(40, .row 2 false (List.map spanT out))])
            (C := []) (by kernel_rfl) ?_ ?_
          · -- region 11
            trivial
          refine andThen_normal ?_
          refine Sim.seq ?_
          refine Sim.block ?_
          refine Sim.weaken (Le.ren (τ := [(40, 40)]) (keys := [0, 1, 2, 7, 8, 9, 10]) (nx := 377) (sl := [(0, .t (.lst 2 (List.map spanT a))), (1, .t (.lst 2 (List.map spanT b))), (2, .fn f []), (7, .row 40 out.length), (8, .t (.sc (.int .i64 (endS a i)))), (9, .t (.sc (.int .i64 (i : Int)))), (10, .t (.sc (.int .i64 (j : Int))))]) (l := [(40, .row 2 false (List.map spanT out))]) (by kernel_rfl)) ?_
          refine Sim.loop ?_
          refine loop_ind (α := Nat) (fun i1 => ⟨[(0, .t (.lst 2 (List.map spanT a))), (1, .t (.lst 2 (List.map spanT b))), (2, .fn f []), (7, .row 40 out.length), (8, .t (.sc (.int .i64 (endS a i)))), (9, .t (.sc (.int .i64 (i1 : Int)))), (10, .t (.sc (.int .i64 (j : Int))))], app emp [(40, .row 2 false (List.map spanT out))], 377⟩) (fun i1 => i ≤ i1 ∧ i1 ≤ 2 * a.length ∧ skipS a i (endS a i) = skipS a i1 (endS a i)) (fun i1 => 2 * a.length - i1) ?_ (i : Nat) ?_
          rotate_left
          · -- loop 12, start
            exact ⟨by omega, by omega, rfl⟩
          rintro i1 I12 ih12
          show LoopSim _ _ _ _ ⟨[(0, .t (.lst 2 (List.map spanT a))), (1, .t (.lst 2 (List.map spanT b))), (2, .fn f []), (7, .row 40 out.length), (8, .t (.sc (.int .i64 (endS a i)))), (9, .t (.sc (.int .i64 (i1 : Int)))), (10, .t (.sc (.int .i64 (j : Int))))], app emp [(40, .row 2 false (List.map spanT out))], 377⟩ _
          replace I12 : i ≤ i1 ∧ i1 ≤ 2 * a.length ∧ skipS a i (endS a i) = skipS a i1 (endS a i) := I12
          refine LoopSim.step ?_
          refine Sim.seq ?_
          refine Sim.seq ?_
          refine Sim.reg (orcs := [(2, ⟨some (.t (.sc (.int .i64 (a.length : Int)))), none, none, none⟩), (3, ⟨some (.t (.sc (.int .i64 (2 * (a.length : Int))))), none, none, none⟩), (8, ⟨none, none, none, some (⟨0, [], .t (.sc (.int .i64 (endS a i1))), []⟩)⟩)]) (keys := [0, 1, 2, 7, 8, 9, 10, 72]) (τ := [(40, 40)]) (nx := 473)
            (sl := [(0, .t (.lst 2 (List.map spanT a))), (1, .t (.lst 2 (List.map spanT b))), (2, .fn f []), (7, .row 40 out.length), (8, .t (.sc (.int .i64 (endS a i)))), (9, .t (.sc (.int .i64 (i1 : Int)))), (10, .t (.sc (.int .i64 (j : Int)))), (72, .t (.sc (.bool (decide ((i1 : Int) < (2 * (a.length : Int))) && ((endS a i1) == (endS a i))))))]) (l := [(40, .row 2 false (List.map spanT out))])
            (C := [AVal.t (.sc (.int .i64 (a.length : Int))) = .t (.sc (.int .i64 ((List.map spanT a).length : Int))), AVal.t (.sc (.int .i64 (2 * (a.length : Int)))) = .t (.sc (.int .i64 (IntKind.i64.wrap (2 * (a.length : Int))))), (decide ((i1 : Int) < (2 * (a.length : Int)))) = true → (decide ((i1 : Int) < (2 * (a.length : Int)))) = true, (decide ((i1 : Int) < (2 * (a.length : Int)))) = true → (decide ((i1 : Int) < (2 * (a.length : Int)))) = true, (decide ((i1 : Int) < (2 * (a.length : Int)))) = true → callable Try.prog 148 = true, (decide ((i1 : Int) < (2 * (a.length : Int)))) = true → FC Try.prog 148 [.t (.lst 2 (List.map spanT a)), .t (.sc (.int .i64 (i1 : Int)))] emp (.t (.sc (.int .i64 (endS a i1)))) emp, (decide ((i1 : Int) < (2 * (a.length : Int)))) = true → (decide ((i1 : Int) < (2 * (a.length : Int)))) = true, (decide ((i1 : Int) < (2 * (a.length : Int)))) = true → (decide ((i1 : Int) < (2 * (a.length : Int)))) = true, (decide ((i1 : Int) < (2 * (a.length : Int)))) = true → (decide ((i1 : Int) < (2 * (a.length : Int)))) = true]) (by kernel_rfl) ?_ ?_
          · -- region 12
            exact ⟨len_map, (nw (by (first | omega | exact fun h => h | (simp only [List.length_map]; done) | (simp only [List.length_map]; omega) | (simp; omega) | (simp; done)))), (by first | exact fun h => h | (intro hg; (try simp only [decide_eq_true_eq, decide_eq_false_iff_not, Int.not_lt, Int.not_le] at hg); omega) | (intro _; (first | omega | exact fun h => h | (simp only [List.length_map]; done) | (simp only [List.length_map]; omega) | (simp; omega) | (simp; done)))), (by first | exact fun h => h | (intro hg; (try simp only [decide_eq_true_eq, decide_eq_false_iff_not, Int.not_lt, Int.not_le] at hg); omega) | (intro _; (first | omega | exact fun h => h | (simp only [List.length_map]; done) | (simp only [List.length_map]; omega) | (simp; omega) | (simp; done)))), (fun hg => by (try simp only [decide_eq_true_eq, decide_eq_false_iff_not, Int.not_lt, Int.not_le] at hg); exact (by kernel_rfl)), (fun hg => by (try simp only [decide_eq_true_eq, decide_eq_false_iff_not, Int.not_lt, Int.not_le] at hg); exact (fc_end a i1 (by (first | omega | exact fun h => h | (simp only [List.length_map]; done) | (simp only [List.length_map]; omega) | (simp; omega) | (simp; done))) (by (first | omega | exact fun h => h | (simp only [List.length_map]; done) | (simp only [List.length_map]; omega) | (simp; omega) | (simp; done))))), (by first | exact fun h => h | (intro hg; (try simp only [decide_eq_true_eq, decide_eq_false_iff_not, Int.not_lt, Int.not_le] at hg); omega) | (intro _; (first | omega | exact fun h => h | (simp only [List.length_map]; done) | (simp only [List.length_map]; omega) | (simp; omega) | (simp; done)))), (by first | exact fun h => h | (intro hg; (try simp only [decide_eq_true_eq, decide_eq_false_iff_not, Int.not_lt, Int.not_le] at hg); omega) | (intro _; (first | omega | exact fun h => h | (simp only [List.length_map]; done) | (simp only [List.length_map]; omega) | (simp; omega) | (simp; done)))), (by (first | omega | exact fun h => h | (simp only [List.length_map]; done) | (simp only [List.length_map]; omega) | (simp; omega) | (simp; done))), trivial⟩
          refine andThen_normal ?_
          refine Sim.cond (b := (decide ((i1 : Int) < (2 * (a.length : Int))) && ((endS a i1) == (endS a i)))) rfl (fun h12 => ?_) (fun h12 => ?_)
          · (try simp only [decide_eq_true_eq, decide_eq_false_iff_not, Int.not_lt, Int.not_le, Bool.and_eq_true, Bool.and_eq_false_iff, Bool.not_eq_true', Bool.not_eq_false', beq_iff_eq, beq_eq_false_iff_ne, ne_eq] at h12)
            refine Sim.skip ?_
            refine andThen_normal ?_
            refine Sim.block ?_
            refine Sim.reg (orcs := [(1, ⟨some (.t (.sc (.int .i64 ((i1 : Int) + 1)))), none, none, none⟩)]) (keys := [0, 1, 2, 7, 8, 9, 10]) (τ := [(40, 40)]) (nx := 497)
              (sl := [(0, .t (.lst 2 (List.map spanT a))), (1, .t (.lst 2 (List.map spanT b))), (2, .fn f []), (7, .row 40 out.length), (8, .t (.sc (.int .i64 (endS a i)))), (9, .t (.sc (.int .i64 ((i1 : Int) + 1)))), (10, .t (.sc (.int .i64 (j : Int))))]) (l := [(40, .row 2 false (List.map spanT out))])
              (C := [AVal.t (.sc (.int .i64 ((i1 : Int) + 1))) = .t (.sc (.int .i64 (IntKind.i64.wrap ((i1 : Int) + 1))))]) (by kernel_rfl) ?_ ?_
            · -- region 13
              exact ⟨(nw (by (first | omega | exact fun h => h | (simp only [List.length_map]; done) | (simp only [List.length_map]; omega) | (simp; omega) | (simp; done)))), trivial⟩
            refine inBlk_normal ?_
            refine andThen_normal ?_
            refine LoopSim.weaken (Le.ren (τ := [(40, 40)]) (keys := [0, 1, 2, 7, 8, 9, 10]) (nx := 377) (sl := [(0, .t (.lst 2 (List.map spanT a))), (1, .t (.lst 2 (List.map spanT b))), (2, .fn f []), (7, .row 40 out.length), (8, .t (.sc (.int .i64 (endS a i)))), (9, .t (.sc (.int .i64 (((i1 + 1) : Nat) : Int)))), (10, .t (.sc (.int .i64 (j : Int))))]) (l := [(40, .row 2 false (List.map spanT out))]) (by kernel_rfl)) ?_
            refine ih12 ((i1 + 1) : Nat) ?_ ?_
            · -- back 12.1, invariant
              refine ⟨by omega, by omega, ?_⟩; rw [I12.2.2, skipS.eq_def a i1, if_pos (by omega)]
            · -- back 12.1, measure
              show (_:Nat) < _; (first | omega | exact fun h => h | (simp only [List.length_map]; done) | (simp only [List.length_map]; omega) | (simp; omega) | (simp; done))
          · (try simp only [decide_eq_true_eq, decide_eq_false_iff_not, Int.not_lt, Int.not_le, Bool.and_eq_true, Bool.and_eq_false_iff, Bool.not_eq_true', Bool.not_eq_false', beq_iff_eq, beq_eq_false_iff_ne, ne_eq] at h12)
            refine Sim.exit ?_
            refine andThen_exit ?_
            refine andThen_exit ?_
            refine inBlk_same ?_
            refine andThen_normal ?_
            refine Sim.block ?_
            refine Sim.weaken (Le.ren (τ := [(40, 40)]) (keys := [0, 1, 2, 7, 8, 9, 10]) (nx := 473) (sl := [(0, .t (.lst 2 (List.map spanT a))), (1, .t (.lst 2 (List.map spanT b))), (2, .fn f []), (7, .row 40 out.length), (8, .t (.sc (.int .i64 (endS a i)))), (9, .t (.sc (.int .i64 (i1 : Int)))), (10, .t (.sc (.int .i64 (j : Int))))]) (l := [(40, .row 2 false (List.map spanT out))]) (by kernel_rfl)) ?_
            refine Sim.loop ?_
            refine loop_ind (α := Nat) (fun j1 => ⟨[(0, .t (.lst 2 (List.map spanT a))), (1, .t (.lst 2 (List.map spanT b))), (2, .fn f []), (7, .row 40 out.length), (8, .t (.sc (.int .i64 (endS a i)))), (9, .t (.sc (.int .i64 (i1 : Int)))), (10, .t (.sc (.int .i64 (j1 : Int))))], app emp [(40, .row 2 false (List.map spanT out))], 473⟩) (fun j1 => j ≤ j1 ∧ j1 ≤ 2 * b.length ∧ skipS b j (endS a i) = skipS b j1 (endS a i)) (fun j1 => 2 * b.length - j1) ?_ (j : Nat) ?_
            rotate_left
            · -- loop 14, start
              exact ⟨by omega, by omega, rfl⟩
            rintro j1 I14 ih14
            show LoopSim _ _ _ _ ⟨[(0, .t (.lst 2 (List.map spanT a))), (1, .t (.lst 2 (List.map spanT b))), (2, .fn f []), (7, .row 40 out.length), (8, .t (.sc (.int .i64 (endS a i)))), (9, .t (.sc (.int .i64 (i1 : Int)))), (10, .t (.sc (.int .i64 (j1 : Int))))], app emp [(40, .row 2 false (List.map spanT out))], 473⟩ _
            replace I14 : j ≤ j1 ∧ j1 ≤ 2 * b.length ∧ skipS b j (endS a i) = skipS b j1 (endS a i) := I14
            refine LoopSim.step ?_
            refine Sim.seq ?_
            refine Sim.seq ?_
            refine Sim.reg (orcs := [(2, ⟨some (.t (.sc (.int .i64 (b.length : Int)))), none, none, none⟩), (3, ⟨some (.t (.sc (.int .i64 (2 * (b.length : Int))))), none, none, none⟩), (8, ⟨none, none, none, some (⟨0, [], .t (.sc (.int .i64 (endS b j1))), []⟩)⟩)]) (keys := [0, 1, 2, 7, 8, 9, 10, 86]) (τ := [(40, 40)]) (nx := 569)
              (sl := [(0, .t (.lst 2 (List.map spanT a))), (1, .t (.lst 2 (List.map spanT b))), (2, .fn f []), (7, .row 40 out.length), (8, .t (.sc (.int .i64 (endS a i)))), (9, .t (.sc (.int .i64 (i1 : Int)))), (10, .t (.sc (.int .i64 (j1 : Int)))), (86, .t (.sc (.bool (decide ((j1 : Int) < (2 * (b.length : Int))) && ((endS b j1) == (endS a i))))))]) (l := [(40, .row 2 false (List.map spanT out))])
              (C := [AVal.t (.sc (.int .i64 (b.length : Int))) = .t (.sc (.int .i64 ((List.map spanT b).length : Int))), AVal.t (.sc (.int .i64 (2 * (b.length : Int)))) = .t (.sc (.int .i64 (IntKind.i64.wrap (2 * (b.length : Int))))), (decide ((j1 : Int) < (2 * (b.length : Int)))) = true → (decide ((j1 : Int) < (2 * (b.length : Int)))) = true, (decide ((j1 : Int) < (2 * (b.length : Int)))) = true → (decide ((j1 : Int) < (2 * (b.length : Int)))) = true, (decide ((j1 : Int) < (2 * (b.length : Int)))) = true → callable Try.prog 148 = true, (decide ((j1 : Int) < (2 * (b.length : Int)))) = true → FC Try.prog 148 [.t (.lst 2 (List.map spanT b)), .t (.sc (.int .i64 (j1 : Int)))] emp (.t (.sc (.int .i64 (endS b j1)))) emp, (decide ((j1 : Int) < (2 * (b.length : Int)))) = true → (decide ((j1 : Int) < (2 * (b.length : Int)))) = true, (decide ((j1 : Int) < (2 * (b.length : Int)))) = true → (decide ((j1 : Int) < (2 * (b.length : Int)))) = true, (decide ((j1 : Int) < (2 * (b.length : Int)))) = true → (decide ((j1 : Int) < (2 * (b.length : Int)))) = true]) (by kernel_rfl) ?_ ?_
            · -- region 14
              exact ⟨len_map, (nw (by (first | omega | exact fun h => h | (simp only [List.length_map]; done) | (simp only [List.length_map]; omega) | (simp; omega) | (simp; done)))), (by first | exact fun h => h | (intro hg; (try simp only [decide_eq_true_eq, decide_eq_false_iff_not, Int.not_lt, Int.not_le] at hg); omega) | (intro _; (first | omega | exact fun h => h | (simp only [List.length_map]; done) | (simp only [List.length_map]; omega) | (simp; omega) | (simp; done)))), (by first | exact fun h => h | (intro hg; (try simp only [decide_eq_true_eq, decide_eq_false_iff_not, Int.not_lt, Int.not_le] at hg); omega) | (intro _; (first | omega | exact fun h => h | (simp only [List.length_map]; done) | (simp only [List.length_map]; omega) | (simp; omega) | (simp; done)))), (fun hg => by (try simp only [decide_eq_true_eq, decide_eq_false_iff_not, Int.not_lt, Int.not_le] at hg); exact (by kernel_rfl)), (fun hg => by (try simp only [decide_eq_true_eq, decide_eq_false_iff_not, Int.not_lt, Int.not_le] at hg); exact (fc_end b j1 (by (first | omega | exact fun h => h | (simp only [List.length_map]; done) | (simp only [List.length_map]; omega) | (simp; omega) | (simp; done))) (by (first | omega | exact fun h => h | (simp only [List.length_map]; done) | (simp only [List.length_map]; omega) | (simp; omega) | (simp; done))))), (by first | exact fun h => h | (intro hg; (try simp only [decide_eq_true_eq, decide_eq_false_iff_not, Int.not_lt, Int.not_le] at hg); omega) | (intro _; (first | omega | exact fun h => h | (simp only [List.length_map]; done) | (simp only [List.length_map]; omega) | (simp; omega) | (simp; done)))), (by first | exact fun h => h | (intro hg; (try simp only [decide_eq_true_eq, decide_eq_false_iff_not, Int.not_lt, Int.not_le] at hg); omega) | (intro _; (first | omega | exact fun h => h | (simp only [List.length_map]; done) | (simp only [List.length_map]; omega) | (simp; omega) | (simp; done)))), (by (first | omega | exact fun h => h | (simp only [List.length_map]; done) | (simp only [List.length_map]; omega) | (simp; omega) | (simp; done))), trivial⟩
            refine andThen_normal ?_
            refine Sim.cond (b := (decide ((j1 : Int) < (2 * (b.length : Int))) && ((endS b j1) == (endS a i)))) rfl (fun h14 => ?_) (fun h14 => ?_)
            · (try simp only [decide_eq_true_eq, decide_eq_false_iff_not, Int.not_lt, Int.not_le, Bool.and_eq_true, Bool.and_eq_false_iff, Bool.not_eq_true', Bool.not_eq_false', beq_iff_eq, beq_eq_false_iff_ne, ne_eq] at h14)
              refine Sim.skip ?_
              refine andThen_normal ?_
              refine Sim.block ?_
              refine Sim.reg (orcs := [(1, ⟨some (.t (.sc (.int .i64 ((j1 : Int) + 1)))), none, none, none⟩)]) (keys := [0, 1, 2, 7, 8, 9, 10]) (τ := [(40, 40)]) (nx := 593)
                (sl := [(0, .t (.lst 2 (List.map spanT a))), (1, .t (.lst 2 (List.map spanT b))), (2, .fn f []), (7, .row 40 out.length), (8, .t (.sc (.int .i64 (endS a i)))), (9, .t (.sc (.int .i64 (i1 : Int)))), (10, .t (.sc (.int .i64 ((j1 : Int) + 1))))]) (l := [(40, .row 2 false (List.map spanT out))])
                (C := [AVal.t (.sc (.int .i64 ((j1 : Int) + 1))) = .t (.sc (.int .i64 (IntKind.i64.wrap ((j1 : Int) + 1))))]) (by kernel_rfl) ?_ ?_
              · -- region 15
                exact ⟨(nw (by (first | omega | exact fun h => h | (simp only [List.length_map]; done) | (simp only [List.length_map]; omega) | (simp; omega) | (simp; done)))), trivial⟩
              refine inBlk_normal ?_
              refine andThen_normal ?_
              refine LoopSim.weaken (Le.ren (τ := [(40, 40)]) (keys := [0, 1, 2, 7, 8, 9, 10]) (nx := 473) (sl := [(0, .t (.lst 2 (List.map spanT a))), (1, .t (.lst 2 (List.map spanT b))), (2, .fn f []), (7, .row 40 out.length), (8, .t (.sc (.int .i64 (endS a i)))), (9, .t (.sc (.int .i64 (i1 : Int)))), (10, .t (.sc (.int .i64 (((j1 + 1) : Nat) : Int))))]) (l := [(40, .row 2 false (List.map spanT out))]) (by kernel_rfl)) ?_
              refine ih14 ((j1 + 1) : Nat) ?_ ?_
              · -- back 14.1, invariant
                refine ⟨by omega, by omega, ?_⟩; rw [I14.2.2, skipS.eq_def b j1, if_pos (by omega)]
              · -- back 14.1, measure
                show (_:Nat) < _; (first | omega | exact fun h => h | (simp only [List.length_map]; done) | (simp only [List.length_map]; omega) | (simp; omega) | (simp; done))
            · (try simp only [decide_eq_true_eq, decide_eq_false_iff_not, Int.not_lt, Int.not_le, Bool.and_eq_true, Bool.and_eq_false_iff, Bool.not_eq_true', Bool.not_eq_false', beq_iff_eq, beq_eq_false_iff_ne, ne_eq] at h14)
              refine Sim.exit ?_
              refine andThen_exit ?_
              refine andThen_exit ?_
              refine inBlk_same ?_
              refine inBlk_normal ?_
              refine andThen_normal ?_
              refine LoopSim.weaken (Le.ren (τ := [(40, 40)]) (keys := [0, 1, 2, 7, 8, 9, 10]) (nx := 41) (sl := [(0, .t (.lst 2 (List.map spanT a))), (1, .t (.lst 2 (List.map spanT b))), (2, .fn f []), (7, .row 40 out.length), (8, .t (.sc (.int .i64 (endS a i)))), (9, .t (.sc (.int .i64 (i1 : Int)))), (10, .t (.sc (.int .i64 (j1 : Int))))]) (l := [(40, .row 2 false (List.map spanT out))]) (by kernel_rfl)) ?_
              have hn : nextS a b i j = (endS a i) := by unfold nextS; ((repeat' split) <;> first | rfl | omega | (simp_all; done) | (simp_all; omega))
              have hi : skipS a i1 (endS a i) = i1 := by rw [skipS.eq_def, if_neg (by omega)]
              have hj : skipS b j1 (endS a i) = j1 := by rw [skipS.eq_def, if_neg (by omega)]
              have hp := skip_prog a b i j (by omega) hb
              have hs := mergeS_step w a b out p i j (by omega) hb
              rw [hn, I12.2.2, hi, I14.2.2, hj] at hs hp
              simp only [mod2] at h9
              have hl := addS_len out ⟨p, (endS a i)⟩
              refine ih3 ((endS a i), i1, j1, out) ?_ ?_
              · -- back 3.4, invariant
                refine ⟨by omega, by omega, by omega, ?_⟩
                rw [I3.2.2.2, hs]
                first | rw [if_pos h9] | rw [if_neg (fun hh => by rcases h9 with h9 | h9; omega; exact absurd hh.2 (by rw [h9]; decide))]
              · -- back 3.4, measure
                show (_:Nat) < _; (first | omega | exact fun h => h | (simp only [List.length_map]; done) | (simp only [List.length_map]; omega) | (simp; omega) | (simp; done))
    · (try simp only [decide_eq_true_eq, decide_eq_false_iff_not, Int.not_lt, Int.not_le] at h5)
      refine Sim.skip ?_
      refine andThen_normal ?_
      refine Sim.seq ?_
      refine Sim.seq ?_
      refine Sim.reg (orcs := [(2, ⟨some (.t (.sc (.int .i64 (b.length : Int)))), none, none, none⟩), (3, ⟨some (.t (.sc (.int .i64 (2 * (b.length : Int))))), none, none, none⟩)]) (keys := [0, 1, 2, 7, 8, 9, 10, 11, 36]) (τ := [(40, 40)]) (nx := 225)
        (sl := [(0, .t (.lst 2 (List.map spanT a))), (1, .t (.lst 2 (List.map spanT b))), (2, .fn f []), (7, .row 40 out.length), (8, .t (.sc (.int .i64 p))), (9, .t (.sc (.int .i64 (i : Int)))), (10, .t (.sc (.int .i64 (j : Int)))), (11, .t (.sc (.int .i64 2147483648))), (36, .t (.sc (.bool (decide ((j : Int) < (2 * (b.length : Int)))))))]) (l := [(40, .row 2 false (List.map spanT out))])
        (C := [AVal.t (.sc (.int .i64 (b.length : Int))) = .t (.sc (.int .i64 ((List.map spanT b).length : Int))), AVal.t (.sc (.int .i64 (2 * (b.length : Int)))) = .t (.sc (.int .i64 (IntKind.i64.wrap (2 * (b.length : Int)))))]) (by kernel_rfl) ?_ ?_
      · -- region 7
        exact ⟨len_map, (nw (by (first | omega | exact fun h => h | (simp only [List.length_map]; done) | (simp only [List.length_map]; omega) | (simp; omega) | (simp; done)))), trivial⟩
      refine andThen_normal ?_
      refine Sim.cond (b := decide ((j : Int) < (2 * (b.length : Int)))) rfl (fun h7 => ?_) (fun h7 => ?_)
      · (try simp only [decide_eq_true_eq, decide_eq_false_iff_not, Int.not_lt, Int.not_le] at h7)
        refine Sim.reg (orcs := [(3, ⟨none, none, none, some (⟨0, [], .t (.sc (.int .i64 (endS b j))), []⟩)⟩), (4, ⟨some (.t (.sc (.int .i64 (min 2147483648 (endS b j))))), none, none, none⟩)]) (keys := [0, 1, 2, 7, 8, 9, 10, 11]) (τ := [(40, 40)]) (nx := 273)
          (sl := [(0, .t (.lst 2 (List.map spanT a))), (1, .t (.lst 2 (List.map spanT b))), (2, .fn f []), (7, .row 40 out.length), (8, .t (.sc (.int .i64 p))), (9, .t (.sc (.int .i64 (i : Int)))), (10, .t (.sc (.int .i64 (j : Int)))), (11, .t (.sc (.int .i64 (min 2147483648 (endS b j)))))]) (l := [(40, .row 2 false (List.map spanT out))])
          (C := [callable Try.prog 148 = true, FC Try.prog 148 [.t (.lst 2 (List.map spanT b)), .t (.sc (.int .i64 (j : Int)))] emp (.t (.sc (.int .i64 (endS b j)))) emp, AVal.t (.sc (.int .i64 (min 2147483648 (endS b j)))) = .t (.sc (.int .i64 (if (endS b j) < 2147483648 then (endS b j) else 2147483648)))]) (by kernel_rfl) ?_ ?_
        · -- region 8
          exact ⟨(by kernel_rfl), (fc_end b j (by (first | omega | exact fun h => h | (simp only [List.length_map]; done) | (simp only [List.length_map]; omega) | (simp; omega) | (simp; done))) (by (first | omega | exact fun h => h | (simp only [List.length_map]; done) | (simp only [List.length_map]; omega) | (simp; omega) | (simp; done)))), min_if, trivial⟩
        refine andThen_normal ?_
        refine Sim.seq ?_
        refine Sim.seq ?_
        refine Sim.reg (orcs := [(6, ⟨some (.t (.sc (.int .i64 ((i : Int) % 2)))), none, none, none⟩), (9, ⟨some (.t (.sc (.int .i64 ((j : Int) % 2)))), none, none, none⟩), (11, ⟨none, none, none, some (⟨0, [], .t (.sc (.bool (w (((i : Int) % 2) == 1) (((j : Int) % 2) == 1)))), []⟩)⟩)]) (keys := [0, 1, 2, 7, 8, 9, 10, 11, 54]) (τ := [(40, 40)]) (nx := 377)
          (sl := [(0, .t (.lst 2 (List.map spanT a))), (1, .t (.lst 2 (List.map spanT b))), (2, .fn f []), (7, .row 40 out.length), (8, .t (.sc (.int .i64 p))), (9, .t (.sc (.int .i64 (i : Int)))), (10, .t (.sc (.int .i64 (j : Int)))), (11, .t (.sc (.int .i64 (min 2147483648 (endS b j))))), (54, .t (.sc (.bool (decide (p < (min 2147483648 (endS b j))) && (w (((i : Int) % 2) == 1) (((j : Int) % 2) == 1))))))]) (l := [(40, .row 2 false (List.map spanT out))])
          (C := [(decide (p < (min 2147483648 (endS b j)))) = true → (decide (p < (min 2147483648 (endS b j)))) = true, (decide (p < (min 2147483648 (endS b j)))) = true → (2 : Int) ≠ 0, (decide (p < (min 2147483648 (endS b j)))) = true → AVal.t (.sc (.int .i64 ((i : Int) % 2))) = .t (.sc (.int .i64 ((i : Int).tmod 2))), (decide (p < (min 2147483648 (endS b j)))) = true → (decide (p < (min 2147483648 (endS b j)))) = true, (decide (p < (min 2147483648 (endS b j)))) = true → (decide (p < (min 2147483648 (endS b j)))) = true, (decide (p < (min 2147483648 (endS b j)))) = true → (2 : Int) ≠ 0, (decide (p < (min 2147483648 (endS b j)))) = true → AVal.t (.sc (.int .i64 ((j : Int) % 2))) = .t (.sc (.int .i64 ((j : Int).tmod 2))), (decide (p < (min 2147483648 (endS b j)))) = true → (decide (p < (min 2147483648 (endS b j)))) = true, (decide (p < (min 2147483648 (endS b j)))) = true → (decide (p < (min 2147483648 (endS b j)))) = true, (decide (p < (min 2147483648 (endS b j)))) = true → (decide (p < (min 2147483648 (endS b j)))) = true, (decide (p < (min 2147483648 (endS b j)))) = true → (decide (p < (min 2147483648 (endS b j)))) = true, (decide (p < (min 2147483648 (endS b j)))) = true → callable Try.prog f = true, (decide (p < (min 2147483648 (endS b j)))) = true → FC Try.prog f [.t (.sc (.bool (((i : Int) % 2) == 1))), .t (.sc (.bool (((j : Int) % 2) == 1)))] emp (.t (.sc (.bool (w (((i : Int) % 2) == 1) (((j : Int) % 2) == 1))))) emp, (decide (p < (min 2147483648 (endS b j)))) = true → (decide (p < (min 2147483648 (endS b j)))) = true]) (by kernel_rfl) ?_ ?_
        · -- region 9
          exact ⟨(by first | exact fun h => h | (intro hg; (try simp only [decide_eq_true_eq, decide_eq_false_iff_not, Int.not_lt, Int.not_le] at hg); omega) | (intro _; (first | omega | exact fun h => h | (simp only [List.length_map]; done) | (simp only [List.length_map]; omega) | (simp; omega) | (simp; done)))), (by first | exact fun h => h | (intro hg; (try simp only [decide_eq_true_eq, decide_eq_false_iff_not, Int.not_lt, Int.not_le] at hg); omega) | (intro _; (first | omega | exact fun h => h | (simp only [List.length_map]; done) | (simp only [List.length_map]; omega) | (simp; omega) | (simp; done)))), (fun hg => by (try simp only [decide_eq_true_eq, decide_eq_false_iff_not, Int.not_lt, Int.not_le] at hg); exact (rem_nn (by (first | omega | exact fun h => h | (simp only [List.length_map]; done) | (simp only [List.length_map]; omega) | (simp; omega) | (simp; done))))), (by first | exact fun h => h | (intro hg; (try simp only [decide_eq_true_eq, decide_eq_false_iff_not, Int.not_lt, Int.not_le] at hg); omega) | (intro _; (first | omega | exact fun h => h | (simp only [List.length_map]; done) | (simp only [List.length_map]; omega) | (simp; omega) | (simp; done)))), (by first | exact fun h => h | (intro hg; (try simp only [decide_eq_true_eq, decide_eq_false_iff_not, Int.not_lt, Int.not_le] at hg); omega) | (intro _; (first | omega | exact fun h => h | (simp only [List.length_map]; done) | (simp only [List.length_map]; omega) | (simp; omega) | (simp; done)))), (by first | exact fun h => h | (intro hg; (try simp only [decide_eq_true_eq, decide_eq_false_iff_not, Int.not_lt, Int.not_le] at hg); omega) | (intro _; (first | omega | exact fun h => h | (simp only [List.length_map]; done) | (simp only [List.length_map]; omega) | (simp; omega) | (simp; done)))), (fun hg => by (try simp only [decide_eq_true_eq, decide_eq_false_iff_not, Int.not_lt, Int.not_le] at hg); exact (rem_nn (by (first | omega | exact fun h => h | (simp only [List.length_map]; done) | (simp only [List.length_map]; omega) | (simp; omega) | (simp; done))))), (by first | exact fun h => h | (intro hg; (try simp only [decide_eq_true_eq, decide_eq_false_iff_not, Int.not_lt, Int.not_le] at hg); omega) | (intro _; (first | omega | exact fun h => h | (simp only [List.length_map]; done) | (simp only [List.length_map]; omega) | (simp; omega) | (simp; done)))), (by first | exact fun h => h | (intro hg; (try simp only [decide_eq_true_eq, decide_eq_false_iff_not, Int.not_lt, Int.not_le] at hg); omega) | (intro _; (first | omega | exact fun h => h | (simp only [List.length_map]; done) | (simp only [List.length_map]; omega) | (simp; omega) | (simp; done)))), (by first | exact fun h => h | (intro hg; (try simp only [decide_eq_true_eq, decide_eq_false_iff_not, Int.not_lt, Int.not_le] at hg); omega) | (intro _; (first | omega | exact fun h => h | (simp only [List.length_map]; done) | (simp only [List.length_map]; omega) | (simp; omega) | (simp; done)))), (by first | exact fun h => h | (intro hg; (try simp only [decide_eq_true_eq, decide_eq_false_iff_not, Int.not_lt, Int.not_le] at hg); omega) | (intro _; (first | omega | exact fun h => h | (simp only [List.length_map]; done) | (simp only [List.length_map]; omega) | (simp; omega) | (simp; done)))), (fun hg => by (try simp only [decide_eq_true_eq, decide_eq_false_iff_not, Int.not_lt, Int.not_le] at hg); exact hfc), (fun hg => by (try simp only [decide_eq_true_eq, decide_eq_false_iff_not, Int.not_lt, Int.not_le] at hg); exact (hf (((i : Int) % 2) == 1) (((j : Int) % 2) == 1))), (by (first | omega | exact fun h => h | (simp only [List.length_map]; done) | (simp only [List.length_map]; omega) | (simp; omega) | (simp; done))), trivial⟩
        refine andThen_normal ?_
        refine Sim.cond (b := (decide (p < (min 2147483648 (endS b j))) && (w (((i : Int) % 2) == 1) (((j : Int) % 2) == 1)))) rfl (fun h9 => ?_) (fun h9 => ?_)
        · (try simp only [decide_eq_true_eq, decide_eq_false_iff_not, Int.not_lt, Int.not_le, Bool.and_eq_true, Bool.and_eq_false_iff, Bool.not_eq_true', Bool.not_eq_false', beq_iff_eq, beq_eq_false_iff_ne, ne_eq] at h9)
          refine Sim.reg (orcs := [(4, ⟨none, none, none, some (⟨2, [40], .row 40 ((addS out ({ fr := p, to := (min 2147483648 (endS b j)) } : Span)).length), [(40, .row 2 false (List.map spanT (addS out ({ fr := p, to := (min 2147483648 (endS b j)) } : Span))))]⟩)⟩)]) (keys := [0, 1, 2, 7, 9, 10, 11]) (τ := [(40, 40)]) (nx := 425)
            (sl := [(0, .t (.lst 2 (List.map spanT a))), (1, .t (.lst 2 (List.map spanT b))), (2, .fn f []), (7, .row 40 ((addS out ({ fr := p, to := (min 2147483648 (endS b j)) } : Span)).length)), (9, .t (.sc (.int .i64 (i : Int)))), (10, .t (.sc (.int .i64 (j : Int)))), (11, .t (.sc (.int .i64 (min 2147483648 (endS b j)))))]) (l := [(40, .row 2 false (List.map spanT (addS out ({ fr := p, to := (min 2147483648 (endS b j)) } : Span))))])
            (C := [callable Try.prog 121 = true, FC Try.prog 121 [.row 40 out.length, .t (spanT ({ fr := p, to := (min 2147483648 (endS b j)) } : Span))] (only (only (app emp [(40, .row 2 false (List.map spanT out))]) [40, 40]) [40]) (.row 40 ((addS out ({ fr := p, to := (min 2147483648 (endS b j)) } : Span)).length)) (app (only (only (app emp [(40, .row 2 false (List.map spanT out))]) [40, 40]) [40]) [(40, .row 2 false (List.map spanT (addS out ({ fr := p, to := (min 2147483648 (endS b j)) } : Span))))])]) (by kernel_rfl) ?_ ?_
          · -- region 10
            exact ⟨(by kernel_rfl), (FC.at (FC.ren (fc_add out ({ fr := p, to := (min 2147483648 (endS b j)) } : Span) (by (first | omega | exact fun h => h | (simp only [List.length_map]; done) | (simp only [List.length_map]; omega) | (simp; omega) | (simp; done)))) [(0, 40)] [(0, 40)] (l0' := [(40, .row 2 false (List.map spanT out))]) (args' := [.row 40 out.length, .t (spanT ({ fr := p, to := (min 2147483648 (endS b j)) } : Span))]) (res' := .row 40 ((addS out ({ fr := p, to := (min 2147483648 (endS b j)) } : Span)).length)) (l1' := [(40, .row 2 false (List.map spanT (addS out ({ fr := p, to := (min 2147483648 (endS b j)) } : Span))))]) (by kernel_rfl) (by kernel_rfl) (by kernel_rfl) (by kernel_rfl) (by kernel_rfl) (by kernel_rfl)) (fun i => by by_cases e0 : i = 40; (subst e0; rfl); simp only [only, app, upd, emp, hasId, cond_false, beq_ne e0, beq_ne (Ne.symm e0)]) (fun i => by by_cases e0 : i = 40; (subst e0; rfl); simp only [only, app, upd, emp, hasId, cond_false, beq_ne e0, beq_ne (Ne.symm e0)])), trivial⟩
          refine andThen_normal ?_
          refine Sim.seq ?_
          refine Sim.reg (orcs := []) (keys := [0, 1, 2, 7, 8, 9, 10]) (τ := [(40, 40)]) (nx := 441)
            (sl := [(0, .t (.lst 2 (List.map spanT a))), (1, .t (.lst 2 (List.map spanT b))), (2, .fn f []), (7, .row 40 ((addS out ({ fr := p, to := (min 2147483648 (endS b j)) } : Span)).length)), (8, .t (.sc (.int .i64 (min 2147483648 (endS b j))))), (9, .t (.sc (.int .i64 (i : Int)))), (10, .t (.sc (.int .i64 (j : Int))))]) (l := [(40, .row 2 false (List.map spanT (addS out ({ fr := p, to := (min 2147483648 (endS b j)) } : Span))))])
            (C := []) (by kernel_rfl) ?_ ?_
          · -- region 11
            trivial
          refine andThen_normal ?_
          refine Sim.seq ?_
          refine Sim.block ?_
          refine Sim.weaken (Le.ren (τ := [(40, 40)]) (keys := [0, 1, 2, 7, 8, 9, 10]) (nx := 441) (sl := [(0, .t (.lst 2 (List.map spanT a))), (1, .t (.lst 2 (List.map spanT b))), (2, .fn f []), (7, .row 40 ((addS out ({ fr := p, to := (min 2147483648 (endS b j)) } : Span)).length)), (8, .t (.sc (.int .i64 (min 2147483648 (endS b j))))), (9, .t (.sc (.int .i64 (i : Int)))), (10, .t (.sc (.int .i64 (j : Int))))]) (l := [(40, .row 2 false (List.map spanT (addS out ({ fr := p, to := (min 2147483648 (endS b j)) } : Span))))]) (by kernel_rfl)) ?_
          refine Sim.loop ?_
          refine loop_ind (α := Nat) (fun i1 => ⟨[(0, .t (.lst 2 (List.map spanT a))), (1, .t (.lst 2 (List.map spanT b))), (2, .fn f []), (7, .row 40 ((addS out ({ fr := p, to := (min 2147483648 (endS b j)) } : Span)).length)), (8, .t (.sc (.int .i64 (min 2147483648 (endS b j))))), (9, .t (.sc (.int .i64 (i1 : Int)))), (10, .t (.sc (.int .i64 (j : Int))))], app emp [(40, .row 2 false (List.map spanT (addS out ({ fr := p, to := (min 2147483648 (endS b j)) } : Span))))], 441⟩) (fun i1 => i ≤ i1 ∧ i1 ≤ 2 * a.length ∧ skipS a i (min 2147483648 (endS b j)) = skipS a i1 (min 2147483648 (endS b j))) (fun i1 => 2 * a.length - i1) ?_ (i : Nat) ?_
          rotate_left
          · -- loop 12, start
            exact ⟨by omega, by omega, rfl⟩
          rintro i1 I12 ih12
          show LoopSim _ _ _ _ ⟨[(0, .t (.lst 2 (List.map spanT a))), (1, .t (.lst 2 (List.map spanT b))), (2, .fn f []), (7, .row 40 ((addS out ({ fr := p, to := (min 2147483648 (endS b j)) } : Span)).length)), (8, .t (.sc (.int .i64 (min 2147483648 (endS b j))))), (9, .t (.sc (.int .i64 (i1 : Int)))), (10, .t (.sc (.int .i64 (j : Int))))], app emp [(40, .row 2 false (List.map spanT (addS out ({ fr := p, to := (min 2147483648 (endS b j)) } : Span))))], 441⟩ _
          replace I12 : i ≤ i1 ∧ i1 ≤ 2 * a.length ∧ skipS a i (min 2147483648 (endS b j)) = skipS a i1 (min 2147483648 (endS b j)) := I12
          refine LoopSim.step ?_
          refine Sim.seq ?_
          refine Sim.seq ?_
          refine Sim.reg (orcs := [(2, ⟨some (.t (.sc (.int .i64 (a.length : Int)))), none, none, none⟩), (3, ⟨some (.t (.sc (.int .i64 (2 * (a.length : Int))))), none, none, none⟩), (8, ⟨none, none, none, some (⟨0, [], .t (.sc (.int .i64 (endS a i1))), []⟩)⟩)]) (keys := [0, 1, 2, 7, 8, 9, 10, 72]) (τ := [(40, 40)]) (nx := 537)
            (sl := [(0, .t (.lst 2 (List.map spanT a))), (1, .t (.lst 2 (List.map spanT b))), (2, .fn f []), (7, .row 40 ((addS out ({ fr := p, to := (min 2147483648 (endS b j)) } : Span)).length)), (8, .t (.sc (.int .i64 (min 2147483648 (endS b j))))), (9, .t (.sc (.int .i64 (i1 : Int)))), (10, .t (.sc (.int .i64 (j : Int)))), (72, .t (.sc (.bool (decide ((i1 : Int) < (2 * (a.length : Int))) && ((endS a i1) == (min 2147483648 (endS b j)))))))]) (l := [(40, .row 2 false (List.map spanT (addS out ({ fr := p, to := (min 2147483648 (endS b j)) } : Span))))])
            (C := [AVal.t (.sc (.int .i64 (a.length : Int))) = .t (.sc (.int .i64 ((List.map spanT a).length : Int))), AVal.t (.sc (.int .i64 (2 * (a.length : Int)))) = .t (.sc (.int .i64 (IntKind.i64.wrap (2 * (a.length : Int))))), (decide ((i1 : Int) < (2 * (a.length : Int)))) = true → (decide ((i1 : Int) < (2 * (a.length : Int)))) = true, (decide ((i1 : Int) < (2 * (a.length : Int)))) = true → (decide ((i1 : Int) < (2 * (a.length : Int)))) = true, (decide ((i1 : Int) < (2 * (a.length : Int)))) = true → callable Try.prog 148 = true, (decide ((i1 : Int) < (2 * (a.length : Int)))) = true → FC Try.prog 148 [.t (.lst 2 (List.map spanT a)), .t (.sc (.int .i64 (i1 : Int)))] emp (.t (.sc (.int .i64 (endS a i1)))) emp, (decide ((i1 : Int) < (2 * (a.length : Int)))) = true → (decide ((i1 : Int) < (2 * (a.length : Int)))) = true, (decide ((i1 : Int) < (2 * (a.length : Int)))) = true → (decide ((i1 : Int) < (2 * (a.length : Int)))) = true, (decide ((i1 : Int) < (2 * (a.length : Int)))) = true → (decide ((i1 : Int) < (2 * (a.length : Int)))) = true]) (by kernel_rfl) ?_ ?_
          · -- region 12
            exact ⟨len_map, (nw (by (first | omega | exact fun h => h | (simp only [List.length_map]; done) | (simp only [List.length_map]; omega) | (simp; omega) | (simp; done)))), (by first | exact fun h => h | (intro hg; (try simp only [decide_eq_true_eq, decide_eq_false_iff_not, Int.not_lt, Int.not_le] at hg); omega) | (intro _; (first | omega | exact fun h => h | (simp only [List.length_map]; done) | (simp only [List.length_map]; omega) | (simp; omega) | (simp; done)))), (by first | exact fun h => h | (intro hg; (try simp only [decide_eq_true_eq, decide_eq_false_iff_not, Int.not_lt, Int.not_le] at hg); omega) | (intro _; (first | omega | exact fun h => h | (simp only [List.length_map]; done) | (simp only [List.length_map]; omega) | (simp; omega) | (simp; done)))), (fun hg => by (try simp only [decide_eq_true_eq, decide_eq_false_iff_not, Int.not_lt, Int.not_le] at hg); exact (by kernel_rfl)), (fun hg => by (try simp only [decide_eq_true_eq, decide_eq_false_iff_not, Int.not_lt, Int.not_le] at hg); exact (fc_end a i1 (by (first | omega | exact fun h => h | (simp only [List.length_map]; done) | (simp only [List.length_map]; omega) | (simp; omega) | (simp; done))) (by (first | omega | exact fun h => h | (simp only [List.length_map]; done) | (simp only [List.length_map]; omega) | (simp; omega) | (simp; done))))), (by first | exact fun h => h | (intro hg; (try simp only [decide_eq_true_eq, decide_eq_false_iff_not, Int.not_lt, Int.not_le] at hg); omega) | (intro _; (first | omega | exact fun h => h | (simp only [List.length_map]; done) | (simp only [List.length_map]; omega) | (simp; omega) | (simp; done)))), (by first | exact fun h => h | (intro hg; (try simp only [decide_eq_true_eq, decide_eq_false_iff_not, Int.not_lt, Int.not_le] at hg); omega) | (intro _; (first | omega | exact fun h => h | (simp only [List.length_map]; done) | (simp only [List.length_map]; omega) | (simp; omega) | (simp; done)))), (by (first | omega | exact fun h => h | (simp only [List.length_map]; done) | (simp only [List.length_map]; omega) | (simp; omega) | (simp; done))), trivial⟩
          refine andThen_normal ?_
          refine Sim.cond (b := (decide ((i1 : Int) < (2 * (a.length : Int))) && ((endS a i1) == (min 2147483648 (endS b j))))) rfl (fun h12 => ?_) (fun h12 => ?_)
          · (try simp only [decide_eq_true_eq, decide_eq_false_iff_not, Int.not_lt, Int.not_le, Bool.and_eq_true, Bool.and_eq_false_iff, Bool.not_eq_true', Bool.not_eq_false', beq_iff_eq, beq_eq_false_iff_ne, ne_eq] at h12)
            refine Sim.skip ?_
            refine andThen_normal ?_
            refine Sim.block ?_
            refine Sim.reg (orcs := [(1, ⟨some (.t (.sc (.int .i64 ((i1 : Int) + 1)))), none, none, none⟩)]) (keys := [0, 1, 2, 7, 8, 9, 10]) (τ := [(40, 40)]) (nx := 561)
              (sl := [(0, .t (.lst 2 (List.map spanT a))), (1, .t (.lst 2 (List.map spanT b))), (2, .fn f []), (7, .row 40 ((addS out ({ fr := p, to := (min 2147483648 (endS b j)) } : Span)).length)), (8, .t (.sc (.int .i64 (min 2147483648 (endS b j))))), (9, .t (.sc (.int .i64 ((i1 : Int) + 1)))), (10, .t (.sc (.int .i64 (j : Int))))]) (l := [(40, .row 2 false (List.map spanT (addS out ({ fr := p, to := (min 2147483648 (endS b j)) } : Span))))])
              (C := [AVal.t (.sc (.int .i64 ((i1 : Int) + 1))) = .t (.sc (.int .i64 (IntKind.i64.wrap ((i1 : Int) + 1))))]) (by kernel_rfl) ?_ ?_
            · -- region 13
              exact ⟨(nw (by (first | omega | exact fun h => h | (simp only [List.length_map]; done) | (simp only [List.length_map]; omega) | (simp; omega) | (simp; done)))), trivial⟩
            refine inBlk_normal ?_
            refine andThen_normal ?_
            refine LoopSim.weaken (Le.ren (τ := [(40, 40)]) (keys := [0, 1, 2, 7, 8, 9, 10]) (nx := 441) (sl := [(0, .t (.lst 2 (List.map spanT a))), (1, .t (.lst 2 (List.map spanT b))), (2, .fn f []), (7, .row 40 ((addS out ({ fr := p, to := (min 2147483648 (endS b j)) } : Span)).length)), (8, .t (.sc (.int .i64 (min 2147483648 (endS b j))))), (9, .t (.sc (.int .i64 (((i1 + 1) : Nat) : Int)))), (10, .t (.sc (.int .i64 (j : Int))))]) (l := [(40, .row 2 false (List.map spanT (addS out ({ fr := p, to := (min 2147483648 (endS b j)) } : Span))))]) (by kernel_rfl)) ?_
            refine ih12 ((i1 + 1) : Nat) ?_ ?_
            · -- back 12.1, invariant
              refine ⟨by omega, by omega, ?_⟩; rw [I12.2.2, skipS.eq_def a i1, if_pos (by omega)]
            · -- back 12.1, measure
              show (_:Nat) < _; (first | omega | exact fun h => h | (simp only [List.length_map]; done) | (simp only [List.length_map]; omega) | (simp; omega) | (simp; done))
          · (try simp only [decide_eq_true_eq, decide_eq_false_iff_not, Int.not_lt, Int.not_le, Bool.and_eq_true, Bool.and_eq_false_iff, Bool.not_eq_true', Bool.not_eq_false', beq_iff_eq, beq_eq_false_iff_ne, ne_eq] at h12)
            refine Sim.exit ?_
            refine andThen_exit ?_
            refine andThen_exit ?_
            refine inBlk_same ?_
            refine andThen_normal ?_
            refine Sim.block ?_
            refine Sim.weaken (Le.ren (τ := [(40, 40)]) (keys := [0, 1, 2, 7, 8, 9, 10]) (nx := 537) (sl := [(0, .t (.lst 2 (List.map spanT a))), (1, .t (.lst 2 (List.map spanT b))), (2, .fn f []), (7, .row 40 ((addS out ({ fr := p, to := (min 2147483648 (endS b j)) } : Span)).length)), (8, .t (.sc (.int .i64 (min 2147483648 (endS b j))))), (9, .t (.sc (.int .i64 (i1 : Int)))), (10, .t (.sc (.int .i64 (j : Int))))]) (l := [(40, .row 2 false (List.map spanT (addS out ({ fr := p, to := (min 2147483648 (endS b j)) } : Span))))]) (by kernel_rfl)) ?_
            refine Sim.loop ?_
            refine loop_ind (α := Nat) (fun j1 => ⟨[(0, .t (.lst 2 (List.map spanT a))), (1, .t (.lst 2 (List.map spanT b))), (2, .fn f []), (7, .row 40 ((addS out ({ fr := p, to := (min 2147483648 (endS b j)) } : Span)).length)), (8, .t (.sc (.int .i64 (min 2147483648 (endS b j))))), (9, .t (.sc (.int .i64 (i1 : Int)))), (10, .t (.sc (.int .i64 (j1 : Int))))], app emp [(40, .row 2 false (List.map spanT (addS out ({ fr := p, to := (min 2147483648 (endS b j)) } : Span))))], 537⟩) (fun j1 => j ≤ j1 ∧ j1 ≤ 2 * b.length ∧ skipS b j (min 2147483648 (endS b j)) = skipS b j1 (min 2147483648 (endS b j))) (fun j1 => 2 * b.length - j1) ?_ (j : Nat) ?_
            rotate_left
            · -- loop 14, start
              exact ⟨by omega, by omega, rfl⟩
            rintro j1 I14 ih14
            show LoopSim _ _ _ _ ⟨[(0, .t (.lst 2 (List.map spanT a))), (1, .t (.lst 2 (List.map spanT b))), (2, .fn f []), (7, .row 40 ((addS out ({ fr := p, to := (min 2147483648 (endS b j)) } : Span)).length)), (8, .t (.sc (.int .i64 (min 2147483648 (endS b j))))), (9, .t (.sc (.int .i64 (i1 : Int)))), (10, .t (.sc (.int .i64 (j1 : Int))))], app emp [(40, .row 2 false (List.map spanT (addS out ({ fr := p, to := (min 2147483648 (endS b j)) } : Span))))], 537⟩ _
            replace I14 : j ≤ j1 ∧ j1 ≤ 2 * b.length ∧ skipS b j (min 2147483648 (endS b j)) = skipS b j1 (min 2147483648 (endS b j)) := I14
            refine LoopSim.step ?_
            refine Sim.seq ?_
            refine Sim.seq ?_
            refine Sim.reg (orcs := [(2, ⟨some (.t (.sc (.int .i64 (b.length : Int)))), none, none, none⟩), (3, ⟨some (.t (.sc (.int .i64 (2 * (b.length : Int))))), none, none, none⟩), (8, ⟨none, none, none, some (⟨0, [], .t (.sc (.int .i64 (endS b j1))), []⟩)⟩)]) (keys := [0, 1, 2, 7, 8, 9, 10, 86]) (τ := [(40, 40)]) (nx := 633)
              (sl := [(0, .t (.lst 2 (List.map spanT a))), (1, .t (.lst 2 (List.map spanT b))), (2, .fn f []), (7, .row 40 ((addS out ({ fr := p, to := (min 2147483648 (endS b j)) } : Span)).length)), (8, .t (.sc (.int .i64 (min 2147483648 (endS b j))))), (9, .t (.sc (.int .i64 (i1 : Int)))), (10, .t (.sc (.int .i64 (j1 : Int)))), (86, .t (.sc (.bool (decide ((j1 : Int) < (2 * (b.length : Int))) && ((endS b j1) == (min 2147483648 (endS b j)))))))]) (l := [(40, .row 2 false (List.map spanT (addS out ({ fr := p, to := (min 2147483648 (endS b j)) } : Span))))])
              (C := [AVal.t (.sc (.int .i64 (b.length : Int))) = .t (.sc (.int .i64 ((List.map spanT b).length : Int))), AVal.t (.sc (.int .i64 (2 * (b.length : Int)))) = .t (.sc (.int .i64 (IntKind.i64.wrap (2 * (b.length : Int))))), (decide ((j1 : Int) < (2 * (b.length : Int)))) = true → (decide ((j1 : Int) < (2 * (b.length : Int)))) = true, (decide ((j1 : Int) < (2 * (b.length : Int)))) = true → (decide ((j1 : Int) < (2 * (b.length : Int)))) = true, (decide ((j1 : Int) < (2 * (b.length : Int)))) = true → callable Try.prog 148 = true, (decide ((j1 : Int) < (2 * (b.length : Int)))) = true → FC Try.prog 148 [.t (.lst 2 (List.map spanT b)), .t (.sc (.int .i64 (j1 : Int)))] emp (.t (.sc (.int .i64 (endS b j1)))) emp, (decide ((j1 : Int) < (2 * (b.length : Int)))) = true → (decide ((j1 : Int) < (2 * (b.length : Int)))) = true, (decide ((j1 : Int) < (2 * (b.length : Int)))) = true → (decide ((j1 : Int) < (2 * (b.length : Int)))) = true, (decide ((j1 : Int) < (2 * (b.length : Int)))) = true → (decide ((j1 : Int) < (2 * (b.length : Int)))) = true]) (by kernel_rfl) ?_ ?_
            · -- region 14
              exact ⟨len_map, (nw (by (first | omega | exact fun h => h | (simp only [List.length_map]; done) | (simp only [List.length_map]; omega) | (simp; omega) | (simp; done)))), (by first | exact fun h => h | (intro hg; (try simp only [decide_eq_true_eq, decide_eq_false_iff_not, Int.not_lt, Int.not_le] at hg); omega) | (intro _; (first | omega | exact fun h => h | (simp only [List.length_map]; done) | (simp only [List.length_map]; omega) | (simp; omega) | (simp; done)))), (by first | exact fun h => h | (intro hg; (try simp only [decide_eq_true_eq, decide_eq_false_iff_not, Int.not_lt, Int.not_le] at hg); omega) | (intro _; (first | omega | exact fun h => h | (simp only [List.length_map]; done) | (simp only [List.length_map]; omega) | (simp; omega) | (simp; done)))), (fun hg => by (try simp only [decide_eq_true_eq, decide_eq_false_iff_not, Int.not_lt, Int.not_le] at hg); exact (by kernel_rfl)), (fun hg => by (try simp only [decide_eq_true_eq, decide_eq_false_iff_not, Int.not_lt, Int.not_le] at hg); exact (fc_end b j1 (by (first | omega | exact fun h => h | (simp only [List.length_map]; done) | (simp only [List.length_map]; omega) | (simp; omega) | (simp; done))) (by (first | omega | exact fun h => h | (simp only [List.length_map]; done) | (simp only [List.length_map]; omega) | (simp; omega) | (simp; done))))), (by first | exact fun h => h | (intro hg; (try simp only [decide_eq_true_eq, decide_eq_false_iff_not, Int.not_lt, Int.not_le] at hg); omega) | (intro _; (first | omega | exact fun h => h | (simp only [List.length_map]; done) | (simp only [List.length_map]; omega) | (simp; omega) | (simp; done)))), (by first | exact fun h => h | (intro hg; (try simp only [decide_eq_true_eq, decide_eq_false_iff_not, Int.not_lt, Int.not_le] at hg); omega) | (intro _; (first | omega | exact fun h => h | (simp only [List.length_map]; done) | (simp only [List.length_map]; omega) | (simp; omega) | (simp; done)))), (by (first | omega | exact fun h => h | (simp only [List.length_map]; done) | (simp only [List.length_map]; omega) | (simp; omega) | (simp; done))), trivial⟩
            refine andThen_normal ?_
            refine Sim.cond (b := (decide ((j1 : Int) < (2 * (b.length : Int))) && ((endS b j1) == (min 2147483648 (endS b j))))) rfl (fun h14 => ?_) (fun h14 => ?_)
            · (try simp only [decide_eq_true_eq, decide_eq_false_iff_not, Int.not_lt, Int.not_le, Bool.and_eq_true, Bool.and_eq_false_iff, Bool.not_eq_true', Bool.not_eq_false', beq_iff_eq, beq_eq_false_iff_ne, ne_eq] at h14)
              refine Sim.skip ?_
              refine andThen_normal ?_
              refine Sim.block ?_
              refine Sim.reg (orcs := [(1, ⟨some (.t (.sc (.int .i64 ((j1 : Int) + 1)))), none, none, none⟩)]) (keys := [0, 1, 2, 7, 8, 9, 10]) (τ := [(40, 40)]) (nx := 657)
                (sl := [(0, .t (.lst 2 (List.map spanT a))), (1, .t (.lst 2 (List.map spanT b))), (2, .fn f []), (7, .row 40 ((addS out ({ fr := p, to := (min 2147483648 (endS b j)) } : Span)).length)), (8, .t (.sc (.int .i64 (min 2147483648 (endS b j))))), (9, .t (.sc (.int .i64 (i1 : Int)))), (10, .t (.sc (.int .i64 ((j1 : Int) + 1))))]) (l := [(40, .row 2 false (List.map spanT (addS out ({ fr := p, to := (min 2147483648 (endS b j)) } : Span))))])
                (C := [AVal.t (.sc (.int .i64 ((j1 : Int) + 1))) = .t (.sc (.int .i64 (IntKind.i64.wrap ((j1 : Int) + 1))))]) (by kernel_rfl) ?_ ?_
              · -- region 15
                exact ⟨(nw (by (first | omega | exact fun h => h | (simp only [List.length_map]; done) | (simp only [List.length_map]; omega) | (simp; omega) | (simp; done)))), trivial⟩
              refine inBlk_normal ?_
              refine andThen_normal ?_
              refine LoopSim.weaken (Le.ren (τ := [(40, 40)]) (keys := [0, 1, 2, 7, 8, 9, 10]) (nx := 537) (sl := [(0, .t (.lst 2 (List.map spanT a))), (1, .t (.lst 2 (List.map spanT b))), (2, .fn f []), (7, .row 40 ((addS out ({ fr := p, to := (min 2147483648 (endS b j)) } : Span)).length)), (8, .t (.sc (.int .i64 (min 2147483648 (endS b j))))), (9, .t (.sc (.int .i64 (i1 : Int)))), (10, .t (.sc (.int .i64 (((j1 + 1) : Nat) : Int))))]) (l := [(40, .row 2 false (List.map spanT (addS out ({ fr := p, to := (min 2147483648 (endS b j)) } : Span))))]) (by kernel_rfl)) ?_
              refine ih14 ((j1 + 1) : Nat) ?_ ?_
              · -- back 14.1, invariant
                refine ⟨by omega, by omega, ?_⟩; rw [I14.2.2, skipS.eq_def b j1, if_pos (by omega)]
              · -- back 14.1, measure
                show (_:Nat) < _; (first | omega | exact fun h => h | (simp only [List.length_map]; done) | (simp only [List.length_map]; omega) | (simp; omega) | (simp; done))
            · (try simp only [decide_eq_true_eq, decide_eq_false_iff_not, Int.not_lt, Int.not_le, Bool.and_eq_true, Bool.and_eq_false_iff, Bool.not_eq_true', Bool.not_eq_false', beq_iff_eq, beq_eq_false_iff_ne, ne_eq] at h14)
              refine Sim.exit ?_
              refine andThen_exit ?_
              refine andThen_exit ?_
              refine inBlk_same ?_
              refine inBlk_normal ?_
              refine andThen_normal ?_
              refine LoopSim.weaken (Le.ren (τ := [(40, 40)]) (keys := [0, 1, 2, 7, 8, 9, 10]) (nx := 41) (sl := [(0, .t (.lst 2 (List.map spanT a))), (1, .t (.lst 2 (List.map spanT b))), (2, .fn f []), (7, .row 40 ((addS out ({ fr := p, to := (min 2147483648 (endS b j)) } : Span)).length)), (8, .t (.sc (.int .i64 (min 2147483648 (endS b j))))), (9, .t (.sc (.int .i64 (i1 : Int)))), (10, .t (.sc (.int .i64 (j1 : Int))))]) (l := [(40, .row 2 false (List.map spanT (addS out ({ fr := p, to := (min 2147483648 (endS b j)) } : Span))))]) (by kernel_rfl)) ?_
              have hn : nextS a b i j = (min 2147483648 (endS b j)) := by unfold nextS; ((repeat' split) <;> first | rfl | omega | (simp_all; done) | (simp_all; omega))
              have hi : skipS a i1 (min 2147483648 (endS b j)) = i1 := by rw [skipS.eq_def, if_neg (by omega)]
              have hj : skipS b j1 (min 2147483648 (endS b j)) = j1 := by rw [skipS.eq_def, if_neg (by omega)]
              have hp := skip_prog a b i j (by omega) hb
              have hs := mergeS_step w a b out p i j (by omega) hb
              rw [hn, I12.2.2, hi, I14.2.2, hj] at hs hp
              simp only [mod2] at h9
              have hl := addS_len out ⟨p, (min 2147483648 (endS b j))⟩
              refine ih3 ((min 2147483648 (endS b j)), i1, j1, (addS out ({ fr := p, to := (min 2147483648 (endS b j)) } : Span))) ?_ ?_
              · -- back 3.5, invariant
                refine ⟨by omega, by omega, by omega, ?_⟩
                rw [I3.2.2.2, hs]
                first | rw [if_pos h9] | rw [if_neg (fun hh => by rcases h9 with h9 | h9; omega; exact absurd hh.2 (by rw [h9]; decide))]
              · -- back 3.5, measure
                show (_:Nat) < _; (first | omega | exact fun h => h | (simp only [List.length_map]; done) | (simp only [List.length_map]; omega) | (simp; omega) | (simp; done))
        · (try simp only [decide_eq_true_eq, decide_eq_false_iff_not, Int.not_lt, Int.not_le, Bool.and_eq_true, Bool.and_eq_false_iff, Bool.not_eq_true', Bool.not_eq_false', beq_iff_eq, beq_eq_false_iff_ne, ne_eq] at h9)
          refine Sim.skip ?_
          refine andThen_normal ?_
          refine Sim.seq ?_
          refine Sim.reg (orcs := []) (keys := [0, 1, 2, 7, 8, 9, 10]) (τ := [(40, 40)]) (nx := 393)
            (sl := [(0, .t (.lst 2 (List.map spanT a))), (1, .t (.lst 2 (List.map spanT b))), (2, .fn f []), (7, .row 40 out.length), (8, .t (.sc (.int .i64 (min 2147483648 (endS b j))))), (9, .t (.sc (.int .i64 (i : Int)))), (10, .t (.sc (.int .i64 (j : Int))))]) (l := [(40, .row 2 false (List.map spanT out))])
            (C := []) (by kernel_rfl) ?_ ?_
          · -- region 11
            trivial
          refine andThen_normal ?_
          refine Sim.seq ?_
          refine Sim.block ?_
          refine Sim.weaken (Le.ren (τ := [(40, 40)]) (keys := [0, 1, 2, 7, 8, 9, 10]) (nx := 393) (sl := [(0, .t (.lst 2 (List.map spanT a))), (1, .t (.lst 2 (List.map spanT b))), (2, .fn f []), (7, .row 40 out.length), (8, .t (.sc (.int .i64 (min 2147483648 (endS b j))))), (9, .t (.sc (.int .i64 (i : Int)))), (10, .t (.sc (.int .i64 (j : Int))))]) (l := [(40, .row 2 false (List.map spanT out))]) (by kernel_rfl)) ?_
          refine Sim.loop ?_
          refine loop_ind (α := Nat) (fun i1 => ⟨[(0, .t (.lst 2 (List.map spanT a))), (1, .t (.lst 2 (List.map spanT b))), (2, .fn f []), (7, .row 40 out.length), (8, .t (.sc (.int .i64 (min 2147483648 (endS b j))))), (9, .t (.sc (.int .i64 (i1 : Int)))), (10, .t (.sc (.int .i64 (j : Int))))], app emp [(40, .row 2 false (List.map spanT out))], 393⟩) (fun i1 => i ≤ i1 ∧ i1 ≤ 2 * a.length ∧ skipS a i (min 2147483648 (endS b j)) = skipS a i1 (min 2147483648 (endS b j))) (fun i1 => 2 * a.length - i1) ?_ (i : Nat) ?_
          rotate_left
          · -- loop 12, start
            exact ⟨by omega, by omega, rfl⟩
          rintro i1 I12 ih12
          show LoopSim _ _ _ _ ⟨[(0, .t (.lst 2 (List.map spanT a))), (1, .t (.lst 2 (List.map spanT b))), (2, .fn f []), (7, .row 40 out.length), (8, .t (.sc (.int .i64 (min 2147483648 (endS b j))))), (9, .t (.sc (.int .i64 (i1 : Int)))), (10, .t (.sc (.int .i64 (j : Int))))], app emp [(40, .row 2 false (List.map spanT out))], 393⟩ _
          replace I12 : i ≤ i1 ∧ i1 ≤ 2 * a.length ∧ skipS a i (min 2147483648 (endS b j)) = skipS a i1 (min 2147483648 (endS b j)) := I12
          refine LoopSim.step ?_
          refine Sim.seq ?_
          refine Sim.seq ?_
          refine Sim.reg (orcs := [(2, ⟨some (.t (.sc (.int .i64 (a.length : Int)))), none, none, none⟩), (3, ⟨some (.t (.sc (.int .i64 (2 * (a.length : Int))))), none, none, none⟩), (8, ⟨none, none, none, some (⟨0, [], .t (.sc (.int .i64 (endS a i1))), []⟩)⟩)]) (keys := [0, 1, 2, 7, 8, 9, 10, 72]) (τ := [(40, 40)]) (nx := 489)
            (sl := [(0, .t (.lst 2 (List.map spanT a))), (1, .t (.lst 2 (List.map spanT b))), (2, .fn f []), (7, .row 40 out.length), (8, .t (.sc (.int .i64 (min 2147483648 (endS b j))))), (9, .t (.sc (.int .i64 (i1 : Int)))), (10, .t (.sc (.int .i64 (j : Int)))), (72, .t (.sc (.bool (decide ((i1 : Int) < (2 * (a.length : Int))) && ((endS a i1) == (min 2147483648 (endS b j)))))))]) (l := [(40, .row 2 false (List.map spanT out))])
            (C := [AVal.t (.sc (.int .i64 (a.length : Int))) = .t (.sc (.int .i64 ((List.map spanT a).length : Int))), AVal.t (.sc (.int .i64 (2 * (a.length : Int)))) = .t (.sc (.int .i64 (IntKind.i64.wrap (2 * (a.length : Int))))), (decide ((i1 : Int) < (2 * (a.length : Int)))) = true → (decide ((i1 : Int) < (2 * (a.length : Int)))) = true, (decide ((i1 : Int) < (2 * (a.length : Int)))) = true → (decide ((i1 : Int) < (2 * (a.length : Int)))) = true, (decide ((i1 : Int) < (2 * (a.length : Int)))) = true → callable Try.prog 148 = true, (decide ((i1 : Int) < (2 * (a.length : Int)))) = true → FC Try.prog 148 [.t (.lst 2 (List.map spanT a)), .t (.sc (.int .i64 (i1 : Int)))] emp (.t (.sc (.int .i64 (endS a i1)))) emp, (decide ((i1 : Int) < (2 * (a.length : Int)))) = true → (decide ((i1 : Int) < (2 * (a.length : Int)))) = true, (decide ((i1 : Int) < (2 * (a.length : Int)))) = true → (decide ((i1 : Int) < (2 * (a.length : Int)))) = true, (decide ((i1 : Int) < (2 * (a.length : Int)))) = true → (decide ((i1 : Int) < (2 * (a.length : Int)))) = true]) (by kernel_rfl) ?_ ?_
          · -- region 12
            exact ⟨len_map, (nw (by (first | omega | exact fun h => h | (simp only [List.length_map]; done) | (simp only [List.length_map]; omega) | (simp; omega) | (simp; done)))), (by first | exact fun h => h | (intro hg; (try simp only [decide_eq_true_eq, decide_eq_false_iff_not, Int.not_lt, Int.not_le] at hg); omega) | (intro _; (first | omega | exact fun h => h | (simp only [List.length_map]; done) | (simp only [List.length_map]; omega) | (simp; omega) | (simp; done)))), (by first | exact fun h => h | (intro hg; (try simp only [decide_eq_true_eq, decide_eq_false_iff_not, Int.not_lt, Int.not_le] at hg); omega) | (intro _; (first | omega | exact fun h => h | (simp only [List.length_map]; done) | (simp only [List.length_map]; omega) | (simp; omega) | (simp; done)))), (fun hg => by (try simp only [decide_eq_true_eq, decide_eq_false_iff_not, Int.not_lt, Int.not_le] at hg); exact (by kernel_rfl)), (fun hg => by (try simp only [decide_eq_true_eq, decide_eq_false_iff_not, Int.not_lt, Int.not_le] at hg); exact (fc_end a i1 (by (first | omega | exact fun h => h | (simp only [List.length_map]; done) | (simp only [List.length_map]; omega) | (simp; omega) | (simp; done))) (by (first | omega | exact fun h => h | (simp only [List.length_map]; done) | (simp only [List.length_map]; omega) | (simp; omega) | (simp; done))))), (by first | exact fun h => h | (intro hg; (try simp only [decide_eq_true_eq, decide_eq_false_iff_not, Int.not_lt, Int.not_le] at hg); omega) | (intro _; (first | omega | exact fun h => h | (simp only [List.length_map]; done) | (simp only [List.length_map]; omega) | (simp; omega) | (simp; done)))), (by first | exact fun h => h | (intro hg; (try simp only [decide_eq_true_eq, decide_eq_false_iff_not, Int.not_lt, Int.not_le] at hg); omega) | (intro _; (first | omega | exact fun h => h | (simp only [List.length_map]; done) | (simp only [List.length_map]; omega) | (simp; omega) | (simp; done)))), (by (first | omega | exact fun h => h | (simp only [List.length_map]; done) | (simp only [List.length_map]; omega) | (simp; omega) | (simp; done))), trivial⟩
          refine andThen_normal ?_
          refine Sim.cond (b := (decide ((i1 : Int) < (2 * (a.length : Int))) && ((endS a i1) == (min 2147483648 (endS b j))))) rfl (fun h12 => ?_) (fun h12 => ?_)
          · (try simp only [decide_eq_true_eq, decide_eq_false_iff_not, Int.not_lt, Int.not_le, Bool.and_eq_true, Bool.and_eq_false_iff, Bool.not_eq_true', Bool.not_eq_false', beq_iff_eq, beq_eq_false_iff_ne, ne_eq] at h12)
            refine Sim.skip ?_
            refine andThen_normal ?_
            refine Sim.block ?_
            refine Sim.reg (orcs := [(1, ⟨some (.t (.sc (.int .i64 ((i1 : Int) + 1)))), none, none, none⟩)]) (keys := [0, 1, 2, 7, 8, 9, 10]) (τ := [(40, 40)]) (nx := 513)
              (sl := [(0, .t (.lst 2 (List.map spanT a))), (1, .t (.lst 2 (List.map spanT b))), (2, .fn f []), (7, .row 40 out.length), (8, .t (.sc (.int .i64 (min 2147483648 (endS b j))))), (9, .t (.sc (.int .i64 ((i1 : Int) + 1)))), (10, .t (.sc (.int .i64 (j : Int))))]) (l := [(40, .row 2 false (List.map spanT out))])
              (C := [AVal.t (.sc (.int .i64 ((i1 : Int) + 1))) = .t (.sc (.int .i64 (IntKind.i64.wrap ((i1 : Int) + 1))))]) (by kernel_rfl) ?_ ?_
            · -- region 13
              exact ⟨(nw (by (first | omega | exact fun h => h | (simp only [List.length_map]; done) | (simp only [List.length_map]; omega) | (simp; omega) | (simp; done)))), trivial⟩
            refine inBlk_normal ?_
            refine andThen_normal ?_
            refine LoopSim.weaken (Le.ren (τ := [(40, 40)]) (keys := [0, 1, 2, 7, 8, 9, 10]) (nx := 393) (sl := [(0, .t (.lst 2 (List.map spanT a))), (1, .t (.lst 2 (List.map spanT b))), (2, .fn f []), (7, .row 40 out.length), (8, .t (.sc (.int .i64 (min 2147483648 (endS b j))))), (9, .t (.sc (.int .i64 (((i1 + 1) : Nat) : Int)))), (10, .t (.sc (.int .i64 (j : Int))))]) (l := [(40, .row 2 false (List.map spanT out))]) (by kernel_rfl)) ?_
            refine ih12 ((i1 + 1) : Nat) ?_ ?_
            · -- back 12.1, invariant
              refine ⟨by omega, by omega, ?_⟩; rw [I12.2.2, skipS.eq_def a i1, if_pos (by omega)]
            · -- back 12.1, measure
              show (_:Nat) < _; (first | omega | exact fun h => h | (simp only [List.length_map]; done) | (simp only [List.length_map]; omega) | (simp; omega) | (simp; done))
          · (try simp only [decide_eq_true_eq, decide_eq_false_iff_not, Int.not_lt, Int.not_le, Bool.and_eq_true, Bool.and_eq_false_iff, Bool.not_eq_true', Bool.not_eq_false', beq_iff_eq, beq_eq_false_iff_ne, ne_eq] at h12)
            refine Sim.exit ?_
            refine andThen_exit ?_
            refine andThen_exit ?_
            refine inBlk_same ?_
            refine andThen_normal ?_
            refine Sim.block ?_
            refine Sim.weaken (Le.ren (τ := [(40, 40)]) (keys := [0, 1, 2, 7, 8, 9, 10]) (nx := 489) (sl := [(0, .t (.lst 2 (List.map spanT a))), (1, .t (.lst 2 (List.map spanT b))), (2, .fn f []), (7, .row 40 out.length), (8, .t (.sc (.int .i64 (min 2147483648 (endS b j))))), (9, .t (.sc (.int .i64 (i1 : Int)))), (10, .t (.sc (.int .i64 (j : Int))))]) (l := [(40, .row 2 false (List.map spanT out))]) (by kernel_rfl)) ?_
            refine Sim.loop ?_
            refine loop_ind (α := Nat) (fun j1 => ⟨[(0, .t (.lst 2 (List.map spanT a))), (1, .t (.lst 2 (List.map spanT b))), (2, .fn f []), (7, .row 40 out.length), (8, .t (.sc (.int .i64 (min 2147483648 (endS b j))))), (9, .t (.sc (.int .i64 (i1 : Int)))), (10, .t (.sc (.int .i64 (j1 : Int))))], app emp [(40, .row 2 false (List.map spanT out))], 489⟩) (fun j1 => j ≤ j1 ∧ j1 ≤ 2 * b.length ∧ skipS b j (min 2147483648 (endS b j)) = skipS b j1 (min 2147483648 (endS b j))) (fun j1 => 2 * b.length - j1) ?_ (j : Nat) ?_
            rotate_left
            · -- loop 14, start
              exact ⟨by omega, by omega, rfl⟩
            rintro j1 I14 ih14
            show LoopSim _ _ _ _ ⟨[(0, .t (.lst 2 (List.map spanT a))), (1, .t (.lst 2 (List.map spanT b))), (2, .fn f []), (7, .row 40 out.length), (8, .t (.sc (.int .i64 (min 2147483648 (endS b j))))), (9, .t (.sc (.int .i64 (i1 : Int)))), (10, .t (.sc (.int .i64 (j1 : Int))))], app emp [(40, .row 2 false (List.map spanT out))], 489⟩ _
            replace I14 : j ≤ j1 ∧ j1 ≤ 2 * b.length ∧ skipS b j (min 2147483648 (endS b j)) = skipS b j1 (min 2147483648 (endS b j)) := I14
            refine LoopSim.step ?_
            refine Sim.seq ?_
            refine Sim.seq ?_
            refine Sim.reg (orcs := [(2, ⟨some (.t (.sc (.int .i64 (b.length : Int)))), none, none, none⟩), (3, ⟨some (.t (.sc (.int .i64 (2 * (b.length : Int))))), none, none, none⟩), (8, ⟨none, none, none, some (⟨0, [], .t (.sc (.int .i64 (endS b j1))), []⟩)⟩)]) (keys := [0, 1, 2, 7, 8, 9, 10, 86]) (τ := [(40, 40)]) (nx := 585)
              (sl := [(0, .t (.lst 2 (List.map spanT a))), (1, .t (.lst 2 (List.map spanT b))), (2, .fn f []), (7, .row 40 out.length), (8, .t (.sc (.int .i64 (min 2147483648 (endS b j))))), (9, .t (.sc (.int .i64 (i1 : Int)))), (10, .t (.sc (.int .i64 (j1 : Int)))), (86, .t (.sc (.bool (decide ((j1 : Int) < (2 * (b.length : Int))) && ((endS b j1) == (min 2147483648 (endS b j)))))))]) (l := [(40, .row 2 false (List.map spanT out))])
              (C := [AVal.t (.sc (.int .i64 (b.length : Int))) = .t (.sc (.int .i64 ((List.map spanT b).length : Int))), AVal.t (.sc (.int .i64 (2 * (b.length : Int)))) = .t (.sc (.int .i64 (IntKind.i64.wrap (2 * (b.length : Int))))), (decide ((j1 : Int) < (2 * (b.length : Int)))) = true → (decide ((j1 : Int) < (2 * (b.length : Int)))) = true, (decide ((j1 : Int) < (2 * (b.length : Int)))) = true → (decide ((j1 : Int) < (2 * (b.length : Int)))) = true, (decide ((j1 : Int) < (2 * (b.length : Int)))) = true → callable Try.prog 148 = true, (decide ((j1 : Int) < (2 * (b.length : Int)))) = true → FC Try.prog 148 [.t (.lst 2 (List.map spanT b)), .t (.sc (.int .i64 (j1 : Int)))] emp (.t (.sc (.int .i64 (endS b j1)))) emp, (decide ((j1 : Int) < (2 * (b.length : Int)))) = true → (decide ((j1 : Int) < (2 * (b.length : Int)))) = true, (decide ((j1 : Int) < (2 * (b.length : Int)))) = true → (decide ((j1 : Int) < (2 * (b.length : Int)))) = true, (decide ((j1 : Int) < (2 * (b.length : Int)))) = true → (decide ((j1 : Int) < (2 * (b.length : Int)))) = true]) (by kernel_rfl) ?_ ?_
            · -- region 14
              exact ⟨len_map, (nw (by (first | omega | exact fun h => h | (simp only [List.length_map]; done) | (simp only [List.length_map]; omega) | (simp; omega) | (simp; done)))), (by first | exact fun h => h | (intro hg; (try simp only [decide_eq_true_eq, decide_eq_false_iff_not, Int.not_lt, Int.not_le] at hg); omega) | (intro _; (first | omega | exact fun h => h | (simp only [List.length_map]; done) | (simp only [List.length_map]; omega) | (simp; omega) | (simp; done)))), (by first | exact fun h => h | (intro hg; (try simp only [decide_eq_true_eq, decide_eq_false_iff_not, Int.not_lt, Int.not_le] at hg); omega) | (intro _; (first | omega | exact fun h => h | (simp only [List.length_map]; done) | (simp only [List.length_map]; omega) | (simp; omega) | (simp; done)))), (fun hg => by (try simp only [decide_eq_true_eq, decide_eq_false_iff_not, Int.not_lt, Int.not_le] at hg); exact (by kernel_rfl)), (fun hg => by (try simp only [decide_eq_true_eq, decide_eq_false_iff_not, Int.not_lt, Int.not_le] at hg); exact (fc_end b j1 (by (first | omega | exact fun h => h | (simp only [List.length_map]; done) | (simp only [List.length_map]; omega) | (simp; omega) | (simp; done))) (by (first | omega | exact fun h => h | (simp only [List.length_map]; done) | (simp only [List.length_map]; omega) | (simp; omega) | (simp; done))))), (by first | exact fun h => h | (intro hg; (try simp only [decide_eq_true_eq, decide_eq_false_iff_not, Int.not_lt, Int.not_le] at hg); omega) | (intro _; (first | omega | exact fun h => h | (simp only [List.length_map]; done) | (simp only [List.length_map]; omega) | (simp; omega) | (simp; done)))), (by first | exact fun h => h | (intro hg; (try simp only [decide_eq_true_eq, decide_eq_false_iff_not, Int.not_lt, Int.not_le] at hg); omega) | (intro _; (first | omega | exact fun h => h | (simp only [List.length_map]; done) | (simp only [List.length_map]; omega) | (simp; omega) | (simp; done)))), (by (first | omega | exact fun h => h | (simp only [List.length_map]; done) | (simp only [List.length_map]; omega) | (simp; omega) | (simp; done))), trivial⟩
            refine andThen_normal ?_
            refine Sim.cond (b := (decide ((j1 : Int) < (2 * (b.length : Int))) && ((endS b j1) == (min 2147483648 (endS b j))))) rfl (fun h14 => ?_) (fun h14 => ?_)
            · (try simp only [decide_eq_true_eq, decide_eq_false_iff_not, Int.not_lt, Int.not_le, Bool.and_eq_true, Bool.and_eq_false_iff, Bool.not_eq_true', Bool.not_eq_false', beq_iff_eq, beq_eq_false_iff_ne, ne_eq] at h14)
              refine Sim.skip ?_
              refine andThen_normal ?_
              refine Sim.block ?_
              refine Sim.reg (orcs := [(1, ⟨some (.t (.sc (.int .i64 ((j1 : Int) + 1)))), none, none, none⟩)]) (keys := [0, 1, 2, 7, 8, 9, 10]) (τ := [(40, 40)]) (nx := 609)
                (sl := [(0, .t (.lst 2 (List.map spanT a))), (1, .t (.lst 2 (List.map spanT b))), (2, .fn f []), (7, .row 40 out.length), (8, .t (.sc (.int .i64 (min 2147483648 (endS b j))))), (9, .t (.sc (.int .i64 (i1 : Int)))), (10, .t (.sc (.int .i64 ((j1 : Int) + 1))))]) (l := [(40, .row 2 false (List.map spanT out))])
                (C := [AVal.t (.sc (.int .i64 ((j1 : Int) + 1))) = .t (.sc (.int .i64 (IntKind.i64.wrap ((j1 : Int) + 1))))]) (by kernel_rfl) ?_ ?_
              · -- region 15
                exact ⟨(nw (by (first | omega | exact fun h => h | (simp only [List.length_map]; done) | (simp only [List.length_map]; omega) | (simp; omega) | (simp; done)))), trivial⟩
              refine inBlk_normal ?_
              refine andThen_normal ?_
              refine LoopSim.weaken (Le.ren (τ := [(40, 40)]) (keys := [0, 1, 2, 7, 8, 9, 10]) (nx := 489) (sl := [(0, .t (.lst 2 (List.map spanT a))), (1, .t (.lst 2 (List.map spanT b))), (2, .fn f []), (7, .row 40 out.length), (8, .t (.sc (.int .i64 (min 2147483648 (endS b j))))), (9, .t (.sc (.int .i64 (i1 : Int)))), (10, .t (.sc (.int .i64 (((j1 + 1) : Nat) : Int))))]) (l := [(40, .row 2 false (List.map spanT out))]) (by kernel_rfl)) ?_
              refine ih14 ((j1 + 1) : Nat) ?_ ?_
              · -- back 14.1, invariant
                refine ⟨by omega, by omega, ?_⟩; rw [I14.2.2, skipS.eq_def b j1, if_pos (by omega)]
              · -- back 14.1, measure
                show (_:Nat) < _; (first | omega | exact fun h => h | (simp only [List.length_map]; done) | (simp only [List.length_map]; omega) | (simp; omega) | (simp; done))
            · (try simp only [decide_eq_true_eq, decide_eq_false_iff_not, Int.not_lt, Int.not_le, Bool.and_eq_true, Bool.and_eq_false_iff, Bool.not_eq_true', Bool.not_eq_false', beq_iff_eq, beq_eq_false_iff_ne, ne_eq] at h14)
              refine Sim.exit ?_
              refine andThen_exit ?_
              refine andThen_exit ?_
              refine inBlk_same ?_
              refine inBlk_normal ?_
              refine andThen_normal ?_
              refine LoopSim.weaken (Le.ren (τ := [(40, 40)]) (keys := [0, 1, 2, 7, 8, 9, 10]) (nx := 41) (sl := [(0, .t (.lst 2 (List.map spanT a))), (1, .t (.lst 2 (List.map spanT b))), (2, .fn f []), (7, .row 40 out.length), (8, .t (.sc (.int .i64 (min 2147483648 (endS b j))))), (9, .t (.sc (.int .i64 (i1 : Int)))), (10, .t (.sc (.int .i64 (j1 : Int))))]) (l := [(40, .row 2 false (List.map spanT out))]) (by kernel_rfl)) ?_
              have hn : nextS a b i j = (min 2147483648 (endS b j)) := by unfold nextS; ((repeat' split) <;> first | rfl | omega | (simp_all; done) | (simp_all; omega))
              have hi : skipS a i1 (min 2147483648 (endS b j)) = i1 := by rw [skipS.eq_def, if_neg (by omega)]
              have hj : skipS b j1 (min 2147483648 (endS b j)) = j1 := by rw [skipS.eq_def, if_neg (by omega)]
              have hp := skip_prog a b i j (by omega) hb
              have hs := mergeS_step w a b out p i j (by omega) hb
              rw [hn, I12.2.2, hi, I14.2.2, hj] at hs hp
              simp only [mod2] at h9
              have hl := addS_len out ⟨p, (min 2147483648 (endS b j))⟩
              refine ih3 ((min 2147483648 (endS b j)), i1, j1, out) ?_ ?_
              · -- back 3.6, invariant
                refine ⟨by omega, by omega, by omega, ?_⟩
                rw [I3.2.2.2, hs]
                first | rw [if_pos h9] | rw [if_neg (fun hh => by rcases h9 with h9 | h9; omega; exact absurd hh.2 (by rw [h9]; decide))]
              · -- back 3.6, measure
                show (_:Nat) < _; (first | omega | exact fun h => h | (simp only [List.length_map]; done) | (simp only [List.length_map]; omega) | (simp; omega) | (simp; done))
      · (try simp only [decide_eq_true_eq, decide_eq_false_iff_not, Int.not_lt, Int.not_le] at h7)
        refine Sim.skip ?_
        refine andThen_normal ?_
        refine Sim.seq ?_
        refine Sim.seq ?_
        refine Sim.reg (orcs := [(6, ⟨some (.t (.sc (.int .i64 ((i : Int) % 2)))), none, none, none⟩), (9, ⟨some (.t (.sc (.int .i64 ((j : Int) % 2)))), none, none, none⟩), (11, ⟨none, none, none, some (⟨0, [], .t (.sc (.bool (w (((i : Int) % 2) == 1) (((j : Int) % 2) == 1)))), []⟩)⟩)]) (keys := [0, 1, 2, 7, 8, 9, 10, 11, 54]) (τ := [(40, 40)]) (nx := 329)
          (sl := [(0, .t (.lst 2 (List.map spanT a))), (1, .t (.lst 2 (List.map spanT b))), (2, .fn f []), (7, .row 40 out.length), (8, .t (.sc (.int .i64 p))), (9, .t (.sc (.int .i64 (i : Int)))), (10, .t (.sc (.int .i64 (j : Int)))), (11, .t (.sc (.int .i64 2147483648))), (54, .t (.sc (.bool (decide (p < 2147483648) && (w (((i : Int) % 2) == 1) (((j : Int) % 2) == 1))))))]) (l := [(40, .row 2 false (List.map spanT out))])
          (C := [(decide (p < 2147483648)) = true → (decide (p < 2147483648)) = true, (decide (p < 2147483648)) = true → (2 : Int) ≠ 0, (decide (p < 2147483648)) = true → AVal.t (.sc (.int .i64 ((i : Int) % 2))) = .t (.sc (.int .i64 ((i : Int).tmod 2))), (decide (p < 2147483648)) = true → (decide (p < 2147483648)) = true, (decide (p < 2147483648)) = true → (decide (p < 2147483648)) = true, (decide (p < 2147483648)) = true → (2 : Int) ≠ 0, (decide (p < 2147483648)) = true → AVal.t (.sc (.int .i64 ((j : Int) % 2))) = .t (.sc (.int .i64 ((j : Int).tmod 2))), (decide (p < 2147483648)) = true → (decide (p < 2147483648)) = true, (decide (p < 2147483648)) = true → (decide (p < 2147483648)) = true, (decide (p < 2147483648)) = true → (decide (p < 2147483648)) = true, (decide (p < 2147483648)) = true → (decide (p < 2147483648)) = true, (decide (p < 2147483648)) = true → callable Try.prog f = true, (decide (p < 2147483648)) = true → FC Try.prog f [.t (.sc (.bool (((i : Int) % 2) == 1))), .t (.sc (.bool (((j : Int) % 2) == 1)))] emp (.t (.sc (.bool (w (((i : Int) % 2) == 1) (((j : Int) % 2) == 1))))) emp, (decide (p < 2147483648)) = true → (decide (p < 2147483648)) = true]) (by kernel_rfl) ?_ ?_
        · -- region 9
          exact ⟨(by first | exact fun h => h | (intro hg; (try simp only [decide_eq_true_eq, decide_eq_false_iff_not, Int.not_lt, Int.not_le] at hg); omega) | (intro _; (first | omega | exact fun h => h | (simp only [List.length_map]; done) | (simp only [List.length_map]; omega) | (simp; omega) | (simp; done)))), (by first | exact fun h => h | (intro hg; (try simp only [decide_eq_true_eq, decide_eq_false_iff_not, Int.not_lt, Int.not_le] at hg); omega) | (intro _; (first | omega | exact fun h => h | (simp only [List.length_map]; done) | (simp only [List.length_map]; omega) | (simp; omega) | (simp; done)))), (fun hg => by (try simp only [decide_eq_true_eq, decide_eq_false_iff_not, Int.not_lt, Int.not_le] at hg); exact (rem_nn (by (first | omega | exact fun h => h | (simp only [List.length_map]; done) | (simp only [List.length_map]; omega) | (simp; omega) | (simp; done))))), (by first | exact fun h => h | (intro hg; (try simp only [decide_eq_true_eq, decide_eq_false_iff_not, Int.not_lt, Int.not_le] at hg); omega) | (intro _; (first | omega | exact fun h => h | (simp only [List.length_map]; done) | (simp only [List.length_map]; omega) | (simp; omega) | (simp; done)))), (by first | exact fun h => h | (intro hg; (try simp only [decide_eq_true_eq, decide_eq_false_iff_not, Int.not_lt, Int.not_le] at hg); omega) | (intro _; (first | omega | exact fun h => h | (simp only [List.length_map]; done) | (simp only [List.length_map]; omega) | (simp; omega) | (simp; done)))), (by first | exact fun h => h | (intro hg; (try simp only [decide_eq_true_eq, decide_eq_false_iff_not, Int.not_lt, Int.not_le] at hg); omega) | (intro _; (first | omega | exact fun h => h | (simp only [List.length_map]; done) | (simp only [List.length_map]; omega) | (simp; omega) | (simp; done)))), (fun hg => by (try simp only [decide_eq_true_eq, decide_eq_false_iff_not, Int.not_lt, Int.not_le] at hg); exact (rem_nn (by (first | omega | exact fun h => h | (simp only [List.length_map]; done) | (simp only [List.length_map]; omega) | (simp; omega) | (simp; done))))), (by first | exact fun h => h | (intro hg; (try simp only [decide_eq_true_eq, decide_eq_false_iff_not, Int.not_lt, Int.not_le] at hg); omega) | (intro _; (first | omega | exact fun h => h | (simp only [List.length_map]; done) | (simp only [List.length_map]; omega) | (simp; omega) | (simp; done)))), (by first | exact fun h => h | (intro hg; (try simp only [decide_eq_true_eq, decide_eq_false_iff_not, Int.not_lt, Int.not_le] at hg); omega) | (intro _; (first | omega | exact fun h => h | (simp only [List.length_map]; done) | (simp only [List.length_map]; omega) | (simp; omega) | (simp; done)))), (by first | exact fun h => h | (intro hg; (try simp only [decide_eq_true_eq, decide_eq_false_iff_not, Int.not_lt, Int.not_le] at hg); omega) | (intro _; (first | omega | exact fun h => h | (simp only [List.length_map]; done) | (simp only [List.length_map]; omega) | (simp; omega) | (simp; done)))), (by first | exact fun h => h | (intro hg; (try simp only [decide_eq_true_eq, decide_eq_false_iff_not, Int.not_lt, Int.not_le] at hg); omega) | (intro _; (first | omega | exact fun h => h | (simp only [List.length_map]; done) | (simp only [List.length_map]; omega) | (simp; omega) | (simp; done)))), (fun hg => by (try simp only [decide_eq_true_eq, decide_eq_false_iff_not, Int.not_lt, Int.not_le] at hg); exact hfc), (fun hg => by (try simp only [decide_eq_true_eq, decide_eq_false_iff_not, Int.not_lt, Int.not_le] at hg); exact (hf (((i : Int) % 2) == 1) (((j : Int) % 2) == 1))), (by (first | omega | exact fun h => h | (simp only [List.length_map]; done) | (simp only [List.length_map]; omega) | (simp; omega) | (simp; done))), trivial⟩
        refine andThen_normal ?_
        refine Sim.cond (b := (decide (p < 2147483648) && (w (((i : Int) % 2) == 1) (((j : Int) % 2) == 1)))) rfl (fun h9 => ?_) (fun h9 => ?_)
        · (try simp only [decide_eq_true_eq, decide_eq_false_iff_not, Int.not_lt, Int.not_le, Bool.and_eq_true, Bool.and_eq_false_iff, Bool.not_eq_true', Bool.not_eq_false', beq_iff_eq, beq_eq_false_iff_ne, ne_eq] at h9)
          refine Sim.reg (orcs := [(4, ⟨none, none, none, some (⟨2, [40], .row 40 ((addS out ({ fr := p, to := 2147483648 } : Span)).length), [(40, .row 2 false (List.map spanT (addS out ({ fr := p, to := 2147483648 } : Span))))]⟩)⟩)]) (keys := [0, 1, 2, 7, 9, 10, 11]) (τ := [(40, 40)]) (nx := 377)
            (sl := [(0, .t (.lst 2 (List.map spanT a))), (1, .t (.lst 2 (List.map spanT b))), (2, .fn f []), (7, .row 40 ((addS out ({ fr := p, to := 2147483648 } : Span)).length)), (9, .t (.sc (.int .i64 (i : Int)))), (10, .t (.sc (.int .i64 (j : Int)))), (11, .t (.sc (.int .i64 2147483648)))]) (l := [(40, .row 2 false (List.map spanT (addS out ({ fr := p, to := 2147483648 } : Span))))])
            (C := [callable Try.prog 121 = true, FC Try.prog 121 [.row 40 out.length, .t (spanT ({ fr := p, to := 2147483648 } : Span))] (only (only (app emp [(40, .row 2 false (List.map spanT out))]) [40, 40]) [40]) (.row 40 ((addS out ({ fr := p, to := 2147483648 } : Span)).length)) (app (only (only (app emp [(40, .row 2 false (List.map spanT out))]) [40, 40]) [40]) [(40, .row 2 false (List.map spanT (addS out ({ fr := p, to := 2147483648 } : Span))))])]) (by kernel_rfl) ?_ ?_
          · -- region 10
            exact ⟨(by kernel_rfl), (FC.at (FC.ren (fc_add out ({ fr := p, to := 2147483648 } : Span) (by (first | omega | exact fun h => h | (simp only [List.length_map]; done) | (simp only [List.length_map]; omega) | (simp; omega) | (simp; done)))) [(0, 40)] [(0, 40)] (l0' := [(40, .row 2 false (List.map spanT out))]) (args' := [.row 40 out.length, .t (spanT ({ fr := p, to := 2147483648 } : Span))]) (res' := .row 40 ((addS out ({ fr := p, to := 2147483648 } : Span)).length)) (l1' := [(40, .row 2 false (List.map spanT (addS out ({ fr := p, to := 2147483648 } : Span))))]) (by kernel_rfl) (by kernel_rfl) (by kernel_rfl) (by kernel_rfl) (by kernel_rfl) (by kernel_rfl)) (fun i => by by_cases e0 : i = 40; (subst e0; rfl); simp only [only, app, upd, emp, hasId, cond_false, beq_ne e0, beq_ne (Ne.symm e0)]) (fun i => by by_cases e0 : i = 40; (subst e0; rfl); simp only [only, app, upd, emp, hasId, cond_false, beq_ne e0, beq_ne (Ne.symm e0)])), trivial⟩
          refine andThen_normal ?_
          refine Sim.seq ?_
          refine Sim.reg (orcs := []) (keys := [0, 1, 2, 7, 8, 9, 10]) (τ := [(40, 40)]) (nx := 393)
            (sl := [(0, .t (.lst 2 (List.map spanT a))), (1, .t (.lst 2 (List.map spanT b))), (2, .fn f []), (7, .row 40 ((addS out ({ fr := p, to := 2147483648 } : Span)).length)), (8, .t (.sc (.int .i64 2147483648))), (9, .t (.sc (.int .i64 (i : Int)))), (10, .t (.sc (.int .i64 (j : Int))))]) (l := [(40, .row 2 false (List.map spanT (addS out ({ fr := p, to := 2147483648 } : Span))))])
            (C := []) (by kernel_rfl) ?_ ?_
          · -- region 11
            trivial
          refine andThen_normal ?_
          refine Sim.seq ?_
          refine Sim.block ?_
          refine Sim.weaken (Le.ren (τ := [(40, 40)]) (keys := [0, 1, 2, 7, 8, 9, 10]) (nx := 393) (sl := [(0, .t (.lst 2 (List.map spanT a))), (1, .t (.lst 2 (List.map spanT b))), (2, .fn f []), (7, .row 40 ((addS out ({ fr := p, to := 2147483648 } : Span)).length)), (8, .t (.sc (.int .i64 2147483648))), (9, .t (.sc (.int .i64 (i : Int)))), (10, .t (.sc (.int .i64 (j : Int))))]) (l := [(40, .row 2 false (List.map spanT (addS out ({ fr := p, to := 2147483648 } : Span))))]) (by kernel_rfl)) ?_
          refine Sim.loop ?_
          refine loop_ind (α := Nat) (fun i1 => ⟨[(0, .t (.lst 2 (List.map spanT a))), (1, .t (.lst 2 (List.map spanT b))), (2, .fn f []), (7, .row 40 ((addS out ({ fr := p, to := 2147483648 } : Span)).length)), (8, .t (.sc (.int .i64 2147483648))), (9, .t (.sc (.int .i64 (i1 : Int)))), (10, .t (.sc (.int .i64 (j : Int))))], app emp [(40, .row 2 false (List.map spanT (addS out ({ fr := p, to := 2147483648 } : Span))))], 393⟩) (fun i1 => i ≤ i1 ∧ i1 ≤ 2 * a.length ∧ skipS a i 2147483648 = skipS a i1 2147483648) (fun i1 => 2 * a.length - i1) ?_ (i : Nat) ?_
          rotate_left
          · -- loop 12, start
            exact ⟨by omega, by omega, rfl⟩
          rintro i1 I12 ih12
          show LoopSim _ _ _ _ ⟨[(0, .t (.lst 2 (List.map spanT a))), (1, .t (.lst 2 (List.map spanT b))), (2, .fn f []), (7, .row 40 ((addS out ({ fr := p, to := 2147483648 } : Span)).length)), (8, .t (.sc (.int .i64 2147483648))), (9, .t (.sc (.int .i64 (i1 : Int)))), (10, .t (.sc (.int .i64 (j : Int))))], app emp [(40, .row 2 false (List.map spanT (addS out ({ fr := p, to := 2147483648 } : Span))))], 393⟩ _
          replace I12 : i ≤ i1 ∧ i1 ≤ 2 * a.length ∧ skipS a i 2147483648 = skipS a i1 2147483648 := I12
          refine LoopSim.step ?_
          refine Sim.seq ?_
          refine Sim.seq ?_
          refine Sim.reg (orcs := [(2, ⟨some (.t (.sc (.int .i64 (a.length : Int)))), none, none, none⟩), (3, ⟨some (.t (.sc (.int .i64 (2 * (a.length : Int))))), none, none, none⟩), (8, ⟨none, none, none, some (⟨0, [], .t (.sc (.int .i64 (endS a i1))), []⟩)⟩)]) (keys := [0, 1, 2, 7, 8, 9, 10, 72]) (τ := [(40, 40)]) (nx := 489)
            (sl := [(0, .t (.lst 2 (List.map spanT a))), (1, .t (.lst 2 (List.map spanT b))), (2, .fn f []), (7, .row 40 ((addS out ({ fr := p, to := 2147483648 } : Span)).length)), (8, .t (.sc (.int .i64 2147483648))), (9, .t (.sc (.int .i64 (i1 : Int)))), (10, .t (.sc (.int .i64 (j : Int)))), (72, .t (.sc (.bool (decide ((i1 : Int) < (2 * (a.length : Int))) && ((endS a i1) == 2147483648)))))]) (l := [(40, .row 2 false (List.map spanT (addS out ({ fr := p, to := 2147483648 } : Span))))])
            (C := [AVal.t (.sc (.int .i64 (a.length : Int))) = .t (.sc (.int .i64 ((List.map spanT a).length : Int))), AVal.t (.sc (.int .i64 (2 * (a.length : Int)))) = .t (.sc (.int .i64 (IntKind.i64.wrap (2 * (a.length : Int))))), (decide ((i1 : Int) < (2 * (a.length : Int)))) = true → (decide ((i1 : Int) < (2 * (a.length : Int)))) = true, (decide ((i1 : Int) < (2 * (a.length : Int)))) = true → (decide ((i1 : Int) < (2 * (a.length : Int)))) = true, (decide ((i1 : Int) < (2 * (a.length : Int)))) = true → callable Try.prog 148 = true, (decide ((i1 : Int) < (2 * (a.length : Int)))) = true → FC Try.prog 148 [.t (.lst 2 (List.map spanT a)), .t (.sc (.int .i64 (i1 : Int)))] emp (.t (.sc (.int .i64 (endS a i1)))) emp, (decide ((i1 : Int) < (2 * (a.length : Int)))) = true → (decide ((i1 : Int) < (2 * (a.length : Int)))) = true, (decide ((i1 : Int) < (2 * (a.length : Int)))) = true → (decide ((i1 : Int) < (2 * (a.length : Int)))) = true, (decide ((i1 : Int) < (2 * (a.length : Int)))) = true → (decide ((i1 : Int) < (2 * (a.length : Int)))) = true]) (by kernel_rfl) ?_ ?_
          · -- region 12
            exact ⟨len_map, (nw (by (first | omega | exact fun h => h | (simp only [List.length_map]; done) | (simp only [List.length_map]; omega) | (simp; omega) | (simp; done)))), (by first | exact fun h => h | (intro hg; (try simp only [decide_eq_true_eq, decide_eq_false_iff_not, Int.not_lt, Int.not_le] at hg); omega) | (intro _; (first | omega | exact fun h => h | (simp only [List.length_map]; done) | (simp only [List.length_map]; omega) | (simp; omega) | (simp; done)))), (by first | exact fun h => h | (intro hg; (try simp only [decide_eq_true_eq, decide_eq_false_iff_not, Int.not_lt, Int.not_le] at hg); omega) | (intro _; (first | omega | exact fun h => h | (simp only [List.length_map]; done) | (simp only [List.length_map]; omega) | (simp; omega) | (simp; done)))), (fun hg => by (try simp only [decide_eq_true_eq, decide_eq_false_iff_not, Int.not_lt, Int.not_le] at hg); exact (by kernel_rfl)), (fun hg => by (try simp only [decide_eq_true_eq, decide_eq_false_iff_not, Int.not_lt, Int.not_le] at hg); exact (fc_end a i1 (by (first | omega | exact fun h => h | (simp only [List.length_map]; done) | (simp only [List.length_map]; omega) | (simp; omega) | (simp; done))) (by (first | omega | exact fun h => h | (simp only [List.length_map]; done) | (simp only [List.length_map]; omega) | (simp; omega) | (simp; done))))), (by first | exact fun h => h | (intro hg; (try simp only [decide_eq_true_eq, decide_eq_false_iff_not, Int.not_lt, Int.not_le] at hg); omega) | (intro _; (first | omega | exact fun h => h | (simp only [List.length_map]; done) | (simp only [List.length_map]; omega) | (simp; omega) | (simp; done)))), (by first | exact fun h => h | (intro hg; (try simp only [decide_eq_true_eq, decide_eq_false_iff_not, Int.not_lt, Int.not_le] at hg); omega) | (intro _; (first | omega | exact fun h => h | (simp only [List.length_map]; done) | (simp only [List.length_map]; omega) | (simp; omega) | (simp; done)))), (by (first | omega | exact fun h => h | (simp only [List.length_map]; done) | (simp only [List.length_map]; omega) | (simp; omega) | (simp; done))), trivial⟩
          refine andThen_normal ?_
          refine Sim.cond (b := (decide ((i1 : Int) < (2 * (a.length : Int))) && ((endS a i1) == 2147483648))) rfl (fun h12 => ?_) (fun h12 => ?_)
          · (try simp only [decide_eq_true_eq, decide_eq_false_iff_not, Int.not_lt, Int.not_le, Bool.and_eq_true, Bool.and_eq_false_iff, Bool.not_eq_true', Bool.not_eq_false', beq_iff_eq, beq_eq_false_iff_ne, ne_eq] at h12)
            refine Sim.skip ?_
            refine andThen_normal ?_
            refine Sim.block ?_
            refine Sim.reg (orcs := [(1, ⟨some (.t (.sc (.int .i64 ((i1 : Int) + 1)))), none, none, none⟩)]) (keys := [0, 1, 2, 7, 8, 9, 10]) (τ := [(40, 40)]) (nx := 513)
              (sl := [(0, .t (.lst 2 (List.map spanT a))), (1, .t (.lst 2 (List.map spanT b))), (2, .fn f []), (7, .row 40 ((addS out ({ fr := p, to := 2147483648 } : Span)).length)), (8, .t (.sc (.int .i64 2147483648))), (9, .t (.sc (.int .i64 ((i1 : Int) + 1)))), (10, .t (.sc (.int .i64 (j : Int))))]) (l := [(40, .row 2 false (List.map spanT (addS out ({ fr := p, to := 2147483648 } : Span))))])
              (C := [AVal.t (.sc (.int .i64 ((i1 : Int) + 1))) = .t (.sc (.int .i64 (IntKind.i64.wrap ((i1 : Int) + 1))))]) (by kernel_rfl) ?_ ?_
            · -- region 13
              exact ⟨(nw (by (first | omega | exact fun h => h | (simp only [List.length_map]; done) | (simp only [List.length_map]; omega) | (simp; omega) | (simp; done)))), trivial⟩
            refine inBlk_normal ?_
            refine andThen_normal ?_
            refine LoopSim.weaken (Le.ren (τ := [(40, 40)]) (keys := [0, 1, 2, 7, 8, 9, 10]) (nx := 393) (sl := [(0, .t (.lst 2 (List.map spanT a))), (1, .t (.lst 2 (List.map spanT b))), (2, .fn f []), (7, .row 40 ((addS out ({ fr := p, to := 2147483648 } : Span)).length)), (8, .t (.sc (.int .i64 2147483648))), (9, .t (.sc (.int .i64 (((i1 + 1) : Nat) : Int)))), (10, .t (.sc (.int .i64 (j : Int))))]) (l := [(40, .row 2 false (List.map spanT (addS out ({ fr := p, to := 2147483648 } : Span))))]) (by kernel_rfl)) ?_
            refine ih12 ((i1 + 1) : Nat) ?_ ?_
            · -- back 12.1, invariant
              refine ⟨by omega, by omega, ?_⟩; rw [I12.2.2, skipS.eq_def a i1, if_pos (by omega)]
            · -- back 12.1, measure
              show (_:Nat) < _; (first | omega | exact fun h => h | (simp only [List.length_map]; done) | (simp only [List.length_map]; omega) | (simp; omega) | (simp; done))
          · (try simp only [decide_eq_true_eq, decide_eq_false_iff_not, Int.not_lt, Int.not_le, Bool.and_eq_true, Bool.and_eq_false_iff, Bool.not_eq_true', Bool.not_eq_false', beq_iff_eq, beq_eq_false_iff_ne, ne_eq] at h12)
            refine Sim.exit ?_
            refine andThen_exit ?_
            refine andThen_exit ?_
            refine inBlk_same ?_
            refine andThen_normal ?_
            refine Sim.block ?_
            refine Sim.weaken (Le.ren (τ := [(40, 40)]) (keys := [0, 1, 2, 7, 8, 9, 10]) (nx := 489) (sl := [(0, .t (.lst 2 (List.map spanT a))), (1, .t (.lst 2 (List.map spanT b))), (2, .fn f []), (7, .row 40 ((addS out ({ fr := p, to := 2147483648 } : Span)).length)), (8, .t (.sc (.int .i64 2147483648))), (9, .t (.sc (.int .i64 (i1 : Int)))), (10, .t (.sc (.int .i64 (j : Int))))]) (l := [(40, .row 2 false (List.map spanT (addS out ({ fr := p, to := 2147483648 } : Span))))]) (by kernel_rfl)) ?_
            refine Sim.loop ?_
            refine loop_ind (α := Nat) (fun j1 => ⟨[(0, .t (.lst 2 (List.map spanT a))), (1, .t (.lst 2 (List.map spanT b))), (2, .fn f []), (7, .row 40 ((addS out ({ fr := p, to := 2147483648 } : Span)).length)), (8, .t (.sc (.int .i64 2147483648))), (9, .t (.sc (.int .i64 (i1 : Int)))), (10, .t (.sc (.int .i64 (j1 : Int))))], app emp [(40, .row 2 false (List.map spanT (addS out ({ fr := p, to := 2147483648 } : Span))))], 489⟩) (fun j1 => j ≤ j1 ∧ j1 ≤ 2 * b.length ∧ skipS b j 2147483648 = skipS b j1 2147483648) (fun j1 => 2 * b.length - j1) ?_ (j : Nat) ?_
            rotate_left
            · -- loop 14, start
              exact ⟨by omega, by omega, rfl⟩
            rintro j1 I14 ih14
            show LoopSim _ _ _ _ ⟨[(0, .t (.lst 2 (List.map spanT a))), (1, .t (.lst 2 (List.map spanT b))), (2, .fn f []), (7, .row 40 ((addS out ({ fr := p, to := 2147483648 } : Span)).length)), (8, .t (.sc (.int .i64 2147483648))), (9, .t (.sc (.int .i64 (i1 : Int)))), (10, .t (.sc (.int .i64 (j1 : Int))))], app emp [(40, .row 2 false (List.map spanT (addS out ({ fr := p, to := 2147483648 } : Span))))], 489⟩ _
            replace I14 : j ≤ j1 ∧ j1 ≤ 2 * b.length ∧ skipS b j 2147483648 = skipS b j1 2147483648 := I14
            refine LoopSim.step ?_
            refine Sim.seq ?_
            refine Sim.seq ?_
            refine Sim.reg (orcs := [(2, ⟨some (.t (.sc (.int .i64 (b.length : Int)))), none, none, none⟩), (3, ⟨some (.t (.sc (.int .i64 (2 * (b.length : Int))))), none, none, none⟩), (8, ⟨none, none, none, some (⟨0, [], .t (.sc (.int .i64 (endS b j1))), []⟩)⟩)]) (keys := [0, 1, 2, 7, 8, 9, 10, 86]) (τ := [(40, 40)]) (nx := 585)
              (sl := [(0, .t (.lst 2 (List.map spanT a))), (1, .t (.lst 2 (List.map spanT b))), (2, .fn f []), (7, .row 40 ((addS out ({ fr := p, to := 2147483648 } : Span)).length)), (8, .t (.sc (.int .i64 2147483648))), (9, .t (.sc (.int .i64 (i1 : Int)))), (10, .t (.sc (.int .i64 (j1 : Int)))), (86, .t (.sc (.bool (decide ((j1 : Int) < (2 * (b.length : Int))) && ((endS b j1) == 2147483648)))))]) (l := [(40, .row 2 false (List.map spanT (addS out ({ fr := p, to := 2147483648 } : Span))))])
              (C := [AVal.t (.sc (.int .i64 (b.length : Int))) = .t (.sc (.int .i64 ((List.map spanT b).length : Int))), AVal.t (.sc (.int .i64 (2 * (b.length : Int)))) = .t (.sc (.int .i64 (IntKind.i64.wrap (2 * (b.length : Int))))), (decide ((j1 : Int) < (2 * (b.length : Int)))) = true → (decide ((j1 : Int) < (2 * (b.length : Int)))) = true, (decide ((j1 : Int) < (2 * (b.length : Int)))) = true → (decide ((j1 : Int) < (2 * (b.length : Int)))) = true, (decide ((j1 : Int) < (2 * (b.length : Int)))) = true → callable Try.prog 148 = true, (decide ((j1 : Int) < (2 * (b.length : Int)))) = true → FC Try.prog 148 [.t (.lst 2 (List.map spanT b)), .t (.sc (.int .i64 (j1 : Int)))] emp (.t (.sc (.int .i64 (endS b j1)))) emp, (decide ((j1 : Int) < (2 * (b.length : Int)))) = true → (decide ((j1 : Int) < (2 * (b.length : Int)))) = true, (decide ((j1 : Int) < (2 * (b.length : Int)))) = true → (decide ((j1 : Int) < (2 * (b.length : Int)))) = true, (decide ((j1 : Int) < (2 * (b.length : Int)))) = true → (decide ((j1 : Int) < (2 * (b.length : Int)))) = true]) (by kernel_rfl) ?_ ?_
            · -- region 14
              exact ⟨len_map, (nw (by (first | omega | exact fun h => h | (simp only [List.length_map]; done) | (simp only [List.length_map]; omega) | (simp; omega) | (simp; done)))), (by first | exact fun h => h | (intro hg; (try simp only [decide_eq_true_eq, decide_eq_false_iff_not, Int.not_lt, Int.not_le] at hg); omega) | (intro _; (first | omega | exact fun h => h | (simp only [List.length_map]; done) | (simp only [List.length_map]; omega) | (simp; omega) | (simp; done)))), (by first | exact fun h => h | (intro hg; (try simp only [decide_eq_true_eq, decide_eq_false_iff_not, Int.not_lt, Int.not_le] at hg); omega) | (intro _; (first | omega | exact fun h => h | (simp only [List.length_map]; done) | (simp only [List.length_map]; omega) | (simp; omega) | (simp; done)))), (fun hg => by (try simp only [decide_eq_true_eq, decide_eq_false_iff_not, Int.not_lt, Int.not_le] at hg); exact (by kernel_rfl)), (fun hg => by (try simp only [decide_eq_true_eq, decide_eq_false_iff_not, Int.not_lt, Int.not_le] at hg); exact (fc_end b j1 (by (first | omega | exact fun h => h | (simp only [List.length_map]; done) | (simp only [List.length_map]; omega) | (simp; omega) | (simp; done))) (by (first | omega | exact fun h => h | (simp only [List.length_map]; done) | (simp only [List.length_map]; omega) | (simp; omega) | (simp; done))))), (by first | exact fun h => h | (intro hg; (try simp only [decide_eq_true_eq, decide_eq_false_iff_not, Int.not_lt, Int.not_le] at hg); omega) | (intro _; (first | omega | exact fun h => h | (simp only [List.length_map]; done) | (simp only [List.length_map]; omega) | (simp; omega) | (simp; done)))), (by first | exact fun h => h | (intro hg; (try simp only [decide_eq_true_eq, decide_eq_false_iff_not, Int.not_lt, Int.not_le] at hg); omega) | (intro _; (first | omega | exact fun h => h | (simp only [List.length_map]; done) | (simp only [List.length_map]; omega) | (simp; omega) | (simp; done)))), (by (first | omega | exact fun h => h | (simp only [List.length_map]; done) | (simp only [List.length_map]; omega) | (simp; omega) | (simp; done))), trivial⟩
            refine andThen_normal ?_
            refine Sim.cond (b := (decide ((j1 : Int) < (2 * (b.length : Int))) && ((endS b j1) == 2147483648))) rfl (fun h14 => ?_) (fun h14 => ?_)
            · (try simp only [decide_eq_true_eq, decide_eq_false_iff_not, Int.not_lt, Int.not_le, Bool.and_eq_true, Bool.and_eq_false_iff, Bool.not_eq_true', Bool.not_eq_false', beq_iff_eq, beq_eq_false_iff_ne, ne_eq] at h14)
              refine Sim.skip ?_
              refine andThen_normal ?_
              refine Sim.block ?_
              refine Sim.reg (orcs := [(1, ⟨some (.t (.sc (.int .i64 ((j1 : Int) + 1)))), none, none, none⟩)]) (keys := [0, 1, 2, 7, 8, 9, 10]) (τ := [(40, 40)]) (nx := 609)
                (sl := [(0, .t (.lst 2 (List.map spanT a))), (1, .t (.lst 2 (List.map spanT b))), (2, .fn f []), (7, .row 40 ((addS out ({ fr := p, to := 2147483648 } : Span)).length)), (8, .t (.sc (.int .i64 2147483648))), (9, .t (.sc (.int .i64 (i1 : Int)))), (10, .t (.sc (.int .i64 ((j1 : Int) + 1))))]) (l := [(40, .row 2 false (List.map spanT (addS out ({ fr := p, to := 2147483648 } : Span))))])
                (C := [AVal.t (.sc (.int .i64 ((j1 : Int) + 1))) = .t (.sc (.int .i64 (IntKind.i64.wrap ((j1 : Int) + 1))))]) (by kernel_rfl) ?_ ?_
              · -- region 15
                exact ⟨(nw (by (first | omega | exact fun h => h | (simp only [List.length_map]; done) | (simp only [List.length_map]; omega) | (simp; omega) | (simp; done)))), trivial⟩
              refine inBlk_normal ?_
              refine andThen_normal ?_
              refine LoopSim.weaken (Le.ren (τ := [(40, 40)]) (keys := [0, 1, 2, 7, 8, 9, 10]) (nx := 489) (sl := [(0, .t (.lst 2 (List.map spanT a))), (1, .t (.lst 2 (List.map spanT b))), (2, .fn f []), (7, .row 40 ((addS out ({ fr := p, to := 2147483648 } : Span)).length)), (8, .t (.sc (.int .i64 2147483648))), (9, .t (.sc (.int .i64 (i1 : Int)))), (10, .t (.sc (.int .i64 (((j1 + 1) : Nat) : Int))))]) (l := [(40, .row 2 false (List.map spanT (addS out ({ fr := p, to := 2147483648 } : Span))))]) (by kernel_rfl)) ?_
              refine ih14 ((j1 + 1) : Nat) ?_ ?_
              · -- back 14.1, invariant
                refine ⟨by omega, by omega, ?_⟩; rw [I14.2.2, skipS.eq_def b j1, if_pos (by omega)]
              · -- back 14.1, measure
                show (_:Nat) < _; (first | omega | exact fun h => h | (simp only [List.length_map]; done) | (simp only [List.length_map]; omega) | (simp; omega) | (simp; done))
            · (try simp only [decide_eq_true_eq, decide_eq_false_iff_not, Int.not_lt, Int.not_le, Bool.and_eq_true, Bool.and_eq_false_iff, Bool.not_eq_true', Bool.not_eq_false', beq_iff_eq, beq_eq_false_iff_ne, ne_eq] at h14)
              refine Sim.exit ?_
              refine andThen_exit ?_
              refine andThen_exit ?_
              refine inBlk_same ?_
              refine inBlk_normal ?_
              refine andThen_normal ?_
              refine LoopSim.weaken (Le.ren (τ := [(40, 40)]) (keys := [0, 1, 2, 7, 8, 9, 10]) (nx := 41) (sl := [(0, .t (.lst 2 (List.map spanT a))), (1, .t (.lst 2 (List.map spanT b))), (2, .fn f []), (7, .row 40 ((addS out ({ fr := p, to := 2147483648 } : Span)).length)), (8, .t (.sc (.int .i64 2147483648))), (9, .t (.sc (.int .i64 (i1 : Int)))), (10, .t (.sc (.int .i64 (j1 : Int))))]) (l := [(40, .row 2 false (List.map spanT (addS out ({ fr := p, to := 2147483648 } : Span))))]) (by kernel_rfl)) ?_
              have hn : nextS a b i j = 2147483648 := by unfold nextS; ((repeat' split) <;> first | rfl | omega | (simp_all; done) | (simp_all; omega))
              have hi : skipS a i1 2147483648 = i1 := by rw [skipS.eq_def, if_neg (by omega)]
              have hj : skipS b j1 2147483648 = j1 := by rw [skipS.eq_def, if_neg (by omega)]
              have hp := skip_prog a b i j (by omega) hb
              have hs := mergeS_step w a b out p i j (by omega) hb
              rw [hn, I12.2.2, hi, I14.2.2, hj] at hs hp
              simp only [mod2] at h9
              have hl := addS_len out ⟨p, 2147483648⟩
              refine ih3 (2147483648, i1, j1, (addS out ({ fr := p, to := 2147483648 } : Span))) ?_ ?_
              · -- back 3.7, invariant
                refine ⟨by omega, by omega, by omega, ?_⟩
                rw [I3.2.2.2, hs]
                first | rw [if_pos h9] | rw [if_neg (fun hh => by rcases h9 with h9 | h9; omega; exact absurd hh.2 (by rw [h9]; decide))]
              · -- back 3.7, measure
                show (_:Nat) < _; (first | omega | exact fun h => h | (simp only [List.length_map]; done) | (simp only [List.length_map]; omega) | (simp; omega) | (simp; done))
        · (try simp only [decide_eq_true_eq, decide_eq_false_iff_not, Int.not_lt, Int.not_le, Bool.and_eq_true, Bool.and_eq_false_iff, Bool.not_eq_true', Bool.not_eq_false', beq_iff_eq, beq_eq_false_iff_ne, ne_eq] at h9)
          refine Sim.skip ?_
          refine andThen_normal ?_
          refine Sim.seq ?_
          refine Sim.reg (orcs := []) (keys := [0, 1, 2, 7, 8, 9, 10]) (τ := [(40, 40)]) (nx := 345)
            (sl := [(0, .t (.lst 2 (List.map spanT a))), (1, .t (.lst 2 (List.map spanT b))), (2, .fn f []), (7, .row 40 out.length), (8, .t (.sc (.int .i64 2147483648))), (9, .t (.sc (.int .i64 (i : Int)))), (10, .t (.sc (.int .i64 (j : Int))))]) (l := [(40, .row 2 false (List.map spanT out))])
            (C := []) (by kernel_rfl) ?_ ?_
          · -- region 11
            trivial
          refine andThen_normal ?_
          refine Sim.seq ?_
          refine Sim.block ?_
          refine Sim.weaken (Le.ren (τ := [(40, 40)]) (keys := [0, 1, 2, 7, 8, 9, 10]) (nx := 345) (sl := [(0, .t (.lst 2 (List.map spanT a))), (1, .t (.lst 2 (List.map spanT b))), (2, .fn f []), (7, .row 40 out.length), (8, .t (.sc (.int .i64 2147483648))), (9, .t (.sc (.int .i64 (i : Int)))), (10, .t (.sc (.int .i64 (j : Int))))]) (l := [(40, .row 2 false (List.map spanT out))]) (by kernel_rfl)) ?_
          refine Sim.loop ?_
          refine loop_ind (α := Nat) (fun i1 => ⟨[(0, .t (.lst 2 (List.map spanT a))), (1, .t (.lst 2 (List.map spanT b))), (2, .fn f []), (7, .row 40 out.length), (8, .t (.sc (.int .i64 2147483648))), (9, .t (.sc (.int .i64 (i1 : Int)))), (10, .t (.sc (.int .i64 (j : Int))))], app emp [(40, .row 2 false (List.map spanT out))], 345⟩) (fun i1 => i ≤ i1 ∧ i1 ≤ 2 * a.length ∧ skipS a i 2147483648 = skipS a i1 2147483648) (fun i1 => 2 * a.length - i1) ?_ (i : Nat) ?_
          rotate_left
          · -- loop 12, start
            exact ⟨by omega, by omega, rfl⟩
          rintro i1 I12 ih12
          show LoopSim _ _ _ _ ⟨[(0, .t (.lst 2 (List.map spanT a))), (1, .t (.lst 2 (List.map spanT b))), (2, .fn f []), (7, .row 40 out.length), (8, .t (.sc (.int .i64 2147483648))), (9, .t (.sc (.int .i64 (i1 : Int)))), (10, .t (.sc (.int .i64 (j : Int))))], app emp [(40, .row 2 false (List.map spanT out))], 345⟩ _
          replace I12 : i ≤ i1 ∧ i1 ≤ 2 * a.length ∧ skipS a i 2147483648 = skipS a i1 2147483648 := I12
          refine LoopSim.step ?_
          refine Sim.seq ?_
          refine Sim.seq ?_
          refine Sim.reg (orcs := [(2, ⟨some (.t (.sc (.int .i64 (a.length : Int)))), none, none, none⟩), (3, ⟨some (.t (.sc (.int .i64 (2 * (a.length : Int))))), none, none, none⟩), (8, ⟨none, none, none, some (⟨0, [], .t (.sc (.int .i64 (endS a i1))), []⟩)⟩)]) (keys := [0, 1, 2, 7, 8, 9, 10, 72]) (τ := [(40, 40)]) (nx := 441)
            (sl := [(0, .t (.lst 2 (List.map spanT a))), (1, .t (.lst 2 (List.map spanT b))), (2, .fn f []), (7, .row 40 out.length), (8, .t (.sc (.int .i64 2147483648))), (9, .t (.sc (.int .i64 (i1 : Int)))), (10, .t (.sc (.int .i64 (j : Int)))), (72, .t (.sc (.bool (decide ((i1 : Int) < (2 * (a.length : Int))) && ((endS a i1) == 2147483648)))))]) (l := [(40, .row 2 false (List.map spanT out))])
            (C := [AVal.t (.sc (.int .i64 (a.length : Int))) = .t (.sc (.int .i64 ((List.map spanT a).length : Int))), AVal.t (.sc (.int .i64 (2 * (a.length : Int)))) = .t (.sc (.int .i64 (IntKind.i64.wrap (2 * (a.length : Int))))), (decide ((i1 : Int) < (2 * (a.length : Int)))) = true → (decide ((i1 : Int) < (2 * (a.length : Int)))) = true, (decide ((i1 : Int) < (2 * (a.length : Int)))) = true → (decide ((i1 : Int) < (2 * (a.length : Int)))) = true, (decide ((i1 : Int) < (2 * (a.length : Int)))) = true → callable Try.prog 148 = true, (decide ((i1 : Int) < (2 * (a.length : Int)))) = true → FC Try.prog 148 [.t (.lst 2 (List.map spanT a)), .t (.sc (.int .i64 (i1 : Int)))] emp (.t (.sc (.int .i64 (endS a i1)))) emp, (decide ((i1 : Int) < (2 * (a.length : Int)))) = true → (decide ((i1 : Int) < (2 * (a.length : Int)))) = true, (decide ((i1 : Int) < (2 * (a.length : Int)))) = true → (decide ((i1 : Int) < (2 * (a.length : Int)))) = true, (decide ((i1 : Int) < (2 * (a.length : Int)))) = true → (decide ((i1 : Int) < (2 * (a.length : Int)))) = true]) (by kernel_rfl) ?_ ?_
          · -- region 12
            exact ⟨len_map, (nw (by (first | omega | exact fun h => h | (simp only [List.length_map]; done) | (simp only [List.length_map]; omega) | (simp; omega) | (simp; done)))), (by first | exact fun h => h | (intro hg; (try simp only [decide_eq_true_eq, decide_eq_false_iff_not, Int.not_lt, Int.not_le] at hg); omega) | (intro _; (first | omega | exact fun h => h | (simp only [List.length_map]; done) | (simp only [List.length_map]; omega) | (simp; omega) | (simp; done)))), (by first | exact fun h => h | (intro hg; (try simp only [decide_eq_true_eq, decide_eq_false_iff_not, Int.not_lt, Int.not_le] at hg); omega) | (intro _; (first | omega | exact fun h => h | (simp only [List.length_map]; done) | (simp only [List.length_map]; omega) | (simp; omega) | (simp; done)))), (fun hg => by (try simp only [decide_eq_true_eq, decide_eq_false_iff_not, Int.not_lt, Int.not_le] at hg); exact (by kernel_rfl)), (fun hg => by (try simp only [decide_eq_true_eq, decide_eq_false_iff_not, Int.not_lt, Int.not_le] at hg); exact (fc_end a i1 (by (first | omega | exact fun h => h | (simp only [List.length_map]; done) | (simp only [List.length_map]; omega) | (simp; omega) | (simp; done))) (by (first | omega | exact fun h => h | (simp only [List.length_map]; done) | (simp only [List.length_map]; omega) | (simp; omega) | (simp; done))))), (by first | exact fun h => h | (intro hg; (try simp only [decide_eq_true_eq, decide_eq_false_iff_not, Int.not_lt, Int.not_le] at hg); omega) | (intro _; (first | omega | exact fun h => h | (simp only [List.length_map]; done) | (simp only [List.length_map]; omega) | (simp; omega) | (simp; done)))), (by first | exact fun h => h | (intro hg; (try simp only [decide_eq_true_eq, decide_eq_false_iff_not, Int.not_lt, Int.not_le] at hg); omega) | (intro _; (first | omega | exact fun h => h | (simp only [List.length_map]; done) | (simp only [List.length_map]; omega) | (simp; omega) | (simp; done)))), (by (first | omega | exact fun h => h | (simp only [List.length_map]; done) | (simp only [List.length_map]; omega) | (simp; omega) | (simp; done))), trivial⟩
          refine andThen_normal ?_
          refine Sim.cond (b := (decide ((i1 : Int) < (2 * (a.length : Int))) && ((endS a i1) == 2147483648))) rfl (fun h12 => ?_) (fun h12 => ?_)
          · (try simp only [decide_eq_true_eq, decide_eq_false_iff_not, Int.not_lt, Int.not_le, Bool.and_eq_true, Bool.and_eq_false_iff, Bool.not_eq_true', Bool.not_eq_false', beq_iff_eq, beq_eq_false_iff_ne, ne_eq] at h12)
            refine Sim.skip ?_
            refine andThen_normal ?_
            refine Sim.block ?_
            refine Sim.reg (orcs := [(1, ⟨some (.t (.sc (.int .i64 ((i1 : Int) + 1)))), none, none, none⟩)]) (keys := [0, 1, 2, 7, 8, 9, 10]) (τ := [(40, 40)]) (nx := 465)
              (sl := [(0, .t (.lst 2 (List.map spanT a))), (1, .t (.lst 2 (List.map spanT b))), (2, .fn f []), (7, .row 40 out.length), (8, .t (.sc (.int .i64 2147483648))), (9, .t (.sc (.int .i64 ((i1 : Int) + 1)))), (10, .t (.sc (.int .i64 (j : Int))))]) (l := [(40, .row 2 false (List.map spanT out))])
              (C := [AVal.t (.sc (.int .i64 ((i1 : Int) + 1))) = .t (.sc (.int .i64 (IntKind.i64.wrap ((i1 : Int) + 1))))]) (by kernel_rfl) ?_ ?_
            · -- region 13
              exact ⟨(nw (by (first | omega | exact fun h => h | (simp only [List.length_map]; done) | (simp only [List.length_map]; omega) | (simp; omega) | (simp; done)))), trivial⟩
            refine inBlk_normal ?_
            refine andThen_normal ?_
            refine LoopSim.weaken (Le.ren (τ := [(40, 40)]) (keys := [0, 1, 2, 7, 8, 9, 10]) (nx := 345) (sl := [(0, .t (.lst 2 (List.map spanT a))), (1, .t (.lst 2 (List.map spanT b))), (2, .fn f []), (7, .row 40 out.length), (8, .t (.sc (.int .i64 2147483648))), (9, .t (.sc (.int .i64 (((i1 + 1) : Nat) : Int)))), (10, .t (.sc (.int .i64 (j : Int))))]) (l := [(40, .row 2 false (List.map spanT out))]) (by kernel_rfl)) ?_
            refine ih12 ((i1 + 1) : Nat) ?_ ?_
            · -- back 12.1, invariant
              refine ⟨by omega, by omega, ?_⟩; rw [I12.2.2, skipS.eq_def a i1, if_pos (by omega)]
            · -- back 12.1, measure
              show (_:Nat) < _; (first | omega | exact fun h => h | (simp only [List.length_map]; done) | (simp only [List.length_map]; omega) | (simp; omega) | (simp; done))
          · (try simp only [decide_eq_true_eq, decide_eq_false_iff_not, Int.not_lt, Int.not_le, Bool.and_eq_true, Bool.and_eq_false_iff, Bool.not_eq_true', Bool.not_eq_false', beq_iff_eq, beq_eq_false_iff_ne, ne_eq] at h12)
            refine Sim.exit ?_
            refine andThen_exit ?_
            refine andThen_exit ?_
            refine inBlk_same ?_
            refine andThen_normal ?_
            refine Sim.block ?_
            refine Sim.weaken (Le.ren (τ := [(40, 40)]) (keys := [0, 1, 2, 7, 8, 9, 10]) (nx := 441) (sl := [(0, .t (.lst 2 (List.map spanT a))), (1, .t (.lst 2 (List.map spanT b))), (2, .fn f []), (7, .row 40 out.length), (8, .t (.sc (.int .i64 2147483648))), (9, .t (.sc (.int .i64 (i1 : Int)))), (10, .t (.sc (.int .i64 (j : Int))))]) (l := [(40, .row 2 false (List.map spanT out))]) (by kernel_rfl)) ?_
            refine Sim.loop ?_
            refine loop_ind (α := Nat) (fun j1 => ⟨[(0, .t (.lst 2 (List.map spanT a))), (1, .t (.lst 2 (List.map spanT b))), (2, .fn f []), (7, .row 40 out.length), (8, .t (.sc (.int .i64 2147483648))), (9, .t (.sc (.int .i64 (i1 : Int)))), (10, .t (.sc (.int .i64 (j1 : Int))))], app emp [(40, .row 2 false (List.map spanT out))], 441⟩) (fun j1 => j ≤ j1 ∧ j1 ≤ 2 * b.length ∧ skipS b j 2147483648 = skipS b j1 2147483648) (fun j1 => 2 * b.length - j1) ?_ (j : Nat) ?_
            rotate_left
            · -- loop 14, start
              exact ⟨by omega, by omega, rfl⟩
            rintro j1 I14 ih14
            show LoopSim _ _ _ _ ⟨[(0, .t (.lst 2 (List.map spanT a))), (1, .t (.lst 2 (List.map spanT b))), (2, .fn f []), (7, .row 40 out.length), (8, .t (.sc (.int .i64 2147483648))), (9, .t (.sc (.int .i64 (i1 : Int)))), (10, .t (.sc (.int .i64 (j1 : Int))))], app emp [(40, .row 2 false (List.map spanT out))], 441⟩ _
            replace I14 : j ≤ j1 ∧ j1 ≤ 2 * b.length ∧ skipS b j 2147483648 = skipS b j1 2147483648 := I14
            refine LoopSim.step ?_
            refine Sim.seq ?_
            refine Sim.seq ?_
            refine Sim.reg (orcs := [(2, ⟨some (.t (.sc (.int .i64 (b.length : Int)))), none, none, none⟩), (3, ⟨some (.t (.sc (.int .i64 (2 * (b.length : Int))))), none, none, none⟩), (8, ⟨none, none, none, some (⟨0, [], .t (.sc (.int .i64 (endS b j1))), []⟩)⟩)]) (keys := [0, 1, 2, 7, 8, 9, 10, 86]) (τ := [(40, 40)]) (nx := 537)
              (sl := [(0, .t (.lst 2 (List.map spanT a))), (1, .t (.lst 2 (List.map spanT b))), (2, .fn f []), (7, .row 40 out.length), (8, .t (.sc (.int .i64 2147483648))), (9, .t (.sc (.int .i64 (i1 : Int)))), (10, .t (.sc (.int .i64 (j1 : Int)))), (86, .t (.sc (.bool (decide ((j1 : Int) < (2 * (b.length : Int))) && ((endS b j1) == 2147483648)))))]) (l := [(40, .row 2 false (List.map spanT out))])
              (C := [AVal.t (.sc (.int .i64 (b.length : Int))) = .t (.sc (.int .i64 ((List.map spanT b).length : Int))), AVal.t (.sc (.int .i64 (2 * (b.length : Int)))) = .t (.sc (.int .i64 (IntKind.i64.wrap (2 * (b.length : Int))))), (decide ((j1 : Int) < (2 * (b.length : Int)))) = true → (decide ((j1 : Int) < (2 * (b.length : Int)))) = true, (decide ((j1 : Int) < (2 * (b.length : Int)))) = true → (decide ((j1 : Int) < (2 * (b.length : Int)))) = true, (decide ((j1 : Int) < (2 * (b.length : Int)))) = true → callable Try.prog 148 = true, (decide ((j1 : Int) < (2 * (b.length : Int)))) = true → FC Try.prog 148 [.t (.lst 2 (List.map spanT b)), .t (.sc (.int .i64 (j1 : Int)))] emp (.t (.sc (.int .i64 (endS b j1)))) emp, (decide ((j1 : Int) < (2 * (b.length : Int)))) = true → (decide ((j1 : Int) < (2 * (b.length : Int)))) = true, (decide ((j1 : Int) < (2 * (b.length : Int)))) = true → (decide ((j1 : Int) < (2 * (b.length : Int)))) = true, (decide ((j1 : Int) < (2 * (b.length : Int)))) = true → (decide ((j1 : Int) < (2 * (b.length : Int)))) = true]) (by kernel_rfl) ?_ ?_
            · -- region 14
              exact ⟨len_map, (nw (by (first | omega | exact fun h => h | (simp only [List.length_map]; done) | (simp only [List.length_map]; omega) | (simp; omega) | (simp; done)))), (by first | exact fun h => h | (intro hg; (try simp only [decide_eq_true_eq, decide_eq_false_iff_not, Int.not_lt, Int.not_le] at hg); omega) | (intro _; (first | omega | exact fun h => h | (simp only [List.length_map]; done) | (simp only [List.length_map]; omega) | (simp; omega) | (simp; done)))), (by first | exact fun h => h | (intro hg; (try simp only [decide_eq_true_eq, decide_eq_false_iff_not, Int.not_lt, Int.not_le] at hg); omega) | (intro _; (first | omega | exact fun h => h | (simp only [List.length_map]; done) | (simp only [List.length_map]; omega) | (simp; omega) | (simp; done)))), (fun hg => by (try simp only [decide_eq_true_eq, decide_eq_false_iff_not, Int.not_lt, Int.not_le] at hg); exact (by kernel_rfl)), (fun hg => by (try simp only [decide_eq_true_eq, decide_eq_false_iff_not, Int.not_lt, Int.not_le] at hg); exact (fc_end b j1 (by (first | omega | exact fun h => h | (simp only [List.length_map]; done) | (simp only [List.length_map]; omega) | (simp; omega) | (simp; done))) (by (first | omega | exact fun h => h | (simp only [List.length_map]; done) | (simp only [List.length_map]; omega) | (simp; omega) | (simp; done))))), (by first | exact fun h => h | (intro hg; (try simp only [decide_eq_true_eq, decide_eq_false_iff_not, Int.not_lt, Int.not_le] at hg); omega) | (intro _; (first | omega | exact fun h => h | (simp only [List.length_map]; done) | (simp only [List.length_map]; omega) | (simp; omega) | (simp; done)))), (by first | exact fun h => h | (intro hg; (try simp only [decide_eq_true_eq, decide_eq_false_iff_not, Int.not_lt, Int.not_le] at hg); omega) | (intro _; (first | omega | exact fun h => h | (simp only [List.length_map]; done) | (simp only [List.length_map]; omega) | (simp; omega) | (simp; done)))), (by (first | omega | exact fun h => h | (simp only [List.length_map]; done) | (simp only [List.length_map]; omega) | (simp; omega) | (simp; done))), trivial⟩
            refine andThen_normal ?_
            refine Sim.cond (b := (decide ((j1 : Int) < (2 * (b.length : Int))) && ((endS b j1) == 2147483648))) rfl (fun h14 => ?_) (fun h14 => ?_)
            · (try simp only [decide_eq_true_eq, decide_eq_false_iff_not, Int.not_lt, Int.not_le, Bool.and_eq_true, Bool.and_eq_false_iff, Bool.not_eq_true', Bool.not_eq_false', beq_iff_eq, beq_eq_false_iff_ne, ne_eq] at h14)
              refine Sim.skip ?_
              refine andThen_normal ?_
              refine Sim.block ?_
              refine Sim.reg (orcs := [(1, ⟨some (.t (.sc (.int .i64 ((j1 : Int) + 1)))), none, none, none⟩)]) (keys := [0, 1, 2, 7, 8, 9, 10]) (τ := [(40, 40)]) (nx := 561)
                (sl := [(0, .t (.lst 2 (List.map spanT a))), (1, .t (.lst 2 (List.map spanT b))), (2, .fn f []), (7, .row 40 out.length), (8, .t (.sc (.int .i64 2147483648))), (9, .t (.sc (.int .i64 (i1 : Int)))), (10, .t (.sc (.int .i64 ((j1 : Int) + 1))))]) (l := [(40, .row 2 false (List.map spanT out))])
                (C := [AVal.t (.sc (.int .i64 ((j1 : Int) + 1))) = .t (.sc (.int .i64 (IntKind.i64.wrap ((j1 : Int) + 1))))]) (by kernel_rfl) ?_ ?_
              · -- region 15
                exact ⟨(nw (by (first | omega | exact fun h => h | (simp only [List.length_map]; done) | (simp only [List.length_map]; omega) | (simp; omega) | (simp; done)))), trivial⟩
              refine inBlk_normal ?_
              refine andThen_normal ?_
              refine LoopSim.weaken (Le.ren (τ := [(40, 40)]) (keys := [0, 1, 2, 7, 8, 9, 10]) (nx := 441) (sl := [(0, .t (.lst 2 (List.map spanT a))), (1, .t (.lst 2 (List.map spanT b))), (2, .fn f []), (7, .row 40 out.length), (8, .t (.sc (.int .i64 2147483648))), (9, .t (.sc (.int .i64 (i1 : Int)))), (10, .t (.sc (.int .i64 (((j1 + 1) : Nat) : Int))))]) (l := [(40, .row 2 false (List.map spanT out))]) (by kernel_rfl)) ?_
              refine ih14 ((j1 + 1) : Nat) ?_ ?_
              · -- back 14.1, invariant
                refine ⟨by omega, by omega, ?_⟩; rw [I14.2.2, skipS.eq_def b j1, if_pos (by omega)]
              · -- back 14.1, measure
                show (_:Nat) < _; (first | omega | exact fun h => h | (simp only [List.length_map]; done) | (simp only [List.length_map]; omega) | (simp; omega) | (simp; done))
            · (try simp only [decide_eq_true_eq, decide_eq_false_iff_not, Int.not_lt, Int.not_le, Bool.and_eq_true, Bool.and_eq_false_iff, Bool.not_eq_true', Bool.not_eq_false', beq_iff_eq, beq_eq_false_iff_ne, ne_eq] at h14)
              refine Sim.exit ?_
              refine andThen_exit ?_
              refine andThen_exit ?_
              refine inBlk_same ?_
              refine inBlk_normal ?_
              refine andThen_normal ?_
              refine LoopSim.weaken (Le.ren (τ := [(40, 40)]) (keys := [0, 1, 2, 7, 8, 9, 10]) (nx := 41) (sl := [(0, .t (.lst 2 (List.map spanT a))), (1, .t (.lst 2 (List.map spanT b))), (2, .fn f []), (7, .row 40 out.length), (8, .t (.sc (.int .i64 2147483648))), (9, .t (.sc (.int .i64 (i1 : Int)))), (10, .t (.sc (.int .i64 (j1 : Int))))]) (l := [(40, .row 2 false (List.map spanT out))]) (by kernel_rfl)) ?_
              have hn : nextS a b i j = 2147483648 := by unfold nextS; ((repeat' split) <;> first | rfl | omega | (simp_all; done) | (simp_all; omega))
              have hi : skipS a i1 2147483648 = i1 := by rw [skipS.eq_def, if_neg (by omega)]
              have hj : skipS b j1 2147483648 = j1 := by rw [skipS.eq_def, if_neg (by omega)]
              have hp := skip_prog a b i j (by omega) hb
              have hs := mergeS_step w a b out p i j (by omega) hb
              rw [hn, I12.2.2, hi, I14.2.2, hj] at hs hp
              simp only [mod2] at h9
              have hl := addS_len out ⟨p, 2147483648⟩
              refine ih3 (2147483648, i1, j1, out) ?_ ?_
              · -- back 3.8, invariant
                refine ⟨by omega, by omega, by omega, ?_⟩
                rw [I3.2.2.2, hs]
                first | rw [if_pos h9] | rw [if_neg (fun hh => by rcases h9 with h9 | h9; omega; exact absurd hh.2 (by rw [h9]; decide))]
              · -- back 3.8, measure
                show (_:Nat) < _; (first | omega | exact fun h => h | (simp only [List.length_map]; done) | (simp only [List.length_map]; omega) | (simp; omega) | (simp; done))
  · (try simp only [decide_eq_true_eq, decide_eq_false_iff_not, Int.not_lt, Int.not_le, Bool.or_eq_true, Bool.or_eq_false_iff] at h3)
    refine Sim.exit ?_
    refine andThen_exit ?_
    refine andThen_exit ?_
    refine inBlk_same ?_
    refine andThen_normal ?_
    refine Sim.seq ?_
    refine Sim.reg (orcs := []) (keys := [6]) (τ := [(40, 40)]) (nx := 153)
      (sl := [(6, .row 40 out.length)]) (l := [(40, .row 2 false (List.map spanT out))])
      (C := []) (by kernel_rfl) ?_ ?_
    · -- region 16
      trivial
    refine andThen_normal ?_
    refine Sim.ret ?_
    refine Fin.mk2 (.inl rfl) (τ := [(40, 0)]) (keys := [6]) (nx := 153) (sl := [(6, .row 0 out.length)]) (l := [(0, .row 2 false (List.map spanT out))]) (res' := .row 0 out.length) (by kernel_rfl) ?_ (by kernel_rfl) ?_
    · -- end 1, objects
      have e1 : ((mergeS w a b [] 0 0 0)) = out := by
        rw [I3.2.2.2, mergeS_end _ _ _ _ _ _ _ (by omega)]
      show ([(0, .row 2 false (List.map spanT out))] : List (Nat × Ob)) = [(0, .row 2 false (List.map spanT (mergeS w a b [] 0 0 0)))]
      rw [e1]
      try rfl
    · -- end 1, result
      have e2 : ((mergeS w a b [] 0 0 0).length : Nat) = out.length := by
        rw [I3.2.2.2, mergeS_end _ _ _ _ _ _ _ (by omega)]
      show AVal.row 0 out.length = .row 0 ((mergeS w a b [] 0 0 0).length)
      rw [e2]
      try rfl

theorem fc_two (f : FuncId) (w : Bool → Bool → Bool) (hfc : callable Try.prog f = true) (hf : ∀ x y : Bool, FC Try.prog f [.t (.sc (.bool x)), .t (.sc (.bool y))] (app emp []) (.t (.sc (.bool (w x y)))) (app emp [])) (a b : List Span) : FC Try.prog 75 [.t (.lst 2 (List.map spanT a)), .t (.lst 2 (List.map spanT b)), .fn f []] (app emp []) (.tup [.row 0 ((twoS w a b).length), .t (.sc (.int .i64 (errS a b)))]) (app emp [(0, .row 2 false (List.map spanT (twoS w a b)))]) := by
  refine FC.of_sim (fn := Try.f75) (nx := 0) (by kernel_rfl) rfl (by kernel_rfl) rfl ?_
  show Sim _ _ _ _ ⟨[(0, .t (.lst 2 (List.map spanT a))), (1, .t (.lst 2 (List.map spanT b))), (2, .fn f [])], app emp [], 0⟩ _
  refine Sim.len (t := 0) (k := 2) rfl (fun hl0 => ?_)
  rw [List.length_map] at hl0
  refine Sim.len (t := 1) (k := 2) rfl (fun hl1 => ?_)
  rw [List.length_map] at hl1
  refine Sim.seq ?_
  refine Sim.reg (orcs := []) (keys := [0, 1, 2]) (τ := []) (nx := 16)
    (sl := [(0, .t (.lst 2 (List.map spanT a))), (1, .t (.lst 2 (List.map spanT b))), (2, .fn f [])]) (l := [])
    (C := []) (by kernel_rfl) ?_ ?_
  · -- region 0
    trivial
  refine andThen_normal ?_
  refine Sim.seq ?_
  refine Sim.seq ?_
  refine Sim.reg (orcs := [(1, ⟨none, none, none, some (⟨0, [], .t (.sc (.int .i64 (chkS a 0))), []⟩)⟩)]) (keys := [0, 1, 2, 8]) (τ := []) (nx := 40)
    (sl := [(0, .t (.lst 2 (List.map spanT a))), (1, .t (.lst 2 (List.map spanT b))), (2, .fn f []), (8, .t (.sc (.int .i64 (chkS a 0))))]) (l := [])
    (C := [callable Try.prog 24 = true, FC Try.prog 24 [.t (.lst 2 (List.map spanT a))] emp (.t (.sc (.int .i64 (chkS a 0)))) emp]) (by kernel_rfl) ?_ ?_
  · -- region 1
    exact ⟨(by kernel_rfl), (fc_check a), trivial⟩
  refine andThen_normal ?_
  refine Sim.seq ?_
  refine Sim.reg (orcs := []) (keys := [0, 1, 2, 8, 13]) (τ := []) (nx := 56)
    (sl := [(0, .t (.lst 2 (List.map spanT a))), (1, .t (.lst 2 (List.map spanT b))), (2, .fn f []), (8, .t (.sc (.int .i64 (chkS a 0)))), (13, .t (.sc (.bool ((chkS a 0) != 0))))]) (l := [])
    (C := []) (by kernel_rfl) ?_ ?_
  · -- region 2
    trivial
  refine andThen_normal ?_
  refine Sim.cond (b := ((chkS a 0) != 0)) rfl (fun h2 => ?_) (fun h2 => ?_)
  · (try simp only [bne_iff_ne, bne_eq_false_iff_eq, ne_eq] at h2)
    refine Sim.seq ?_
    refine Sim.reg (orcs := []) (keys := [6, 7]) (τ := []) (nx := 80)
      (sl := [(6, .t (.sc (.slice none 0 0))), (7, .t (.sc (.int .i64 (chkS a 0))))]) (l := [])
      (C := []) (by kernel_rfl) ?_ ?_
    · -- region 3
      trivial
    refine andThen_normal ?_
    refine Sim.ret ?_
    refine andThen_ret ?_
    refine Fin.le (Le.nilRow (t := 6) (k := 2) (id := 80) rfl rfl rfl) ?_
    refine Fin.mk2 (.inl rfl) (τ := [(80, 0)]) (keys := [6, 7]) (nx := 81) (sl := [(6, .row 0 0), (7, .t (.sc (.int .i64 (chkS a 0))))]) (l := [(0, .row 2 false (List.map spanT []))]) (res' := .tup [.row 0 0, .t (.sc (.int .i64 (chkS a 0)))]) (by kernel_rfl) ?_ (by kernel_rfl) ?_
    · -- end 1, objects
      have e1 : ((twoS w a b)) = [] := by
        simp only [twoS, errS]; ((repeat' split) <;> first | rfl | omega | (simp_all; done) | (simp_all; omega))
      show ([(0, .row 2 false (List.map spanT []))] : List (Nat × Ob)) = [(0, .row 2 false (List.map spanT (twoS w a b)))]
      rw [e1]
      try rfl
    · -- end 1, result
      have e2 : ((twoS w a b).length : Nat) = 0 := by
        simp only [twoS, errS]; ((repeat' split) <;> first | rfl | omega | (simp_all; done) | (simp_all; omega))
      have e3 : ((errS a b) : Int) = (chkS a 0) := by
        simp only [twoS, errS]; ((repeat' split) <;> first | rfl | omega | (simp_all; done) | (simp_all; omega))
      show AVal.tup [.row 0 0, .t (.sc (.int .i64 (chkS a 0)))] = .tup [.row 0 ((twoS w a b).length), .t (.sc (.int .i64 (errS a b)))]
      rw [e2, e3]
      try rfl
  · (try simp only [bne_iff_ne, bne_eq_false_iff_eq, ne_eq] at h2)
    refine Sim.skip ?_
    refine andThen_normal ?_
    refine Sim.seq ?_
    refine Sim.seq ?_
    refine Sim.reg (orcs := [(1, ⟨none, none, none, some (⟨0, [], .t (.sc (.int .i64 (chkS b 0))), []⟩)⟩)]) (keys := [0, 1, 2, 9]) (τ := []) (nx := 80)
      (sl := [(0, .t (.lst 2 (List.map spanT a))), (1, .t (.lst 2 (List.map spanT b))), (2, .fn f []), (9, .t (.sc (.int .i64 (chkS b 0))))]) (l := [])
      (C := [callable Try.prog 24 = true, FC Try.prog 24 [.t (.lst 2 (List.map spanT b))] emp (.t (.sc (.int .i64 (chkS b 0)))) emp]) (by kernel_rfl) ?_ ?_
    · -- region 4
      exact ⟨(by kernel_rfl), (fc_check b), trivial⟩
    refine andThen_normal ?_
    refine Sim.seq ?_
    refine Sim.reg (orcs := []) (keys := [0, 1, 2, 9, 18]) (τ := []) (nx := 96)
      (sl := [(0, .t (.lst 2 (List.map spanT a))), (1, .t (.lst 2 (List.map spanT b))), (2, .fn f []), (9, .t (.sc (.int .i64 (chkS b 0)))), (18, .t (.sc (.bool ((chkS b 0) != 0))))]) (l := [])
      (C := []) (by kernel_rfl) ?_ ?_
    · -- region 5
      trivial
    refine andThen_normal ?_
    refine Sim.cond (b := ((chkS b 0) != 0)) rfl (fun h5 => ?_) (fun h5 => ?_)
    · (try simp only [bne_iff_ne, bne_eq_false_iff_eq, ne_eq] at h5)
      refine Sim.seq ?_
      refine Sim.reg (orcs := []) (keys := [6, 7]) (τ := []) (nx := 120)
        (sl := [(6, .t (.sc (.slice none 0 0))), (7, .t (.sc (.int .i64 (chkS b 0))))]) (l := [])
        (C := []) (by kernel_rfl) ?_ ?_
      · -- region 6
        trivial
      refine andThen_normal ?_
      refine Sim.ret ?_
      refine andThen_ret ?_
      refine Fin.le (Le.nilRow (t := 6) (k := 2) (id := 120) rfl rfl rfl) ?_
      refine Fin.mk2 (.inl rfl) (τ := [(120, 0)]) (keys := [6, 7]) (nx := 121) (sl := [(6, .row 0 0), (7, .t (.sc (.int .i64 (chkS b 0))))]) (l := [(0, .row 2 false (List.map spanT []))]) (res' := .tup [.row 0 0, .t (.sc (.int .i64 (chkS b 0)))]) (by kernel_rfl) ?_ (by kernel_rfl) ?_
      · -- end 2, objects
        have e4 : ((twoS w a b)) = [] := by
          simp only [twoS, errS]; ((repeat' split) <;> first | rfl | omega | (simp_all; done) | (simp_all; omega))
        show ([(0, .row 2 false (List.map spanT []))] : List (Nat × Ob)) = [(0, .row 2 false (List.map spanT (twoS w a b)))]
        rw [e4]
        try rfl
      · -- end 2, result
        have e5 : ((twoS w a b).length : Nat) = 0 := by
          simp only [twoS, errS]; ((repeat' split) <;> first | rfl | omega | (simp_all; done) | (simp_all; omega))
        have e6 : ((errS a b) : Int) = (chkS b 0) := by
          simp only [twoS, errS]; ((repeat' split) <;> first | rfl | omega | (simp_all; done) | (simp_all; omega))
        show AVal.tup [.row 0 0, .t (.sc (.int .i64 (chkS b 0)))] = .tup [.row 0 ((twoS w a b).length), .t (.sc (.int .i64 (errS a b)))]
        rw [e5, e6]
        try rfl
    · (try simp only [bne_iff_ne, bne_eq_false_iff_eq, ne_eq] at h5)
      refine Sim.skip ?_
      refine andThen_normal ?_
      refine Sim.seq ?_
      refine Sim.reg (orcs := [(3, ⟨none, none, none, some (⟨1, [], .row 120 ((mergeS w a b [] 0 0 0).length), [(120, .row 2 false (List.map spanT (mergeS w a b [] 0 0 0)))]⟩)⟩)]) (keys := [6, 7]) (τ := [(120, 120)]) (nx := 144)
        (sl := [(6, .row 120 ((mergeS w a b [] 0 0 0).length)), (7, .t (.sc (.int .i64 0)))]) (l := [(120, .row 2 false (List.map spanT (mergeS w a b [] 0 0 0)))])
        (C := [callable Try.prog 126 = true, FC Try.prog 126 [.t (.lst 2 (List.map spanT a)), .t (.lst 2 (List.map spanT b)), .fn f []] emp (.row 120 ((mergeS w a b [] 0 0 0).length)) (app emp [(120, .row 2 false (List.map spanT (mergeS w a b [] 0 0 0)))])]) (by kernel_rfl) ?_ ?_
      · -- region 7
        exact ⟨(by kernel_rfl), (FC.ren (fc_merged f w hfc hf a b (chk_len (by (first | omega | exact fun h => h | (simp only [List.length_map]; done) | (simp only [List.length_map]; omega) | (simp; omega) | (simp; done)))) (chk_len (by (first | omega | exact fun h => h | (simp only [List.length_map]; done) | (simp only [List.length_map]; omega) | (simp; omega) | (simp; done)))) (fun k hk => by have := chk_end (l := b) (by (first | omega | exact fun h => h | (simp only [List.length_map]; done) | (simp only [List.length_map]; omega) | (simp; omega) | (simp; done))) k hk; omega)) [] [(0, 120)] (l0' := []) (args' := [.t (.lst 2 (List.map spanT a)), .t (.lst 2 (List.map spanT b)), .fn f []]) (res' := .row 120 ((mergeS w a b [] 0 0 0).length)) (l1' := [(120, .row 2 false (List.map spanT (mergeS w a b [] 0 0 0)))]) (by kernel_rfl) (by kernel_rfl) (by kernel_rfl) (by kernel_rfl) (by kernel_rfl) (by kernel_rfl)), trivial⟩
      refine andThen_normal ?_
      refine Sim.ret ?_
      refine Fin.mk2 (.inl rfl) (τ := [(120, 0)]) (keys := [6, 7]) (nx := 144) (sl := [(6, .row 0 ((mergeS w a b [] 0 0 0).length)), (7, .t (.sc (.int .i64 0)))]) (l := [(0, .row 2 false (List.map spanT (mergeS w a b [] 0 0 0)))]) (res' := .tup [.row 0 ((mergeS w a b [] 0 0 0).length), .t (.sc (.int .i64 0))]) (by kernel_rfl) ?_ (by kernel_rfl) ?_
      · -- end 3, objects
        have e7 : ((twoS w a b)) = (mergeS w a b [] 0 0 0) := by
          simp only [twoS, errS]; ((repeat' split) <;> first | rfl | omega | (simp_all; done) | (simp_all; omega))
        show ([(0, .row 2 false (List.map spanT (mergeS w a b [] 0 0 0)))] : List (Nat × Ob)) = [(0, .row 2 false (List.map spanT (twoS w a b)))]
        rw [e7]
        try rfl
      · -- end 3, result
        have e8 : ((twoS w a b).length : Nat) = (mergeS w a b [] 0 0 0).length := by
          simp only [twoS, errS]; ((repeat' split) <;> first | rfl | omega | (simp_all; done) | (simp_all; omega))
        have e9 : ((errS a b) : Int) = 0 := by
          simp only [twoS, errS]; ((repeat' split) <;> first | rfl | omega | (simp_all; done) | (simp_all; omega))
        show AVal.tup [.row 0 ((mergeS w a b [] 0 0 0).length), .t (.sc (.int .i64 0))] = .tup [.row 0 ((twoS w a b).length), .t (.sc (.int .i64 (errS a b)))]
        rw [e8, e9]
        try rfl

theorem fc_union (a b : List Span) : FC Try.prog 21 [.t (.lst 2 (List.map spanT a)), .t (.lst 2 (List.map spanT b))] (app emp []) (.tup [.row 0 ((twoS (fun a b => a || b) a b).length), .t (.sc (.int .i64 (errS a b)))]) (app emp [(0, .row 2 false (List.map spanT (twoS (fun a b => a || b) a b)))]) := by
  refine FC.of_sim (fn := Try.f21) (nx := 0) (by kernel_rfl) rfl (by kernel_rfl) rfl ?_
  show Sim _ _ _ _ ⟨[(0, .t (.lst 2 (List.map spanT a))), (1, .t (.lst 2 (List.map spanT b)))], app emp [], 0⟩ _
  refine Sim.len (t := 0) (k := 2) rfl (fun hl0 => ?_)
  rw [List.length_map] at hl0
  refine Sim.len (t := 1) (k := 2) rfl (fun hl1 => ?_)
  rw [List.length_map] at hl1
  refine Sim.seq ?_
  refine Sim.reg (orcs := []) (keys := [0, 1]) (τ := []) (nx := 16)
    (sl := [(0, .t (.lst 2 (List.map spanT a))), (1, .t (.lst 2 (List.map spanT b)))]) (l := [])
    (C := []) (by kernel_rfl) ?_ ?_
  · -- region 0
    trivial
  refine andThen_normal ?_
  refine Sim.seq ?_
  refine Sim.reg (orcs := [(2, ⟨none, none, none, some (⟨1, [], .tup [.row 32 ((twoS (fun a b => a || b) a b).length), .t (.sc (.int .i64 (errS a b)))], [(32, .row 2 false (List.map spanT (twoS (fun a b => a || b) a b)))]⟩)⟩)]) (keys := [4, 5]) (τ := [(32, 32)]) (nx := 72)
    (sl := [(4, .row 32 ((twoS (fun a b => a || b) a b).length)), (5, .t (.sc (.int .i64 (errS a b))))]) (l := [(32, .row 2 false (List.map spanT (twoS (fun a b => a || b) a b)))])
    (C := [callable Try.prog 75 = true, FC Try.prog 75 [.t (.lst 2 (List.map spanT a)), .t (.lst 2 (List.map spanT b)), .fn 76 []] emp (.tup [.row 32 ((twoS (fun a b => a || b) a b).length), .t (.sc (.int .i64 (errS a b)))]) (app emp [(32, .row 2 false (List.map spanT (twoS (fun a b => a || b) a b)))])]) (by kernel_rfl) ?_ ?_
  · -- region 1
    exact ⟨(by kernel_rfl), (FC.ren (fc_two 76 (fun a b => a || b) (by kernel_rfl) fc_wor a b) [] [(0, 32)] (l0' := []) (args' := [.t (.lst 2 (List.map spanT a)), .t (.lst 2 (List.map spanT b)), .fn 76 []]) (res' := .tup [.row 32 ((twoS (fun a b => a || b) a b).length), .t (.sc (.int .i64 (errS a b)))]) (l1' := [(32, .row 2 false (List.map spanT (twoS (fun a b => a || b) a b)))]) (by kernel_rfl) (by kernel_rfl) (by kernel_rfl) (by kernel_rfl) (by kernel_rfl) (by kernel_rfl)), trivial⟩
  refine andThen_normal ?_
  refine Sim.ret ?_
  refine Fin.mk2 (.inl rfl) (τ := [(32, 0)]) (keys := [4, 5]) (nx := 72) (sl := [(4, .row 0 ((twoS (fun a b => a || b) a b).length)), (5, .t (.sc (.int .i64 (errS a b))))]) (l := [(0, .row 2 false (List.map spanT (twoS (fun a b => a || b) a b)))]) (res' := .tup [.row 0 ((twoS (fun a b => a || b) a b).length), .t (.sc (.int .i64 (errS a b)))]) (by kernel_rfl) ?_ (by kernel_rfl) ?_
  · -- end 1, objects
    first | done | rfl
  · -- end 1, result
    first | done | rfl

theorem fc_meet (a b : List Span) : FC Try.prog 22 [.t (.lst 2 (List.map spanT a)), .t (.lst 2 (List.map spanT b))] (app emp []) (.tup [.row 0 ((twoS (fun a b => a && b) a b).length), .t (.sc (.int .i64 (errS a b)))]) (app emp [(0, .row 2 false (List.map spanT (twoS (fun a b => a && b) a b)))]) := by
  refine FC.of_sim (fn := Try.f22) (nx := 0) (by kernel_rfl) rfl (by kernel_rfl) rfl ?_
  show Sim _ _ _ _ ⟨[(0, .t (.lst 2 (List.map spanT a))), (1, .t (.lst 2 (List.map spanT b)))], app emp [], 0⟩ _
  refine Sim.len (t := 0) (k := 2) rfl (fun hl0 => ?_)
  rw [List.length_map] at hl0
  refine Sim.len (t := 1) (k := 2) rfl (fun hl1 => ?_)
  rw [List.length_map] at hl1
  refine Sim.seq ?_
  refine Sim.reg (orcs := []) (keys := [0, 1]) (τ := []) (nx := 16)
    (sl := [(0, .t (.lst 2 (List.map spanT a))), (1, .t (.lst 2 (List.map spanT b)))]) (l := [])
    (C := []) (by kernel_rfl) ?_ ?_
  · -- region 0
    trivial
  refine andThen_normal ?_
  refine Sim.seq ?_
  refine Sim.reg (orcs := [(2, ⟨none, none, none, some (⟨1, [], .tup [.row 32 ((twoS (fun a b => a && b) a b).length), .t (.sc (.int .i64 (errS a b)))], [(32, .row 2 false (List.map spanT (twoS (fun a b => a && b) a b)))]⟩)⟩)]) (keys := [4, 5]) (τ := [(32, 32)]) (nx := 72)
    (sl := [(4, .row 32 ((twoS (fun a b => a && b) a b).length)), (5, .t (.sc (.int .i64 (errS a b))))]) (l := [(32, .row 2 false (List.map spanT (twoS (fun a b => a && b) a b)))])
    (C := [callable Try.prog 75 = true, FC Try.prog 75 [.t (.lst 2 (List.map spanT a)), .t (.lst 2 (List.map spanT b)), .fn 77 []] emp (.tup [.row 32 ((twoS (fun a b => a && b) a b).length), .t (.sc (.int .i64 (errS a b)))]) (app emp [(32, .row 2 false (List.map spanT (twoS (fun a b => a && b) a b)))])]) (by kernel_rfl) ?_ ?_
  · -- region 1
    exact ⟨(by kernel_rfl), (FC.ren (fc_two 77 (fun a b => a && b) (by kernel_rfl) fc_wand a b) [] [(0, 32)] (l0' := []) (args' := [.t (.lst 2 (List.map spanT a)), .t (.lst 2 (List.map spanT b)), .fn 77 []]) (res' := .tup [.row 32 ((twoS (fun a b => a && b) a b).length), .t (.sc (.int .i64 (errS a b)))]) (l1' := [(32, .row 2 false (List.map spanT (twoS (fun a b => a && b) a b)))]) (by kernel_rfl) (by kernel_rfl) (by kernel_rfl) (by kernel_rfl) (by kernel_rfl) (by kernel_rfl)), trivial⟩
  refine andThen_normal ?_
  refine Sim.ret ?_
  refine Fin.mk2 (.inl rfl) (τ := [(32, 0)]) (keys := [4, 5]) (nx := 72) (sl := [(4, .row 0 ((twoS (fun a b => a && b) a b).length)), (5, .t (.sc (.int .i64 (errS a b))))]) (l := [(0, .row 2 false (List.map spanT (twoS (fun a b => a && b) a b)))]) (res' := .tup [.row 0 ((twoS (fun a b => a && b) a b).length), .t (.sc (.int .i64 (errS a b)))]) (by kernel_rfl) ?_ (by kernel_rfl) ?_
  · -- end 1, objects
    first | done | rfl
  · -- end 1, result
    first | done | rfl

theorem fc_minus (a b : List Span) : FC Try.prog 23 [.t (.lst 2 (List.map spanT a)), .t (.lst 2 (List.map spanT b))] (app emp []) (.tup [.row 0 ((twoS (fun a b => a && !b) a b).length), .t (.sc (.int .i64 (errS a b)))]) (app emp [(0, .row 2 false (List.map spanT (twoS (fun a b => a && !b) a b)))]) := by
  refine FC.of_sim (fn := Try.f23) (nx := 0) (by kernel_rfl) rfl (by kernel_rfl) rfl ?_
  show Sim _ _ _ _ ⟨[(0, .t (.lst 2 (List.map spanT a))), (1, .t (.lst 2 (List.map spanT b)))], app emp [], 0⟩ _
  refine Sim.len (t := 0) (k := 2) rfl (fun hl0 => ?_)
  rw [List.length_map] at hl0
  refine Sim.len (t := 1) (k := 2) rfl (fun hl1 => ?_)
  rw [List.length_map] at hl1
  refine Sim.seq ?_
  refine Sim.reg (orcs := []) (keys := [0, 1]) (τ := []) (nx := 16)
    (sl := [(0, .t (.lst 2 (List.map spanT a))), (1, .t (.lst 2 (List.map spanT b)))]) (l := [])
    (C := []) (by kernel_rfl) ?_ ?_
  · -- region 0
    trivial
  refine andThen_normal ?_
  refine Sim.seq ?_
  refine Sim.reg (orcs := [(2, ⟨none, none, none, some (⟨1, [], .tup [.row 32 ((twoS (fun a b => a && !b) a b).length), .t (.sc (.int .i64 (errS a b)))], [(32, .row 2 false (List.map spanT (twoS (fun a b => a && !b) a b)))]⟩)⟩)]) (keys := [4, 5]) (τ := [(32, 32)]) (nx := 72)
    (sl := [(4, .row 32 ((twoS (fun a b => a && !b) a b).length)), (5, .t (.sc (.int .i64 (errS a b))))]) (l := [(32, .row 2 false (List.map spanT (twoS (fun a b => a && !b) a b)))])
    (C := [callable Try.prog 75 = true, FC Try.prog 75 [.t (.lst 2 (List.map spanT a)), .t (.lst 2 (List.map spanT b)), .fn 78 []] emp (.tup [.row 32 ((twoS (fun a b => a && !b) a b).length), .t (.sc (.int .i64 (errS a b)))]) (app emp [(32, .row 2 false (List.map spanT (twoS (fun a b => a && !b) a b)))])]) (by kernel_rfl) ?_ ?_
  · -- region 1
    exact ⟨(by kernel_rfl), (FC.ren (fc_two 78 (fun a b => a && !b) (by kernel_rfl) fc_wminus a b) [] [(0, 32)] (l0' := []) (args' := [.t (.lst 2 (List.map spanT a)), .t (.lst 2 (List.map spanT b)), .fn 78 []]) (res' := .tup [.row 32 ((twoS (fun a b => a && !b) a b).length), .t (.sc (.int .i64 (errS a b)))]) (l1' := [(32, .row 2 false (List.map spanT (twoS (fun a b => a && !b) a b)))]) (by kernel_rfl) (by kernel_rfl) (by kernel_rfl) (by kernel_rfl) (by kernel_rfl) (by kernel_rfl)), trivial⟩
  refine andThen_normal ?_
  refine Sim.ret ?_
  refine Fin.mk2 (.inl rfl) (τ := [(32, 0)]) (keys := [4, 5]) (nx := 72) (sl := [(4, .row 0 ((twoS (fun a b => a && !b) a b).length)), (5, .t (.sc (.int .i64 (errS a b))))]) (l := [(0, .row 2 false (List.map spanT (twoS (fun a b => a && !b) a b)))]) (res' := .tup [.row 0 ((twoS (fun a b => a && !b) a b).length), .t (.sc (.int .i64 (errS a b)))]) (by kernel_rfl) ?_ (by kernel_rfl) ?_
  · -- end 1, objects
    first | done | rfl
  · -- end 1, result
    first | done | rfl

def szS (l : List Span) : Nat → Int
  | 0 => 0
  | k + 1 => szS l k + ((l.getD k default).to - (l.getD k default).fr)
theorem szS_bound {l : List Span} (h : chkS l 0 = 0) : ∀ k, k ≤ l.length → 0 ≤ szS l k ∧ (0 < k → szS l k ≤ (l.getD (k - 1) default).to) ∧ szS l k ≤ 2147483647 := by
  intro k
  induction k with
  | zero => intro _; simp [szS]
  | succ k ih =>
    intro hk
    obtain ⟨h1, h2, h4⟩ := ih (by omega)
    have h3 := chkS_spec l 0 h k (by omega) (by omega)
    simp only [szS, Nat.add_sub_cancel]
    by_cases e : k = 0
    · subst e; simp only [szS]; refine ⟨by omega, fun _ => by omega, by omega⟩
    · have := h2 (by omega)
      have := h3.2.2.2 (by omega)
      refine ⟨by omega, fun _ => by omega, by omega⟩

theorem fc_size (l : List Span) (hc : chkS l 0 = 0) : FC Try.prog 25 [.t (.lst 2 (List.map spanT l))] (app emp []) (.t (.sc (.int .i64 (szS l l.length)))) (app emp []) := by
  refine FC.of_sim (fn := Try.f25) (nx := 0) (by kernel_rfl) rfl (by kernel_rfl) rfl ?_
  show Sim _ _ _ _ ⟨[(0, .t (.lst 2 (List.map spanT l)))], app emp [], 0⟩ _
  refine Sim.len (t := 0) (k := 2) rfl (fun hl0 => ?_)
  rw [List.length_map] at hl0
  refine Sim.seq ?_
  refine Sim.reg (orcs := []) (keys := [0]) (τ := []) (nx := 8)
    (sl := [(0, .t (.lst 2 (List.map spanT l)))]) (l := [])
    (C := []) (by kernel_rfl) ?_ ?_
  · -- region 0
    trivial
  refine andThen_normal ?_
  refine Sim.seq ?_
  refine Sim.reg (orcs := []) (keys := [0, 3]) (τ := []) (nx := 16)
    (sl := [(0, .t (.lst 2 (List.map spanT l))), (3, .t (.sc (.int .i64 0)))]) (l := [])
    (C := []) (by kernel_rfl) ?_ ?_
  · -- region 1
    trivial
  refine andThen_normal ?_
  refine Sim.seq ?_
  refine Sim.seq ?_
  refine Sim.reg (orcs := [(1, ⟨some (.t (.sc (.int .i64 (l.length : Int)))), none, none, none⟩)]) (keys := [0, 3, 6, 7]) (τ := []) (nx := 40)
    (sl := [(0, .t (.lst 2 (List.map spanT l))), (3, .t (.sc (.int .i64 0))), (6, .t (.sc (.int .i64 (l.length : Int)))), (7, .t (.sc (.int .i64 0)))]) (l := [])
    (C := [AVal.t (.sc (.int .i64 (l.length : Int))) = .t (.sc (.int .i64 ((List.map spanT l).length : Int)))]) (by kernel_rfl) ?_ ?_
  · -- region 2
    exact ⟨len_map, trivial⟩
  refine andThen_normal ?_
  refine Sim.block ?_
  refine Sim.weaken (Le.ren (τ := []) (keys := [0, 3, 6, 7]) (nx := 40) (sl := [(0, .t (.lst 2 (List.map spanT l))), (3, .t (.sc (.int .i64 0))), (6, .t (.sc (.int .i64 (l.length : Int)))), (7, .t (.sc (.int .i64 ((0 : Nat) : Int))))]) (l := []) (by kernel_rfl)) ?_
  refine Sim.loop ?_
  refine loop_ind (α := Int × Nat) (fun (n, i) => ⟨[(0, .t (.lst 2 (List.map spanT l))), (3, .t (.sc (.int .i64 n))), (6, .t (.sc (.int .i64 (l.length : Int)))), (7, .t (.sc (.int .i64 (i : Int))))], app emp [], 40⟩) (fun (n, i) => i ≤ l.length ∧ n = szS l i) (fun (n, i) => l.length - i) ?_ (0, 0) ?_
  rotate_left
  · -- loop 3, start
    exact ⟨by omega, rfl⟩
  rintro ⟨n, i⟩ I3 ih3
  show LoopSim _ _ _ _ ⟨[(0, .t (.lst 2 (List.map spanT l))), (3, .t (.sc (.int .i64 n))), (6, .t (.sc (.int .i64 (l.length : Int)))), (7, .t (.sc (.int .i64 (i : Int))))], app emp [], 40⟩ _
  replace I3 : i ≤ l.length ∧ n = szS l i := I3
  have hz := szS_bound hc i I3.1
  have hz2 := szS_bound hc (i + 1)
  simp only [szS] at hz2
  have hq : i < l.length → _ := fun h => chkS_spec l 0 hc i (by omega) h
  refine LoopSim.step ?_
  refine Sim.seq ?_
  refine Sim.reg (orcs := []) (keys := [0, 3, 6, 7, 8]) (τ := []) (nx := 48)
    (sl := [(0, .t (.lst 2 (List.map spanT l))), (3, .t (.sc (.int .i64 n))), (6, .t (.sc (.int .i64 (l.length : Int)))), (7, .t (.sc (.int .i64 (i : Int)))), (8, .t (.sc (.bool (decide ((i : Int) < (l.length : Int))))))]) (l := [])
    (C := []) (by kernel_rfl) ?_ ?_
  · -- region 3
    trivial
  refine andThen_normal ?_
  refine Sim.seq ?_
  refine Sim.cond (b := decide ((i : Int) < (l.length : Int))) rfl (fun h3 => ?_) (fun h3 => ?_)
  · (try simp only [decide_eq_true_eq, decide_eq_false_iff_not, Int.not_lt, Int.not_le] at h3)
    refine Sim.skip ?_
    refine andThen_normal ?_
    refine Sim.seq ?_
    refine Sim.block ?_
    refine Sim.seq ?_
    refine Sim.reg (orcs := []) (keys := [0, 3, 4, 6, 7]) (τ := []) (nx := 64)
      (sl := [(0, .t (.lst 2 (List.map spanT l))), (3, .t (.sc (.int .i64 n))), (4, .t (.sc (.int .i64 (i : Int)))), (6, .t (.sc (.int .i64 (l.length : Int)))), (7, .t (.sc (.int .i64 (i : Int))))]) (l := [])
      (C := []) (by kernel_rfl) ?_ ?_
    · -- region 4
      trivial
    refine andThen_normal ?_
    refine Sim.regD (by kernel_rfl) (orcs := [(3, ⟨none, none, some (spanT (l.getD i default)), none⟩), (8, ⟨none, none, some (spanT (l.getD i default)), none⟩), (11, ⟨some (.t (.sc (.int .i64 ((((l.getD i default)).to) - (((l.getD i default)).fr))))), none, none, none⟩), (12, ⟨some (.t (.sc (.int .i64 (n + ((((l.getD i default)).to) - (((l.getD i default)).fr)))))), none, none, none⟩)]) (keys := [0, 3, 6, 7]) (τ := []) (nx := 176)
      (sl := [(0, .t (.lst 2 (List.map spanT l))), (3, .t (.sc (.int .i64 (n + ((((l.getD i default)).to) - (((l.getD i default)).fr)))))), (6, .t (.sc (.int .i64 (l.length : Int)))), (7, .t (.sc (.int .i64 (i : Int))))]) (l := [])
      (C := [(0:Int) ≤ (i : Int), (List.map spanT l)[i]? = some (spanT (l.getD i default)), (0:Int) ≤ (i : Int), (List.map spanT l)[i]? = some (spanT (l.getD i default)), AVal.t (.sc (.int .i64 ((((l.getD i default)).to) - (((l.getD i default)).fr)))) = .t (.sc (.int .i64 (IntKind.i64.wrap ((((l.getD i default)).to) - (((l.getD i default)).fr))))), AVal.t (.sc (.int .i64 (n + ((((l.getD i default)).to) - (((l.getD i default)).fr))))) = .t (.sc (.int .i64 (IntKind.i64.wrap (n + ((((l.getD i default)).to) - (((l.getD i default)).fr))))))]) (by kernel_rfl) ?_ ?_
    · -- region 5
      exact ⟨(by (first | omega | exact fun h => h | (simp only [List.length_map]; done) | (simp only [List.length_map]; omega) | (simp; omega) | (simp; done))), (elt_nat (by (first | omega | exact fun h => h | (simp only [List.length_map]; done) | (simp only [List.length_map]; omega) | (simp; omega) | (simp; done)))), (by (first | omega | exact fun h => h | (simp only [List.length_map]; done) | (simp only [List.length_map]; omega) | (simp; omega) | (simp; done))), (elt_nat (by (first | omega | exact fun h => h | (simp only [List.length_map]; done) | (simp only [List.length_map]; omega) | (simp; omega) | (simp; done)))), (nw (by (first | omega | exact fun h => h | (simp only [List.length_map]; done) | (simp only [List.length_map]; omega) | (simp; omega) | (simp; done)))), (nw (by (first | omega | exact fun h => h | (simp only [List.length_map]; done) | (simp only [List.length_map]; omega) | (simp; omega) | (simp; done)))), trivial⟩
    refine inBlk_normal ?_
    refine andThen_normal ?_
    refine Sim.reg (orcs := [(0, ⟨some (.t (.sc (.int .i64 ((i : Int) + 1)))), none, none, none⟩)]) (keys := [0, 3, 6, 7]) (τ := []) (nx := 192)
      (sl := [(0, .t (.lst 2 (List.map spanT l))), (3, .t (.sc (.int .i64 (n + ((((l.getD i default)).to) - (((l.getD i default)).fr)))))), (6, .t (.sc (.int .i64 (l.length : Int)))), (7, .t (.sc (.int .i64 ((i : Int) + 1))))]) (l := [])
      (C := [AVal.t (.sc (.int .i64 ((i : Int) + 1))) = .t (.sc (.int .i64 (IntKind.i64.wrap ((i : Int) + 1))))]) (by kernel_rfl) ?_ ?_
    · -- region 6
      exact ⟨(nw (by (first | omega | exact fun h => h | (simp only [List.length_map]; done) | (simp only [List.length_map]; omega) | (simp; omega) | (simp; done)))), trivial⟩
    refine andThen_normal ?_
    refine LoopSim.weaken (Le.ren (τ := []) (keys := [0, 3, 6, 7]) (nx := 40) (sl := [(0, .t (.lst 2 (List.map spanT l))), (3, .t (.sc (.int .i64 (n + ((((l.getD i default)).to) - (((l.getD i default)).fr)))))), (6, .t (.sc (.int .i64 (l.length : Int)))), (7, .t (.sc (.int .i64 (((i + 1) : Nat) : Int))))]) (l := []) (by kernel_rfl)) ?_
    refine ih3 ((n + ((((l.getD i default)).to) - (((l.getD i default)).fr))), (i + 1)) ?_ ?_
    · -- back 3.1, invariant
      exact ⟨by omega, by simp only [szS]; omega⟩
    · -- back 3.1, measure
      show (_:Nat) < _; (first | omega | exact fun h => h | (simp only [List.length_map]; done) | (simp only [List.length_map]; omega) | (simp; omega) | (simp; done))
  · (try simp only [decide_eq_true_eq, decide_eq_false_iff_not, Int.not_lt, Int.not_le] at h3)
    refine Sim.exit ?_
    refine andThen_exit ?_
    refine andThen_exit ?_
    refine inBlk_same ?_
    refine andThen_normal ?_
    refine Sim.seq ?_
    refine Sim.reg (orcs := []) (keys := [2]) (τ := []) (nx := 64)
      (sl := [(2, .t (.sc (.int .i64 n)))]) (l := [])
      (C := []) (by kernel_rfl) ?_ ?_
    · -- region 7
      trivial
    refine andThen_normal ?_
    refine Sim.ret ?_
    refine Fin.mk2 (.inl rfl) (τ := []) (keys := [2]) (nx := 64) (sl := [(2, .t (.sc (.int .i64 n)))]) (l := []) (res' := .t (.sc (.int .i64 n))) (by kernel_rfl) ?_ (by kernel_rfl) ?_
    · -- end 1, objects
      first | done | rfl
    · -- end 1, result
      have e1 : ((szS l l.length) : Int) = n := by
        have : i = l.length := by omega
        subst this; omega
      show AVal.t (.sc (.int .i64 n)) = .t (.sc (.int .i64 (szS l l.length)))
      rw [e1]
      try rfl
end Go.Ch
