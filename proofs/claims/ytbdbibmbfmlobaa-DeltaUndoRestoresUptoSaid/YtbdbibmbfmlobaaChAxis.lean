import Derived.Test.YtbdbibmbfmlobaaAxisRead
import Derived.Test.YtbdbibmbfmlobaaProg
set_option linter.unusedVariables false
set_option linter.unusedSimpArgs false
set_option maxRecDepth 100000
set_option maxHeartbeats 4000000
open Go Go.Proofs Go.Ab
namespace Go.Ch
def intT (z : Int) : Tree := .sc (.int .i64 z)
def withinI (x lo hi : Int) : Int := lo + ((x.tmod (hi - lo + 1)) + (hi - lo + 1)).tmod (hi - lo + 1)
theorem tmod_bd (x : Int) {n : Int} (hn : 0 < n) : -n < x.tmod n ∧ x.tmod n < n := by
  have h1 := Int.tmod_lt_of_pos x hn
  have h2 : -n < x.tmod n := by
    rcases Int.le_total 0 x with h | h
    · have := Int.tmod_nonneg n h; omega
    · have h3 := Int.tmod_lt_of_pos (-x) hn
      rw [Int.neg_tmod] at h3; omega
  exact ⟨h2, h1⟩
theorem withinI_bd (x : Int) {lo hi : Int} (h : lo ≤ hi) : lo ≤ withinI x lo hi ∧ withinI x lo hi ≤ hi := by
  unfold withinI
  have h1 := tmod_bd x (n := hi - lo + 1) (by omega)
  have h2 := Int.tmod_nonneg (hi - lo + 1) (a := (x.tmod (hi - lo + 1)) + (hi - lo + 1)) (by omega)
  have h3 := Int.tmod_lt_of_pos ((x.tmod (hi - lo + 1)) + (hi - lo + 1)) (b := hi - lo + 1) (by omega)
  omega
def rollV (raw : List Int) (used n : Int) : Int := if raw.length = 0 then 0 else withinI (IntKind.i64.wrap (raw.getD ((used + 1 - 1) % (raw.length : Int)).toNat default + (used + 1) / (raw.length : Int))) 0 (n - 1)
def rollU (raw : List Int) (used : Int) : Int := if raw.length = 0 then used else used + 1
theorem rollV_bd (raw : List Int) (used : Int) {n : Int} (h : 1 ≤ n) : 0 ≤ rollV raw used n ∧ rollV raw used n < n := by
  unfold rollV
  split
  · omega
  · have := withinI_bd (IntKind.i64.wrap (raw.getD ((used + 1 - 1) % (raw.length : Int)).toNat default + (used + 1) / (raw.length : Int))) (lo := 0) (hi := n - 1) (by omega)
    omega
theorem idx_bd {u : Int} {l : List Int} (h : 0 < l.length) (hu : 0 ≤ u) : 0 ≤ u % (l.length : Int) ∧ u % (l.length : Int) < l.length := by
  exact ⟨Int.emod_nonneg _ (by omega), Int.emod_lt_of_pos _ (by omega)⟩

theorem fc_within (x lo hi : Int) (hl : -1000000000000 ≤ lo ∧ lo ≤ hi ∧ hi ≤ 1000000000000) : FC Try.prog 37 [.t (.sc (.int .i64 x)), .t (.sc (.int .i64 lo)), .t (.sc (.int .i64 hi))] (app emp []) (.t (.sc (.int .i64 (withinI x lo hi)))) (app emp []) := by
  refine FC.of_sim (fn := Try.f37) (nx := 0) (by kernel_rfl) rfl (by kernel_rfl) rfl ?_
  show Sim _ _ _ _ ⟨[(0, .t (.sc (.int .i64 x))), (1, .t (.sc (.int .i64 lo))), (2, .t (.sc (.int .i64 hi)))], app emp [], 0⟩ _
  refine Sim.seq ?_
  refine Sim.reg (orcs := []) (keys := [0, 1, 2]) (τ := []) (nx := 8)
    (sl := [(0, .t (.sc (.int .i64 x))), (1, .t (.sc (.int .i64 lo))), (2, .t (.sc (.int .i64 hi)))]) (l := [])
    (C := []) (by kernel_rfl) ?_ ?_
  · -- region 0
    trivial
  refine andThen_normal ?_
  refine Sim.seq ?_
  refine Sim.reg (orcs := [(2, ⟨some (.t (.sc (.int .i64 (hi - lo)))), none, none, none⟩), (3, ⟨some (.t (.sc (.int .i64 ((hi - lo) + 1)))), none, none, none⟩)]) (keys := [0, 1, 7]) (τ := []) (nx := 48)
    (sl := [(0, .t (.sc (.int .i64 x))), (1, .t (.sc (.int .i64 lo))), (7, .t (.sc (.int .i64 ((hi - lo) + 1))))]) (l := [])
    (C := [Weak (.t (.sc (.int .i64 (IntKind.i64.wrap (hi - lo))))) (.t (.sc (.int .i64 (hi - lo)))), Weak (.t (.sc (.int .i64 (IntKind.i64.wrap ((hi - lo) + 1))))) (.t (.sc (.int .i64 ((hi - lo) + 1))))]) (by kernel_rfl) ?_ ?_
  · -- region 1
    refine ⟨(Weak.of_eq (nw ?_)), (Weak.of_eq (nw ?_)), trivial⟩
    all_goals (first | omega | with_reducible exact fun h => h | (intro hg hq; rw [hg, hq]; rfl) | (intro hq; rw [hq]; done) | (intro hq; rw [hq]; rfl) | ((try intro hg); (try simp [-List.getD_eq_getElem?_getD] at hg); (try simp only [List.length_map]); first | done | omega | rfl | (simp; done) | (simp; omega) | (simp [hg]; done) | (intro hq; simp [hg, hq]; done) | (intro hq; simp [hg, hq]; omega)))
  refine andThen_normal ?_
  refine Sim.seq ?_
  refine Sim.reg (orcs := [(5, ⟨some (.t (.sc (.int .i64 ((x.tmod ((hi - lo) + 1)) + ((hi - lo) + 1))))), none, none, none⟩), (8, ⟨some (.t (.sc (.int .i64 (lo + (((x.tmod ((hi - lo) + 1)) + ((hi - lo) + 1)).tmod ((hi - lo) + 1)))))), none, none, none⟩)]) (keys := [6]) (τ := []) (nx := 128)
    (sl := [(6, .t (.sc (.int .i64 (lo + (((x.tmod ((hi - lo) + 1)) + ((hi - lo) + 1)).tmod ((hi - lo) + 1))))))]) (l := [])
    (C := [(((hi - lo) + 1) : Int) ≠ 0, Weak (.t (.sc (.int .i64 (IntKind.i64.wrap ((x.tmod ((hi - lo) + 1)) + ((hi - lo) + 1)))))) (.t (.sc (.int .i64 ((x.tmod ((hi - lo) + 1)) + ((hi - lo) + 1))))), (((hi - lo) + 1) : Int) ≠ 0, Weak (.t (.sc (.int .i64 (IntKind.i64.wrap (lo + (((x.tmod ((hi - lo) + 1)) + ((hi - lo) + 1)).tmod ((hi - lo) + 1))))))) (.t (.sc (.int .i64 (lo + (((x.tmod ((hi - lo) + 1)) + ((hi - lo) + 1)).tmod ((hi - lo) + 1))))))]) (by kernel_rfl) ?_ ?_
  · -- region 2
    refine ⟨?_, (Weak.of_eq (nw (by have h1 := tmod_bd x (n := hi - lo + 1) (by omega); omega))), ?_, (Weak.of_eq (nw (by have h1 := withinI_bd x (lo := lo) (hi := hi) (by omega); unfold withinI at h1; omega))), trivial⟩
    all_goals (first | omega | with_reducible exact fun h => h | (intro hg hq; rw [hg, hq]; rfl) | (intro hq; rw [hq]; done) | (intro hq; rw [hq]; rfl) | ((try intro hg); (try simp [-List.getD_eq_getElem?_getD] at hg); (try simp only [List.length_map]); first | done | omega | rfl | (simp; done) | (simp; omega) | (simp [hg]; done) | (intro hq; simp [hg, hq]; done) | (intro hq; simp [hg, hq]; omega)))
  refine andThen_normal ?_
  refine Sim.ret ?_
  refine Fin.mk2 (.inl rfl) (τ := []) (keys := [6]) (nx := 128) (sl := [(6, .t (.sc (.int .i64 (lo + (((x.tmod ((hi - lo) + 1)) + ((hi - lo) + 1)).tmod ((hi - lo) + 1))))))]) (l := []) (res' := .t (.sc (.int .i64 (lo + (((x.tmod ((hi - lo) + 1)) + ((hi - lo) + 1)).tmod ((hi - lo) + 1)))))) (by kernel_rfl) ?_ (by kernel_rfl) ?_
  · -- end 1, objects
    first | done | rfl
  · -- end 1, result
    have e1 : ((withinI x lo hi) : Int) = (lo + (((x.tmod ((hi - lo) + 1)) + ((hi - lo) + 1)).tmod ((hi - lo) + 1))) := by
      rfl
    show AVal.t (.sc (.int .i64 (lo + (((x.tmod ((hi - lo) + 1)) + ((hi - lo) + 1)).tmod ((hi - lo) + 1))))) = .t (.sc (.int .i64 (withinI x lo hi)))
    rw [e1]
    try rfl

theorem fc_roll (raw : List Int) (used n : Int) (hu : 0 ≤ used ∧ used ≤ 1000000000000) (hn : 1 ≤ n ∧ n ≤ 1000000000000) (hll : raw.length ≤ 9223372036854775807) : FC Try.prog 87 [.ptr 0 0, .t (.sc (.int .i64 n))] (app emp [(0, .box [.t (.lst 1 (List.map intT raw)), .t (.sc (.int .i64 used))])]) (.t (.sc (.int .i64 (rollV raw used n)))) (app emp [(0, .box [.t (.lst 1 (List.map intT raw)), .t (.sc (.int .i64 (rollU raw used)))])]) := by
  refine FC.of_sim (fn := Try.f87) (nx := 1) (by kernel_rfl) rfl (by kernel_rfl) rfl ?_
  show Sim _ _ _ _ ⟨[(0, .ptr 0 0), (1, .t (.sc (.int .i64 n)))], app emp [(0, .box [.t (.lst 1 (List.map intT raw)), .t (.sc (.int .i64 used))])], 1⟩ _
  refine Sim.seq ?_
  refine Sim.reg (orcs := []) (keys := [0, 1]) (τ := [(0, 0)]) (nx := 9)
    (sl := [(0, .ptr 0 0), (1, .t (.sc (.int .i64 n)))]) (l := [(0, .box [.t (.lst 1 (List.map intT raw)), .t (.sc (.int .i64 used))])])
    (C := []) (by kernel_rfl) ?_ ?_
  · -- region 0
    trivial
  refine andThen_normal ?_
  refine Sim.seq ?_
  refine Sim.seq ?_
  refine Sim.reg (orcs := [(4, ⟨some (.t (.sc (.int .i64 (raw.length : Int)))), none, none, none⟩)]) (keys := [0, 1, 10]) (τ := [(0, 0)]) (nx := 57)
    (sl := [(0, .ptr 0 0), (1, .t (.sc (.int .i64 n))), (10, .t (.sc (.bool ((raw.length : Int) == 0))))]) (l := [(0, .box [.t (.lst 1 (List.map intT raw)), .t (.sc (.int .i64 used))])])
    (C := [Weak (.t (.sc (.int .i64 ((List.map intT raw).length : Int)))) (.t (.sc (.int .i64 (raw.length : Int))))]) (by kernel_rfl) ?_ ?_
  · -- region 1
    exact ⟨(Weak.of_eq len_map), trivial⟩
  refine andThen_normal ?_
  refine Sim.cond (b := ((raw.length : Int) == 0)) (by kernel_rfl) (fun h1 => ?_) (fun h1 => ?_)
  · (try simp only [beq_iff_eq, beq_eq_false_iff_ne, ne_eq] at h1)
    refine Sim.seq ?_
    refine Sim.reg (orcs := []) (keys := [4]) (τ := [(0, 0)]) (nx := 65)
      (sl := [(4, .t (.sc (.int .i64 0)))]) (l := [(0, .box [.t (.lst 1 (List.map intT raw)), .t (.sc (.int .i64 used))])])
      (C := []) (by kernel_rfl) ?_ ?_
    · -- region 2
      trivial
    refine andThen_normal ?_
    refine Sim.ret ?_
    refine andThen_ret ?_
    refine Fin.mk2 (.inl rfl) (τ := [(0, 0)]) (keys := [4]) (nx := 65) (sl := [(4, .t (.sc (.int .i64 0)))]) (l := [(0, .box [.t (.lst 1 (List.map intT raw)), .t (.sc (.int .i64 used))])]) (res' := .t (.sc (.int .i64 0))) (by kernel_rfl) ?_ (by kernel_rfl) ?_
    · -- end 1, objects
      have e1 : ((rollU raw used) : Int) = used := by
        unfold rollU; ((repeat' split) <;> first | rfl | omega | (simp_all; done) | (simp_all; omega))
      show ([(0, .box [.t (.lst 1 (List.map intT raw)), .t (.sc (.int .i64 used))])] : List (Nat × Ob)) = [(0, .box [.t (.lst 1 (List.map intT raw)), .t (.sc (.int .i64 (rollU raw used)))])]
      rw [e1]
      try rfl
    · -- end 1, result
      have e2 : ((rollV raw used n) : Int) = 0 := by
        unfold rollV; ((repeat' split) <;> first | rfl | omega | (simp_all; done) | (simp_all; omega))
      show AVal.t (.sc (.int .i64 0)) = .t (.sc (.int .i64 (rollV raw used n)))
      rw [e2]
      try rfl
  · (try simp only [beq_iff_eq, beq_eq_false_iff_ne, ne_eq] at h1)
    refine Sim.skip ?_
    refine andThen_normal ?_
    refine Sim.seq ?_
    refine Sim.reg (orcs := [(4, ⟨some (.t (.sc (.int .i64 (used + 1)))), none, none, none⟩)]) (keys := [0, 1]) (τ := [(0, 0)]) (nx := 121)
      (sl := [(0, .ptr 0 0), (1, .t (.sc (.int .i64 n)))]) (l := [(0, .box [.t (.lst 1 (List.map intT raw)), .t (.sc (.int .i64 (used + 1)))])])
      (C := [Weak (.t (.sc (.int .i64 (IntKind.i64.wrap (used + 1))))) (.t (.sc (.int .i64 (used + 1))))]) (by kernel_rfl) ?_ ?_
    · -- region 3
      refine ⟨(Weak.of_eq (nw ?_)), trivial⟩
      all_goals (first | omega | with_reducible exact fun h => h | (intro hg hq; rw [hg, hq]; rfl) | (intro hq; rw [hq]; done) | (intro hq; rw [hq]; rfl) | ((try intro hg); (try simp [-List.getD_eq_getElem?_getD] at hg); (try simp only [List.length_map]); first | done | omega | rfl | (simp; done) | (simp; omega) | (simp [hg]; done) | (intro hq; simp [hg, hq]; done) | (intro hq; simp [hg, hq]; omega)))
    refine andThen_normal ?_
    refine Sim.seq ?_
    have hr := idx_bd (l := raw) (u := used + 1 - 1) (by omega) (by omega)
    refine Sim.regD (by kernel_rfl) (orcs := [(8, ⟨some (.t (.sc (.int .i64 ((used + 1) - 1)))), none, none, none⟩), (13, ⟨some (.t (.sc (.int .i64 (raw.length : Int)))), none, none, none⟩), (14, ⟨some (.t (.sc (.int .i64 (((used + 1) - 1) % (raw.length : Int))))), none, none, none⟩), (15, ⟨none, none, some (.sc (.int .i64 (raw.getD (Int.toNat (((used + 1) - 1) % (raw.length : Int))) default))), none⟩), (25, ⟨some (.t (.sc (.int .i64 (raw.length : Int)))), none, none, none⟩), (26, ⟨some (.t (.sc (.int .i64 ((used + 1) / (raw.length : Int))))), none, none, none⟩), (29, ⟨some (.t (.sc (.int .i64 (n - 1)))), none, none, none⟩), (30, ⟨none, none, none, some (⟨0, [], .t (.sc (.int .i64 (withinI (IntKind.i64.wrap ((raw.getD (Int.toNat (((used + 1) - 1) % (raw.length : Int))) default) + ((used + 1) / (raw.length : Int)))) 0 (n - 1)))), []⟩)⟩)]) (keys := [4]) (τ := [(0, 0)]) (nx := 377)
      (sl := [(4, .t (.sc (.int .i64 (withinI (IntKind.i64.wrap ((raw.getD (Int.toNat (((used + 1) - 1) % (raw.length : Int))) default) + ((used + 1) / (raw.length : Int)))) 0 (n - 1)))))]) (l := [(0, .box [.t (.lst 1 (List.map intT raw)), .t (.sc (.int .i64 (used + 1)))])])
      (C := [Weak (.t (.sc (.int .i64 (IntKind.i64.wrap ((used + 1) - 1))))) (.t (.sc (.int .i64 ((used + 1) - 1)))), Weak (.t (.sc (.int .i64 ((List.map intT raw).length : Int)))) (.t (.sc (.int .i64 (raw.length : Int)))), ((raw.length : Int) : Int) ≠ 0, Weak (.t (.sc (.int .i64 (((used + 1) - 1).tmod (raw.length : Int))))) (.t (.sc (.int .i64 (((used + 1) - 1) % (raw.length : Int))))), (0:Int) ≤ (((used + 1) - 1) % (raw.length : Int)), (List.map intT raw)[(Int.toNat (((used + 1) - 1) % (raw.length : Int)))]? = some (.sc (.int .i64 (raw.getD (Int.toNat (((used + 1) - 1) % (raw.length : Int))) default))), Weak (.t (.sc (.int .i64 ((List.map intT raw).length : Int)))) (.t (.sc (.int .i64 (raw.length : Int)))), ((raw.length : Int) : Int) ≠ 0, Weak (.t (.sc (.int .i64 (IntKind.i64.wrap ((used + 1).tdiv (raw.length : Int)))))) (.t (.sc (.int .i64 ((used + 1) / (raw.length : Int))))), Weak (.t (.sc (.int .i64 (IntKind.i64.wrap (n - 1))))) (.t (.sc (.int .i64 (n - 1)))), callable Try.prog 37 = true, FC Try.prog 37 [.t (.sc (.int .i64 (IntKind.i64.wrap ((raw.getD (Int.toNat (((used + 1) - 1) % (raw.length : Int))) default) + ((used + 1) / (raw.length : Int)))))), .t (.sc (.int .i64 0)), .t (.sc (.int .i64 (n - 1)))] emp (.t (.sc (.int .i64 (withinI (IntKind.i64.wrap ((raw.getD (Int.toNat (((used + 1) - 1) % (raw.length : Int))) default) + ((used + 1) / (raw.length : Int)))) 0 (n - 1))))) emp]) (by kernel_rfl) ?_ ?_
    · -- region 4
      refine ⟨(Weak.of_eq (nw ?_)), (Weak.of_eq len_map), ?_, (Weak.of_eq (rem_nn ?_)), ?_, (elt_map ?_ ?_), (Weak.of_eq len_map), ?_, (Weak.of_eq (quo_nn (by refine ⟨by omega, by omega, by omega⟩))), (Weak.of_eq (nw ?_)), (by kernel_rfl), (fc_within (IntKind.i64.wrap ((raw.getD (Int.toNat (((used + 1) - 1) % (raw.length : Int))) default) + ((used + 1) / (raw.length : Int)))) 0 (n - 1) (by omega)), trivial⟩
      all_goals (first | omega | with_reducible exact fun h => h | (intro hg hq; rw [hg, hq]; rfl) | (intro hq; rw [hq]; done) | (intro hq; rw [hq]; rfl) | ((try intro hg); (try simp [-List.getD_eq_getElem?_getD] at hg); (try simp only [List.length_map]); first | done | omega | rfl | (simp; done) | (simp; omega) | (simp [hg]; done) | (intro hq; simp [hg, hq]; done) | (intro hq; simp [hg, hq]; omega)))
    refine andThen_normal ?_
    refine Sim.ret ?_
    refine Fin.mk2 (.inl rfl) (τ := [(0, 0)]) (keys := [4]) (nx := 377) (sl := [(4, .t (.sc (.int .i64 (withinI (IntKind.i64.wrap ((raw.getD (Int.toNat (((used + 1) - 1) % (raw.length : Int))) default) + ((used + 1) / (raw.length : Int)))) 0 (n - 1)))))]) (l := [(0, .box [.t (.lst 1 (List.map intT raw)), .t (.sc (.int .i64 (used + 1)))])]) (res' := .t (.sc (.int .i64 (withinI (IntKind.i64.wrap ((raw.getD (Int.toNat (((used + 1) - 1) % (raw.length : Int))) default) + ((used + 1) / (raw.length : Int)))) 0 (n - 1))))) (by kernel_rfl) ?_ (by kernel_rfl) ?_
    · -- end 2, objects
      have e3 : ((rollU raw used) : Int) = (used + 1) := by
        unfold rollU; ((repeat' split) <;> first | rfl | omega | (simp_all; done) | (simp_all; omega))
      show ([(0, .box [.t (.lst 1 (List.map intT raw)), .t (.sc (.int .i64 (used + 1)))])] : List (Nat × Ob)) = [(0, .box [.t (.lst 1 (List.map intT raw)), .t (.sc (.int .i64 (rollU raw used)))])]
      rw [e3]
      try rfl
    · -- end 2, result
      have e4 : ((rollV raw used n) : Int) = (withinI (IntKind.i64.wrap ((raw.getD (Int.toNat (((used + 1) - 1) % (raw.length : Int))) default) + ((used + 1) / (raw.length : Int)))) 0 (n - 1)) := by
        unfold rollV; ((repeat' split) <;> first | rfl | omega | (simp_all; done) | (simp_all; omega))
      show AVal.t (.sc (.int .i64 (withinI (IntKind.i64.wrap ((raw.getD (Int.toNat (((used + 1) - 1) % (raw.length : Int))) default) + ((used + 1) / (raw.length : Int)))) 0 (n - 1)))) = .t (.sc (.int .i64 (rollV raw used n)))
      rw [e4]
      try rfl

def segE (u : List Int) (i k : Nat) : Nat := if k < u.length ∧ (u.getD k default = 0 ↔ u.getD i default = 0) then segE u i (k + 1) else k
termination_by u.length - k
def cntX (u : List Int) (i k : Nat) (x : Int) : Nat := ((u.drop i).take (k - i)).countP (fun y => decide (y = x))
def o1 (k : Int) (n : Nat) : List AxStep := if 0 < n then [⟨k, (n : Int)⟩] else []
def o3 (a b c : Nat) : List AxStep := o1 0 a ++ (o1 1 b ++ o1 2 c)
theorem segE_ge (u : List Int) (i k : Nat) : k ≤ segE u i k := by
  induction k using segE.induct (u := u) (i := i) with
  | case1 k h ih => rw [segE, if_pos h]; omega
  | case2 k h => rw [segE, if_neg h]; omega
theorem segE_gt (u : List Int) (i : Nat) (h : i < u.length) : i < segE u i i := by
  rw [segE, if_pos ⟨h, Iff.rfl⟩]; exact segE_ge _ _ _
def stepsL (u : List Int) (i : Nat) (out : List AxStep) : List AxStep :=
  if h : i < u.length then stepsL u (segE u i i) (out ++ o3 (cntX u i (segE u i i) 0) (cntX u i (segE u i i) 1) (cntX u i (segE u i i) 2)) else out
termination_by u.length - i
decreasing_by have := segE_gt u i h; omega
end Go.Ch
