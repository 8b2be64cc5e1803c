import Derived.Test.YtbdbibmbfmlobaaChAttr2
set_option linter.unusedVariables false
set_option linter.unusedSimpArgs false
set_option maxRecDepth 100000
set_option maxHeartbeats 4000000
open Go Go.Proofs Go.Ab
namespace Go.Ch
def applyL (l c : List Attr) : List Attr := if chkA false l 0 = 0 ∧ chkA true c 0 = 0 then fm rawG l c else []
def applyE (l c : List Attr) : Int := if chkA false l 0 = 0 then chkA true c 0 else chkA false l 0
def undoL (l c : List Attr) : List Attr := if applyE l c = 0 then fm chgG (applyL l c) l else []
def betL (a b : List Attr) : List Attr := if chkA false a 0 = 0 ∧ chkA false b 0 = 0 then fm chgG a b else []
def betE (a b : List Attr) : Int := if chkA false a 0 = 0 then chkA false b 0 else chkA false a 0
def joinL (a b : List Attr) : List Attr := if chkA true a 0 = 0 ∧ chkA true b 0 = 0 then fm botG a b else []
def joinE (a b : List Attr) : Int := if chkA true a 0 = 0 then chkA true b 0 else chkA true a 0
def pairL (a b : List Attr) : List Attr := if chkA true a 0 = 0 ∧ chkA true b 0 = 0 then fm wioG a b else []
def pairR (a b : List Attr) : List Attr := if chkA true a 0 = 0 ∧ chkA true b 0 = 0 then b else []
theorem applyL_len (a b : List Attr) : (applyL a b).length ≤ a.length + b.length := by unfold applyL; split; exact fm_len _ _ _; simp
theorem betL_len (a b : List Attr) : (betL a b).length ≤ a.length + b.length := by unfold betL; split; exact fm_len _ _ _; simp
theorem joinL_len (a b : List Attr) : (joinL a b).length ≤ a.length + b.length := by unfold joinL; split; exact fm_len _ _ _; simp
theorem pairL_len (a b : List Attr) : (pairL a b).length ≤ a.length + b.length := by unfold pairL; split; exact fm_len _ _ _; simp
theorem pairR_len (a b : List Attr) : (pairR a b).length ≤ b.length := by unfold pairR; split <;> simp
theorem undoL_len (a b : List Attr) : (undoL a b).length ≤ 2 * a.length + b.length := by
  unfold undoL; split
  · have := fm_len chgG (applyL a b) a; have := applyL_len a b; omega
  · simp

theorem fc_apply (a b : List Attr) (hn : a.length + b.length < 1099511627776) : FC Try.prog 28 [.t (.lst 2 (List.map attrT a)), .t (.lst 2 (List.map attrT b))] (app emp []) (.tup [.t (.lst 2 (List.map attrT (applyL a b))), .t (.sc (.int .i64 (applyE a b)))]) (app emp []) := by
  refine FC.of_sim (fn := Try.f28) (nx := 0) (by kernel_rfl) rfl (by kernel_rfl) rfl ?_
  show Sim _ _ _ _ ⟨[(0, .t (.lst 2 (List.map attrT a))), (1, .t (.lst 2 (List.map attrT b)))], app emp [], 0⟩ _
  refine Sim.len (t := 0) (k := 2) rfl (fun hl0 => ?_)
  rw [List.length_map] at hl0
  refine Sim.len (t := 1) (k := 2) rfl (fun hl1 => ?_)
  rw [List.length_map] at hl1
  refine Sim.seq ?_
  refine Sim.reg (orcs := []) (keys := [0, 1]) (τ := []) (nx := 16)
    (sl := [(0, .t (.lst 2 (List.map attrT a))), (1, .t (.lst 2 (List.map attrT b)))]) (l := [])
    (C := []) (by kernel_rfl) ?_ ?_
  · -- region 0
    trivial
  refine andThen_normal ?_
  refine Sim.seq ?_
  refine Sim.seq ?_
  refine Sim.reg (orcs := [(1, ⟨none, none, none, some (⟨0, [], .t (.sc (.int .i64 (chkA false a 0))), []⟩)⟩)]) (keys := [0, 1, 6]) (τ := []) (nx := 40)
    (sl := [(0, .t (.lst 2 (List.map attrT a))), (1, .t (.lst 2 (List.map attrT b))), (6, .t (.sc (.int .i64 (chkA false a 0))))]) (l := [])
    (C := [callable Try.prog 81 = true, FC Try.prog 81 [.t (.lst 2 (List.map attrT a))] emp (.t (.sc (.int .i64 (chkA false a 0)))) emp]) (by kernel_rfl) ?_ ?_
  · -- region 1
    exact ⟨(by kernel_rfl), (fc_acheck a), trivial⟩
  refine andThen_normal ?_
  refine Sim.seq ?_
  refine Sim.reg (orcs := []) (keys := [0, 1, 6, 11]) (τ := []) (nx := 56)
    (sl := [(0, .t (.lst 2 (List.map attrT a))), (1, .t (.lst 2 (List.map attrT b))), (6, .t (.sc (.int .i64 (chkA false a 0)))), (11, .t (.sc (.bool ((chkA false a 0) != 0))))]) (l := [])
    (C := []) (by kernel_rfl) ?_ ?_
  · -- region 2
    trivial
  refine andThen_normal ?_
  refine Sim.cond (b := ((chkA false a 0) != 0)) (by kernel_rfl) (fun h2 => ?_) (fun h2 => ?_)
  · (try simp only [bne_iff_ne, bne_eq_false_iff_eq, ne_eq] at h2)
    refine Sim.seq ?_
    refine Sim.reg (orcs := []) (keys := [4, 5]) (τ := []) (nx := 80)
      (sl := [(4, .t (.sc (.slice none 0 0))), (5, .t (.sc (.int .i64 (chkA false a 0))))]) (l := [])
      (C := []) (by kernel_rfl) ?_ ?_
    · -- region 3
      trivial
    refine andThen_normal ?_
    refine Sim.ret ?_
    refine andThen_ret ?_
    refine Fin.le (Le.nilLst (t := 4) (k := 2) rfl rfl) ?_
    refine Fin.mk2 (.inl rfl) (τ := []) (keys := [4, 5]) (nx := 80) (sl := [(4, .t (.lst 2 (List.map attrT []))), (5, .t (.sc (.int .i64 (chkA false a 0))))]) (l := []) (res' := .tup [.t (.lst 2 (List.map attrT [])), .t (.sc (.int .i64 (chkA false a 0)))]) (by kernel_rfl) ?_ (by kernel_rfl) ?_
    · -- end 1, objects
      first | done | rfl
    · -- end 1, result
      have e1 : ((applyL a b)) = [] := by
        simp only [applyL, applyE]; ((repeat' split) <;> first | rfl | omega | (simp_all; done) | (simp_all; omega))
      have e2 : ((applyE a b) : Int) = (chkA false a 0) := by
        simp only [applyL, applyE]; ((repeat' split) <;> first | rfl | omega | (simp_all; done) | (simp_all; omega))
      show AVal.tup [.t (.lst 2 (List.map attrT [])), .t (.sc (.int .i64 (chkA false a 0)))] = .tup [.t (.lst 2 (List.map attrT (applyL a b))), .t (.sc (.int .i64 (applyE a b)))]
      rw [e1, e2]
      try rfl
  · (try simp only [bne_iff_ne, bne_eq_false_iff_eq, ne_eq] at h2)
    refine Sim.skip ?_
    refine andThen_normal ?_
    refine Sim.seq ?_
    refine Sim.seq ?_
    refine Sim.reg (orcs := [(1, ⟨none, none, none, some (⟨0, [], .t (.sc (.int .i64 (chkA true b 0))), []⟩)⟩)]) (keys := [0, 1, 7]) (τ := []) (nx := 80)
      (sl := [(0, .t (.lst 2 (List.map attrT a))), (1, .t (.lst 2 (List.map attrT b))), (7, .t (.sc (.int .i64 (chkA true b 0))))]) (l := [])
      (C := [callable Try.prog 82 = true, FC Try.prog 82 [.t (.lst 2 (List.map attrT b))] emp (.t (.sc (.int .i64 (chkA true b 0)))) emp]) (by kernel_rfl) ?_ ?_
    · -- region 4
      exact ⟨(by kernel_rfl), (fc_acheckChange b), trivial⟩
    refine andThen_normal ?_
    refine Sim.seq ?_
    refine Sim.reg (orcs := []) (keys := [0, 1, 7, 16]) (τ := []) (nx := 96)
      (sl := [(0, .t (.lst 2 (List.map attrT a))), (1, .t (.lst 2 (List.map attrT b))), (7, .t (.sc (.int .i64 (chkA true b 0)))), (16, .t (.sc (.bool ((chkA true b 0) != 0))))]) (l := [])
      (C := []) (by kernel_rfl) ?_ ?_
    · -- region 5
      trivial
    refine andThen_normal ?_
    refine Sim.cond (b := ((chkA true b 0) != 0)) (by kernel_rfl) (fun h5 => ?_) (fun h5 => ?_)
    · (try simp only [bne_iff_ne, bne_eq_false_iff_eq, ne_eq] at h5)
      refine Sim.seq ?_
      refine Sim.reg (orcs := []) (keys := [4, 5]) (τ := []) (nx := 120)
        (sl := [(4, .t (.sc (.slice none 0 0))), (5, .t (.sc (.int .i64 (chkA true b 0))))]) (l := [])
        (C := []) (by kernel_rfl) ?_ ?_
      · -- region 6
        trivial
      refine andThen_normal ?_
      refine Sim.ret ?_
      refine andThen_ret ?_
      refine Fin.le (Le.nilLst (t := 4) (k := 2) rfl rfl) ?_
      refine Fin.mk2 (.inl rfl) (τ := []) (keys := [4, 5]) (nx := 120) (sl := [(4, .t (.lst 2 (List.map attrT []))), (5, .t (.sc (.int .i64 (chkA true b 0))))]) (l := []) (res' := .tup [.t (.lst 2 (List.map attrT [])), .t (.sc (.int .i64 (chkA true b 0)))]) (by kernel_rfl) ?_ (by kernel_rfl) ?_
      · -- end 2, objects
        first | done | rfl
      · -- end 2, result
        have e3 : ((applyL a b)) = [] := by
          simp only [applyL, applyE]; ((repeat' split) <;> first | rfl | omega | (simp_all; done) | (simp_all; omega))
        have e4 : ((applyE a b) : Int) = (chkA true b 0) := by
          simp only [applyL, applyE]; ((repeat' split) <;> first | rfl | omega | (simp_all; done) | (simp_all; omega))
        show AVal.tup [.t (.lst 2 (List.map attrT [])), .t (.sc (.int .i64 (chkA true b 0)))] = .tup [.t (.lst 2 (List.map attrT (applyL a b))), .t (.sc (.int .i64 (applyE a b)))]
        rw [e3, e4]
        try rfl
    · (try simp only [bne_iff_ne, bne_eq_false_iff_eq, ne_eq] at h5)
      refine Sim.skip ?_
      refine andThen_normal ?_
      refine Sim.seq ?_
      refine Sim.reg (orcs := [(2, ⟨none, none, none, some (⟨1, [], .t (.lst 2 (List.map attrT (fm rawG a b))), []⟩)⟩)]) (keys := [4, 5]) (τ := []) (nx := 136)
        (sl := [(4, .t (.lst 2 (List.map attrT (fm rawG a b)))), (5, .t (.sc (.int .i64 0)))]) (l := [])
        (C := [callable Try.prog 83 = true, FC Try.prog 83 [.t (.lst 2 (List.map attrT a)), .t (.lst 2 (List.map attrT b))] emp (.t (.lst 2 (List.map attrT (fm rawG a b)))) (app emp [])]) (by kernel_rfl) ?_ ?_
      · -- region 7
        exact ⟨(by kernel_rfl), (fc_raw a b (by omega)), trivial⟩
      refine andThen_normal ?_
      refine Sim.ret ?_
      refine Fin.mk2 (.inl rfl) (τ := []) (keys := [4, 5]) (nx := 136) (sl := [(4, .t (.lst 2 (List.map attrT (fm rawG a b)))), (5, .t (.sc (.int .i64 0)))]) (l := []) (res' := .tup [.t (.lst 2 (List.map attrT (fm rawG a b))), .t (.sc (.int .i64 0))]) (by kernel_rfl) ?_ (by kernel_rfl) ?_
      · -- end 3, objects
        first | done | rfl
      · -- end 3, result
        have e5 : ((applyL a b)) = (fm rawG a b) := by
          simp only [applyL, applyE]; ((repeat' split) <;> first | rfl | omega | (simp_all; done) | (simp_all; omega))
        have e6 : ((applyE a b) : Int) = 0 := by
          simp only [applyL, applyE]; ((repeat' split) <;> first | rfl | omega | (simp_all; done) | (simp_all; omega))
        show AVal.tup [.t (.lst 2 (List.map attrT (fm rawG a b))), .t (.sc (.int .i64 0))] = .tup [.t (.lst 2 (List.map attrT (applyL a b))), .t (.sc (.int .i64 (applyE a b)))]
        rw [e5, e6]
        try rfl

theorem fc_undo (a b : List Attr) (hn : 2 * a.length + b.length < 1099511627776) : FC Try.prog 29 [.t (.lst 2 (List.map attrT a)), .t (.lst 2 (List.map attrT b))] (app emp []) (.tup [.t (.lst 2 (List.map attrT (undoL a b))), .t (.sc (.int .i64 (applyE a b)))]) (app emp []) := by
  refine FC.of_sim (fn := Try.f29) (nx := 0) (by kernel_rfl) rfl (by kernel_rfl) rfl ?_
  show Sim _ _ _ _ ⟨[(0, .t (.lst 2 (List.map attrT a))), (1, .t (.lst 2 (List.map attrT b)))], app emp [], 0⟩ _
  refine Sim.len (t := 0) (k := 2) rfl (fun hl0 => ?_)
  rw [List.length_map] at hl0
  refine Sim.len (t := 1) (k := 2) rfl (fun hl1 => ?_)
  rw [List.length_map] at hl1
  have b1 := applyL_len a b
  refine Sim.seq ?_
  refine Sim.reg (orcs := []) (keys := [0, 1]) (τ := []) (nx := 16)
    (sl := [(0, .t (.lst 2 (List.map attrT a))), (1, .t (.lst 2 (List.map attrT b)))]) (l := [])
    (C := []) (by kernel_rfl) ?_ ?_
  · -- region 0
    trivial
  refine andThen_normal ?_
  refine Sim.seq ?_
  refine Sim.reg (orcs := [(2, ⟨none, none, none, some (⟨1, [], .tup [.t (.lst 2 (List.map attrT (applyL a b))), .t (.sc (.int .i64 (applyE a b)))], []⟩)⟩)]) (keys := [0, 6, 7]) (τ := []) (nx := 80)
    (sl := [(0, .t (.lst 2 (List.map attrT a))), (6, .t (.lst 2 (List.map attrT (applyL a b)))), (7, .t (.sc (.int .i64 (applyE a b))))]) (l := [])
    (C := [callable Try.prog 28 = true, FC Try.prog 28 [.t (.lst 2 (List.map attrT a)), .t (.lst 2 (List.map attrT b))] emp (.tup [.t (.lst 2 (List.map attrT (applyL a b))), .t (.sc (.int .i64 (applyE a b)))]) (app emp [])]) (by kernel_rfl) ?_ ?_
  · -- region 1
    exact ⟨(by kernel_rfl), (fc_apply a b (by first | omega | (simp; done) | (simp; omega))), trivial⟩
  refine andThen_normal ?_
  refine Sim.seq ?_
  refine Sim.seq ?_
  refine Sim.reg (orcs := []) (keys := [0, 6, 7, 15]) (τ := []) (nx := 96)
    (sl := [(0, .t (.lst 2 (List.map attrT a))), (6, .t (.lst 2 (List.map attrT (applyL a b)))), (7, .t (.sc (.int .i64 (applyE a b)))), (15, .t (.sc (.bool ((applyE a b) != 0))))]) (l := [])
    (C := []) (by kernel_rfl) ?_ ?_
  · -- region 2
    trivial
  refine andThen_normal ?_
  refine Sim.cond (b := ((applyE a b) != 0)) (by kernel_rfl) (fun h2 => ?_) (fun h2 => ?_)
  · (try simp only [bne_iff_ne, bne_eq_false_iff_eq, ne_eq] at h2)
    refine Sim.seq ?_
    refine Sim.reg (orcs := []) (keys := [4, 5]) (τ := []) (nx := 120)
      (sl := [(4, .t (.sc (.slice none 0 0))), (5, .t (.sc (.int .i64 (applyE a b))))]) (l := [])
      (C := []) (by kernel_rfl) ?_ ?_
    · -- region 3
      trivial
    refine andThen_normal ?_
    refine Sim.ret ?_
    refine andThen_ret ?_
    refine Fin.le (Le.nilLst (t := 4) (k := 2) rfl rfl) ?_
    refine Fin.mk2 (.inl rfl) (τ := []) (keys := [4, 5]) (nx := 120) (sl := [(4, .t (.lst 2 (List.map attrT []))), (5, .t (.sc (.int .i64 (applyE a b))))]) (l := []) (res' := .tup [.t (.lst 2 (List.map attrT [])), .t (.sc (.int .i64 (applyE a b)))]) (by kernel_rfl) ?_ (by kernel_rfl) ?_
    · -- end 1, objects
      first | done | rfl
    · -- end 1, result
      have e1 : ((undoL a b)) = [] := by
        first | omega | (unfold undoL; ((repeat' split) <;> first | rfl | omega | (simp_all; done) | (simp_all; omega)))
      show AVal.tup [.t (.lst 2 (List.map attrT [])), .t (.sc (.int .i64 (applyE a b)))] = .tup [.t (.lst 2 (List.map attrT (undoL a b))), .t (.sc (.int .i64 (applyE a b)))]
      rw [e1]
      try rfl
  · (try simp only [bne_iff_ne, bne_eq_false_iff_eq, ne_eq] at h2)
    refine Sim.skip ?_
    refine andThen_normal ?_
    refine Sim.seq ?_
    refine Sim.reg (orcs := [(2, ⟨none, none, none, some (⟨1, [], .t (.lst 2 (List.map attrT (fm chgG (applyL a b) a))), []⟩)⟩)]) (keys := [4, 5]) (τ := []) (nx := 136)
      (sl := [(4, .t (.lst 2 (List.map attrT (fm chgG (applyL a b) a)))), (5, .t (.sc (.int .i64 0)))]) (l := [])
      (C := [callable Try.prog 84 = true, FC Try.prog 84 [.t (.lst 2 (List.map attrT (applyL a b))), .t (.lst 2 (List.map attrT a))] emp (.t (.lst 2 (List.map attrT (fm chgG (applyL a b) a)))) (app emp [])]) (by kernel_rfl) ?_ ?_
    · -- region 4
      exact ⟨(by kernel_rfl), (fc_change (applyL a b) a (by omega)), trivial⟩
    refine andThen_normal ?_
    refine Sim.ret ?_
    refine Fin.mk2 (.inl rfl) (τ := []) (keys := [4, 5]) (nx := 136) (sl := [(4, .t (.lst 2 (List.map attrT (fm chgG (applyL a b) a)))), (5, .t (.sc (.int .i64 0)))]) (l := []) (res' := .tup [.t (.lst 2 (List.map attrT (fm chgG (applyL a b) a))), .t (.sc (.int .i64 0))]) (by kernel_rfl) ?_ (by kernel_rfl) ?_
    · -- end 2, objects
      first | done | rfl
    · -- end 2, result
      have e2 : ((undoL a b)) = (fm chgG (applyL a b) a) := by
        first | omega | (unfold undoL; ((repeat' split) <;> first | rfl | omega | (simp_all; done) | (simp_all; omega)))
      have e3 : ((applyE a b) : Int) = 0 := by
        first | omega | (unfold undoL; ((repeat' split) <;> first | rfl | omega | (simp_all; done) | (simp_all; omega)))
      show AVal.tup [.t (.lst 2 (List.map attrT (fm chgG (applyL a b) a))), .t (.sc (.int .i64 0))] = .tup [.t (.lst 2 (List.map attrT (undoL a b))), .t (.sc (.int .i64 (applyE a b)))]
      rw [e2, e3]
      try rfl

theorem fc_between (a b : List Attr) (hn : a.length + b.length < 1099511627776) : FC Try.prog 31 [.t (.lst 2 (List.map attrT a)), .t (.lst 2 (List.map attrT b))] (app emp []) (.tup [.t (.lst 2 (List.map attrT (betL a b))), .t (.sc (.int .i64 (betE a b)))]) (app emp []) := by
  refine FC.of_sim (fn := Try.f31) (nx := 0) (by kernel_rfl) rfl (by kernel_rfl) rfl ?_
  show Sim _ _ _ _ ⟨[(0, .t (.lst 2 (List.map attrT a))), (1, .t (.lst 2 (List.map attrT b)))], app emp [], 0⟩ _
  refine Sim.len (t := 0) (k := 2) rfl (fun hl0 => ?_)
  rw [List.length_map] at hl0
  refine Sim.len (t := 1) (k := 2) rfl (fun hl1 => ?_)
  rw [List.length_map] at hl1
  refine Sim.seq ?_
  refine Sim.reg (orcs := []) (keys := [0, 1]) (τ := []) (nx := 16)
    (sl := [(0, .t (.lst 2 (List.map attrT a))), (1, .t (.lst 2 (List.map attrT b)))]) (l := [])
    (C := []) (by kernel_rfl) ?_ ?_
  · -- region 0
    trivial
  refine andThen_normal ?_
  refine Sim.seq ?_
  refine Sim.seq ?_
  refine Sim.reg (orcs := [(1, ⟨none, none, none, some (⟨0, [], .t (.sc (.int .i64 (chkA false a 0))), []⟩)⟩)]) (keys := [0, 1, 6]) (τ := []) (nx := 40)
    (sl := [(0, .t (.lst 2 (List.map attrT a))), (1, .t (.lst 2 (List.map attrT b))), (6, .t (.sc (.int .i64 (chkA false a 0))))]) (l := [])
    (C := [callable Try.prog 81 = true, FC Try.prog 81 [.t (.lst 2 (List.map attrT a))] emp (.t (.sc (.int .i64 (chkA false a 0)))) emp]) (by kernel_rfl) ?_ ?_
  · -- region 1
    exact ⟨(by kernel_rfl), (fc_acheck a), trivial⟩
  refine andThen_normal ?_
  refine Sim.seq ?_
  refine Sim.reg (orcs := []) (keys := [0, 1, 6, 11]) (τ := []) (nx := 56)
    (sl := [(0, .t (.lst 2 (List.map attrT a))), (1, .t (.lst 2 (List.map attrT b))), (6, .t (.sc (.int .i64 (chkA false a 0)))), (11, .t (.sc (.bool ((chkA false a 0) != 0))))]) (l := [])
    (C := []) (by kernel_rfl) ?_ ?_
  · -- region 2
    trivial
  refine andThen_normal ?_
  refine Sim.cond (b := ((chkA false a 0) != 0)) (by kernel_rfl) (fun h2 => ?_) (fun h2 => ?_)
  · (try simp only [bne_iff_ne, bne_eq_false_iff_eq, ne_eq] at h2)
    refine Sim.seq ?_
    refine Sim.reg (orcs := []) (keys := [4, 5]) (τ := []) (nx := 80)
      (sl := [(4, .t (.sc (.slice none 0 0))), (5, .t (.sc (.int .i64 (chkA false a 0))))]) (l := [])
      (C := []) (by kernel_rfl) ?_ ?_
    · -- region 3
      trivial
    refine andThen_normal ?_
    refine Sim.ret ?_
    refine andThen_ret ?_
    refine Fin.le (Le.nilLst (t := 4) (k := 2) rfl rfl) ?_
    refine Fin.mk2 (.inl rfl) (τ := []) (keys := [4, 5]) (nx := 80) (sl := [(4, .t (.lst 2 (List.map attrT []))), (5, .t (.sc (.int .i64 (chkA false a 0))))]) (l := []) (res' := .tup [.t (.lst 2 (List.map attrT [])), .t (.sc (.int .i64 (chkA false a 0)))]) (by kernel_rfl) ?_ (by kernel_rfl) ?_
    · -- end 1, objects
      first | done | rfl
    · -- end 1, result
      have e1 : ((betL a b)) = [] := by
        simp only [betL, betE]; ((repeat' split) <;> first | rfl | omega | (simp_all; done) | (simp_all; omega))
      have e2 : ((betE a b) : Int) = (chkA false a 0) := by
        simp only [betL, betE]; ((repeat' split) <;> first | rfl | omega | (simp_all; done) | (simp_all; omega))
      show AVal.tup [.t (.lst 2 (List.map attrT [])), .t (.sc (.int .i64 (chkA false a 0)))] = .tup [.t (.lst 2 (List.map attrT (betL a b))), .t (.sc (.int .i64 (betE a b)))]
      rw [e1, e2]
      try rfl
  · (try simp only [bne_iff_ne, bne_eq_false_iff_eq, ne_eq] at h2)
    refine Sim.skip ?_
    refine andThen_normal ?_
    refine Sim.seq ?_
    refine Sim.seq ?_
    refine Sim.reg (orcs := [(1, ⟨none, none, none, some (⟨0, [], .t (.sc (.int .i64 (chkA false b 0))), []⟩)⟩)]) (keys := [0, 1, 7]) (τ := []) (nx := 80)
      (sl := [(0, .t (.lst 2 (List.map attrT a))), (1, .t (.lst 2 (List.map attrT b))), (7, .t (.sc (.int .i64 (chkA false b 0))))]) (l := [])
      (C := [callable Try.prog 81 = true, FC Try.prog 81 [.t (.lst 2 (List.map attrT b))] emp (.t (.sc (.int .i64 (chkA false b 0)))) emp]) (by kernel_rfl) ?_ ?_
    · -- region 4
      exact ⟨(by kernel_rfl), (fc_acheck b), trivial⟩
    refine andThen_normal ?_
    refine Sim.seq ?_
    refine Sim.reg (orcs := []) (keys := [0, 1, 7, 16]) (τ := []) (nx := 96)
      (sl := [(0, .t (.lst 2 (List.map attrT a))), (1, .t (.lst 2 (List.map attrT b))), (7, .t (.sc (.int .i64 (chkA false b 0)))), (16, .t (.sc (.bool ((chkA false b 0) != 0))))]) (l := [])
      (C := []) (by kernel_rfl) ?_ ?_
    · -- region 5
      trivial
    refine andThen_normal ?_
    refine Sim.cond (b := ((chkA false b 0) != 0)) (by kernel_rfl) (fun h5 => ?_) (fun h5 => ?_)
    · (try simp only [bne_iff_ne, bne_eq_false_iff_eq, ne_eq] at h5)
      refine Sim.seq ?_
      refine Sim.reg (orcs := []) (keys := [4, 5]) (τ := []) (nx := 120)
        (sl := [(4, .t (.sc (.slice none 0 0))), (5, .t (.sc (.int .i64 (chkA false b 0))))]) (l := [])
        (C := []) (by kernel_rfl) ?_ ?_
      · -- region 6
        trivial
      refine andThen_normal ?_
      refine Sim.ret ?_
      refine andThen_ret ?_
      refine Fin.le (Le.nilLst (t := 4) (k := 2) rfl rfl) ?_
      refine Fin.mk2 (.inl rfl) (τ := []) (keys := [4, 5]) (nx := 120) (sl := [(4, .t (.lst 2 (List.map attrT []))), (5, .t (.sc (.int .i64 (chkA false b 0))))]) (l := []) (res' := .tup [.t (.lst 2 (List.map attrT [])), .t (.sc (.int .i64 (chkA false b 0)))]) (by kernel_rfl) ?_ (by kernel_rfl) ?_
      · -- end 2, objects
        first | done | rfl
      · -- end 2, result
        have e3 : ((betL a b)) = [] := by
          simp only [betL, betE]; ((repeat' split) <;> first | rfl | omega | (simp_all; done) | (simp_all; omega))
        have e4 : ((betE a b) : Int) = (chkA false b 0) := by
          simp only [betL, betE]; ((repeat' split) <;> first | rfl | omega | (simp_all; done) | (simp_all; omega))
        show AVal.tup [.t (.lst 2 (List.map attrT [])), .t (.sc (.int .i64 (chkA false b 0)))] = .tup [.t (.lst 2 (List.map attrT (betL a b))), .t (.sc (.int .i64 (betE a b)))]
        rw [e3, e4]
        try rfl
    · (try simp only [bne_iff_ne, bne_eq_false_iff_eq, ne_eq] at h5)
      refine Sim.skip ?_
      refine andThen_normal ?_
      refine Sim.seq ?_
      refine Sim.reg (orcs := [(2, ⟨none, none, none, some (⟨1, [], .t (.lst 2 (List.map attrT (fm chgG a b))), []⟩)⟩)]) (keys := [4, 5]) (τ := []) (nx := 136)
        (sl := [(4, .t (.lst 2 (List.map attrT (fm chgG a b)))), (5, .t (.sc (.int .i64 0)))]) (l := [])
        (C := [callable Try.prog 84 = true, FC Try.prog 84 [.t (.lst 2 (List.map attrT a)), .t (.lst 2 (List.map attrT b))] emp (.t (.lst 2 (List.map attrT (fm chgG a b)))) (app emp [])]) (by kernel_rfl) ?_ ?_
      · -- region 7
        exact ⟨(by kernel_rfl), (fc_change a b (by omega)), trivial⟩
      refine andThen_normal ?_
      refine Sim.ret ?_
      refine Fin.mk2 (.inl rfl) (τ := []) (keys := [4, 5]) (nx := 136) (sl := [(4, .t (.lst 2 (List.map attrT (fm chgG a b)))), (5, .t (.sc (.int .i64 0)))]) (l := []) (res' := .tup [.t (.lst 2 (List.map attrT (fm chgG a b))), .t (.sc (.int .i64 0))]) (by kernel_rfl) ?_ (by kernel_rfl) ?_
      · -- end 3, objects
        first | done | rfl
      · -- end 3, result
        have e5 : ((betL a b)) = (fm chgG a b) := by
          simp only [betL, betE]; ((repeat' split) <;> first | rfl | omega | (simp_all; done) | (simp_all; omega))
        have e6 : ((betE a b) : Int) = 0 := by
          simp only [betL, betE]; ((repeat' split) <;> first | rfl | omega | (simp_all; done) | (simp_all; omega))
        show AVal.tup [.t (.lst 2 (List.map attrT (fm chgG a b))), .t (.sc (.int .i64 0))] = .tup [.t (.lst 2 (List.map attrT (betL a b))), .t (.sc (.int .i64 (betE a b)))]
        rw [e5, e6]
        try rfl

theorem fc_join (a b : List Attr) (hn : a.length + b.length < 1099511627776) : FC Try.prog 34 [.t (.lst 2 (List.map attrT a)), .t (.lst 2 (List.map attrT b))] (app emp []) (.tup [.t (.lst 2 (List.map attrT (joinL a b))), .t (.sc (.int .i64 (joinE a b)))]) (app emp []) := by
  refine FC.of_sim (fn := Try.f34) (nx := 0) (by kernel_rfl) rfl (by kernel_rfl) rfl ?_
  show Sim _ _ _ _ ⟨[(0, .t (.lst 2 (List.map attrT a))), (1, .t (.lst 2 (List.map attrT b)))], app emp [], 0⟩ _
  refine Sim.len (t := 0) (k := 2) rfl (fun hl0 => ?_)
  rw [List.length_map] at hl0
  refine Sim.len (t := 1) (k := 2) rfl (fun hl1 => ?_)
  rw [List.length_map] at hl1
  refine Sim.seq ?_
  refine Sim.reg (orcs := []) (keys := [0, 1]) (τ := []) (nx := 16)
    (sl := [(0, .t (.lst 2 (List.map attrT a))), (1, .t (.lst 2 (List.map attrT b)))]) (l := [])
    (C := []) (by kernel_rfl) ?_ ?_
  · -- region 0
    trivial
  refine andThen_normal ?_
  refine Sim.seq ?_
  refine Sim.seq ?_
  refine Sim.reg (orcs := [(1, ⟨none, none, none, some (⟨0, [], .t (.sc (.int .i64 (chkA true a 0))), []⟩)⟩)]) (keys := [0, 1, 6]) (τ := []) (nx := 40)
    (sl := [(0, .t (.lst 2 (List.map attrT a))), (1, .t (.lst 2 (List.map attrT b))), (6, .t (.sc (.int .i64 (chkA true a 0))))]) (l := [])
    (C := [callable Try.prog 82 = true, FC Try.prog 82 [.t (.lst 2 (List.map attrT a))] emp (.t (.sc (.int .i64 (chkA true a 0)))) emp]) (by kernel_rfl) ?_ ?_
  · -- region 1
    exact ⟨(by kernel_rfl), (fc_acheckChange a), trivial⟩
  refine andThen_normal ?_
  refine Sim.seq ?_
  refine Sim.reg (orcs := []) (keys := [0, 1, 6, 11]) (τ := []) (nx := 56)
    (sl := [(0, .t (.lst 2 (List.map attrT a))), (1, .t (.lst 2 (List.map attrT b))), (6, .t (.sc (.int .i64 (chkA true a 0)))), (11, .t (.sc (.bool ((chkA true a 0) != 0))))]) (l := [])
    (C := []) (by kernel_rfl) ?_ ?_
  · -- region 2
    trivial
  refine andThen_normal ?_
  refine Sim.cond (b := ((chkA true a 0) != 0)) (by kernel_rfl) (fun h2 => ?_) (fun h2 => ?_)
  · (try simp only [bne_iff_ne, bne_eq_false_iff_eq, ne_eq] at h2)
    refine Sim.seq ?_
    refine Sim.reg (orcs := []) (keys := [4, 5]) (τ := []) (nx := 80)
      (sl := [(4, .t (.sc (.slice none 0 0))), (5, .t (.sc (.int .i64 (chkA true a 0))))]) (l := [])
      (C := []) (by kernel_rfl) ?_ ?_
    · -- region 3
      trivial
    refine andThen_normal ?_
    refine Sim.ret ?_
    refine andThen_ret ?_
    refine Fin.le (Le.nilLst (t := 4) (k := 2) rfl rfl) ?_
    refine Fin.mk2 (.inl rfl) (τ := []) (keys := [4, 5]) (nx := 80) (sl := [(4, .t (.lst 2 (List.map attrT []))), (5, .t (.sc (.int .i64 (chkA true a 0))))]) (l := []) (res' := .tup [.t (.lst 2 (List.map attrT [])), .t (.sc (.int .i64 (chkA true a 0)))]) (by kernel_rfl) ?_ (by kernel_rfl) ?_
    · -- end 1, objects
      first | done | rfl
    · -- end 1, result
      have e1 : ((joinL a b)) = [] := by
        simp only [joinL, joinE]; ((repeat' split) <;> first | rfl | omega | (simp_all; done) | (simp_all; omega))
      have e2 : ((joinE a b) : Int) = (chkA true a 0) := by
        simp only [joinL, joinE]; ((repeat' split) <;> first | rfl | omega | (simp_all; done) | (simp_all; omega))
      show AVal.tup [.t (.lst 2 (List.map attrT [])), .t (.sc (.int .i64 (chkA true a 0)))] = .tup [.t (.lst 2 (List.map attrT (joinL a b))), .t (.sc (.int .i64 (joinE a b)))]
      rw [e1, e2]
      try rfl
  · (try simp only [bne_iff_ne, bne_eq_false_iff_eq, ne_eq] at h2)
    refine Sim.skip ?_
    refine andThen_normal ?_
    refine Sim.seq ?_
    refine Sim.seq ?_
    refine Sim.reg (orcs := [(1, ⟨none, none, none, some (⟨0, [], .t (.sc (.int .i64 (chkA true b 0))), []⟩)⟩)]) (keys := [0, 1, 7]) (τ := []) (nx := 80)
      (sl := [(0, .t (.lst 2 (List.map attrT a))), (1, .t (.lst 2 (List.map attrT b))), (7, .t (.sc (.int .i64 (chkA true b 0))))]) (l := [])
      (C := [callable Try.prog 82 = true, FC Try.prog 82 [.t (.lst 2 (List.map attrT b))] emp (.t (.sc (.int .i64 (chkA true b 0)))) emp]) (by kernel_rfl) ?_ ?_
    · -- region 4
      exact ⟨(by kernel_rfl), (fc_acheckChange b), trivial⟩
    refine andThen_normal ?_
    refine Sim.seq ?_
    refine Sim.reg (orcs := []) (keys := [0, 1, 7, 16]) (τ := []) (nx := 96)
      (sl := [(0, .t (.lst 2 (List.map attrT a))), (1, .t (.lst 2 (List.map attrT b))), (7, .t (.sc (.int .i64 (chkA true b 0)))), (16, .t (.sc (.bool ((chkA true b 0) != 0))))]) (l := [])
      (C := []) (by kernel_rfl) ?_ ?_
    · -- region 5
      trivial
    refine andThen_normal ?_
    refine Sim.cond (b := ((chkA true b 0) != 0)) (by kernel_rfl) (fun h5 => ?_) (fun h5 => ?_)
    · (try simp only [bne_iff_ne, bne_eq_false_iff_eq, ne_eq] at h5)
      refine Sim.seq ?_
      refine Sim.reg (orcs := []) (keys := [4, 5]) (τ := []) (nx := 120)
        (sl := [(4, .t (.sc (.slice none 0 0))), (5, .t (.sc (.int .i64 (chkA true b 0))))]) (l := [])
        (C := []) (by kernel_rfl) ?_ ?_
      · -- region 6
        trivial
      refine andThen_normal ?_
      refine Sim.ret ?_
      refine andThen_ret ?_
      refine Fin.le (Le.nilLst (t := 4) (k := 2) rfl rfl) ?_
      refine Fin.mk2 (.inl rfl) (τ := []) (keys := [4, 5]) (nx := 120) (sl := [(4, .t (.lst 2 (List.map attrT []))), (5, .t (.sc (.int .i64 (chkA true b 0))))]) (l := []) (res' := .tup [.t (.lst 2 (List.map attrT [])), .t (.sc (.int .i64 (chkA true b 0)))]) (by kernel_rfl) ?_ (by kernel_rfl) ?_
      · -- end 2, objects
        first | done | rfl
      · -- end 2, result
        have e3 : ((joinL a b)) = [] := by
          simp only [joinL, joinE]; ((repeat' split) <;> first | rfl | omega | (simp_all; done) | (simp_all; omega))
        have e4 : ((joinE a b) : Int) = (chkA true b 0) := by
          simp only [joinL, joinE]; ((repeat' split) <;> first | rfl | omega | (simp_all; done) | (simp_all; omega))
        show AVal.tup [.t (.lst 2 (List.map attrT [])), .t (.sc (.int .i64 (chkA true b 0)))] = .tup [.t (.lst 2 (List.map attrT (joinL a b))), .t (.sc (.int .i64 (joinE a b)))]
        rw [e3, e4]
        try rfl
    · (try simp only [bne_iff_ne, bne_eq_false_iff_eq, ne_eq] at h5)
      refine Sim.skip ?_
      refine andThen_normal ?_
      refine Sim.seq ?_
      refine Sim.reg (orcs := [(2, ⟨none, none, none, some (⟨1, [], .t (.lst 2 (List.map attrT (fm botG a b))), []⟩)⟩)]) (keys := [4, 5]) (τ := []) (nx := 136)
        (sl := [(4, .t (.lst 2 (List.map attrT (fm botG a b)))), (5, .t (.sc (.int .i64 0)))]) (l := [])
        (C := [callable Try.prog 86 = true, FC Try.prog 86 [.t (.lst 2 (List.map attrT a)), .t (.lst 2 (List.map attrT b))] emp (.t (.lst 2 (List.map attrT (fm botG a b)))) (app emp [])]) (by kernel_rfl) ?_ ?_
      · -- region 7
        exact ⟨(by kernel_rfl), (fc_bothA a b (by omega)), trivial⟩
      refine andThen_normal ?_
      refine Sim.ret ?_
      refine Fin.mk2 (.inl rfl) (τ := []) (keys := [4, 5]) (nx := 136) (sl := [(4, .t (.lst 2 (List.map attrT (fm botG a b)))), (5, .t (.sc (.int .i64 0)))]) (l := []) (res' := .tup [.t (.lst 2 (List.map attrT (fm botG a b))), .t (.sc (.int .i64 0))]) (by kernel_rfl) ?_ (by kernel_rfl) ?_
      · -- end 3, objects
        first | done | rfl
      · -- end 3, result
        have e5 : ((joinL a b)) = (fm botG a b) := by
          simp only [joinL, joinE]; ((repeat' split) <;> first | rfl | omega | (simp_all; done) | (simp_all; omega))
        have e6 : ((joinE a b) : Int) = 0 := by
          simp only [joinL, joinE]; ((repeat' split) <;> first | rfl | omega | (simp_all; done) | (simp_all; omega))
        show AVal.tup [.t (.lst 2 (List.map attrT (fm botG a b))), .t (.sc (.int .i64 0))] = .tup [.t (.lst 2 (List.map attrT (joinL a b))), .t (.sc (.int .i64 (joinE a b)))]
        rw [e5, e6]
        try rfl

theorem fc_pair (a b : List Attr) (hn : a.length + b.length < 1099511627776) : FC Try.prog 33 [.t (.lst 2 (List.map attrT a)), .t (.lst 2 (List.map attrT b))] (app emp []) (.tup [.t (.lst 2 (List.map attrT (pairL a b))), .t (.lst 2 (List.map attrT (pairR a b))), .t (.sc (.int .i64 (joinE a b)))]) (app emp []) := by
  refine FC.of_sim (fn := Try.f33) (nx := 0) (by kernel_rfl) rfl (by kernel_rfl) rfl ?_
  show Sim _ _ _ _ ⟨[(0, .t (.lst 2 (List.map attrT a))), (1, .t (.lst 2 (List.map attrT b)))], app emp [], 0⟩ _
  refine Sim.len (t := 0) (k := 2) rfl (fun hl0 => ?_)
  rw [List.length_map] at hl0
  refine Sim.len (t := 1) (k := 2) rfl (fun hl1 => ?_)
  rw [List.length_map] at hl1
  refine Sim.seq ?_
  refine Sim.reg (orcs := []) (keys := [0, 1]) (τ := []) (nx := 24)
    (sl := [(0, .t (.lst 2 (List.map attrT a))), (1, .t (.lst 2 (List.map attrT b)))]) (l := [])
    (C := []) (by kernel_rfl) ?_ ?_
  · -- region 0
    trivial
  refine andThen_normal ?_
  refine Sim.seq ?_
  refine Sim.seq ?_
  refine Sim.reg (orcs := [(1, ⟨none, none, none, some (⟨0, [], .t (.sc (.int .i64 (chkA true a 0))), []⟩)⟩)]) (keys := [0, 1, 7]) (τ := []) (nx := 48)
    (sl := [(0, .t (.lst 2 (List.map attrT a))), (1, .t (.lst 2 (List.map attrT b))), (7, .t (.sc (.int .i64 (chkA true a 0))))]) (l := [])
    (C := [callable Try.prog 82 = true, FC Try.prog 82 [.t (.lst 2 (List.map attrT a))] emp (.t (.sc (.int .i64 (chkA true a 0)))) emp]) (by kernel_rfl) ?_ ?_
  · -- region 1
    exact ⟨(by kernel_rfl), (fc_acheckChange a), trivial⟩
  refine andThen_normal ?_
  refine Sim.seq ?_
  refine Sim.reg (orcs := []) (keys := [0, 1, 7, 12]) (τ := []) (nx := 64)
    (sl := [(0, .t (.lst 2 (List.map attrT a))), (1, .t (.lst 2 (List.map attrT b))), (7, .t (.sc (.int .i64 (chkA true a 0)))), (12, .t (.sc (.bool ((chkA true a 0) != 0))))]) (l := [])
    (C := []) (by kernel_rfl) ?_ ?_
  · -- region 2
    trivial
  refine andThen_normal ?_
  refine Sim.cond (b := ((chkA true a 0) != 0)) (by kernel_rfl) (fun h2 => ?_) (fun h2 => ?_)
  · (try simp only [bne_iff_ne, bne_eq_false_iff_eq, ne_eq] at h2)
    refine Sim.seq ?_
    refine Sim.reg (orcs := []) (keys := [4, 5, 6]) (τ := []) (nx := 96)
      (sl := [(4, .t (.sc (.slice none 0 0))), (5, .t (.sc (.slice none 0 0))), (6, .t (.sc (.int .i64 (chkA true a 0))))]) (l := [])
      (C := []) (by kernel_rfl) ?_ ?_
    · -- region 3
      trivial
    refine andThen_normal ?_
    refine Sim.ret ?_
    refine andThen_ret ?_
    refine Fin.le (Le.nilLst (t := 4) (k := 2) rfl rfl) ?_
    refine Fin.le (Le.nilLst (t := 5) (k := 2) rfl rfl) ?_
    refine Fin.mk2 (.inl rfl) (τ := []) (keys := [4, 5, 6]) (nx := 96) (sl := [(4, .t (.lst 2 (List.map attrT []))), (5, .t (.lst 2 (List.map attrT []))), (6, .t (.sc (.int .i64 (chkA true a 0))))]) (l := []) (res' := .tup [.t (.lst 2 (List.map attrT [])), .t (.lst 2 (List.map attrT [])), .t (.sc (.int .i64 (chkA true a 0)))]) (by kernel_rfl) ?_ (by kernel_rfl) ?_
    · -- end 1, objects
      first | done | rfl
    · -- end 1, result
      have e1 : ((pairL a b)) = [] := by
        simp only [pairL, pairR, joinE]; ((repeat' split) <;> first | rfl | omega | (simp_all; done) | (simp_all; omega))
      have e2 : ((pairR a b)) = [] := by
        simp only [pairL, pairR, joinE]; ((repeat' split) <;> first | rfl | omega | (simp_all; done) | (simp_all; omega))
      have e3 : ((joinE a b) : Int) = (chkA true a 0) := by
        simp only [pairL, pairR, joinE]; ((repeat' split) <;> first | rfl | omega | (simp_all; done) | (simp_all; omega))
      show AVal.tup [.t (.lst 2 (List.map attrT [])), .t (.lst 2 (List.map attrT [])), .t (.sc (.int .i64 (chkA true a 0)))] = .tup [.t (.lst 2 (List.map attrT (pairL a b))), .t (.lst 2 (List.map attrT (pairR a b))), .t (.sc (.int .i64 (joinE a b)))]
      rw [e1, e2, e3]
      try rfl
  · (try simp only [bne_iff_ne, bne_eq_false_iff_eq, ne_eq] at h2)
    refine Sim.skip ?_
    refine andThen_normal ?_
    refine Sim.seq ?_
    refine Sim.seq ?_
    refine Sim.reg (orcs := [(1, ⟨none, none, none, some (⟨0, [], .t (.sc (.int .i64 (chkA true b 0))), []⟩)⟩)]) (keys := [0, 1, 8]) (τ := []) (nx := 88)
      (sl := [(0, .t (.lst 2 (List.map attrT a))), (1, .t (.lst 2 (List.map attrT b))), (8, .t (.sc (.int .i64 (chkA true b 0))))]) (l := [])
      (C := [callable Try.prog 82 = true, FC Try.prog 82 [.t (.lst 2 (List.map attrT b))] emp (.t (.sc (.int .i64 (chkA true b 0)))) emp]) (by kernel_rfl) ?_ ?_
    · -- region 4
      exact ⟨(by kernel_rfl), (fc_acheckChange b), trivial⟩
    refine andThen_normal ?_
    refine Sim.seq ?_
    refine Sim.reg (orcs := []) (keys := [0, 1, 8, 17]) (τ := []) (nx := 104)
      (sl := [(0, .t (.lst 2 (List.map attrT a))), (1, .t (.lst 2 (List.map attrT b))), (8, .t (.sc (.int .i64 (chkA true b 0)))), (17, .t (.sc (.bool ((chkA true b 0) != 0))))]) (l := [])
      (C := []) (by kernel_rfl) ?_ ?_
    · -- region 5
      trivial
    refine andThen_normal ?_
    refine Sim.cond (b := ((chkA true b 0) != 0)) (by kernel_rfl) (fun h5 => ?_) (fun h5 => ?_)
    · (try simp only [bne_iff_ne, bne_eq_false_iff_eq, ne_eq] at h5)
      refine Sim.seq ?_
      refine Sim.reg (orcs := []) (keys := [4, 5, 6]) (τ := []) (nx := 136)
        (sl := [(4, .t (.sc (.slice none 0 0))), (5, .t (.sc (.slice none 0 0))), (6, .t (.sc (.int .i64 (chkA true b 0))))]) (l := [])
        (C := []) (by kernel_rfl) ?_ ?_
      · -- region 6
        trivial
      refine andThen_normal ?_
      refine Sim.ret ?_
      refine andThen_ret ?_
      refine Fin.le (Le.nilLst (t := 4) (k := 2) rfl rfl) ?_
      refine Fin.le (Le.nilLst (t := 5) (k := 2) rfl rfl) ?_
      refine Fin.mk2 (.inl rfl) (τ := []) (keys := [4, 5, 6]) (nx := 136) (sl := [(4, .t (.lst 2 (List.map attrT []))), (5, .t (.lst 2 (List.map attrT []))), (6, .t (.sc (.int .i64 (chkA true b 0))))]) (l := []) (res' := .tup [.t (.lst 2 (List.map attrT [])), .t (.lst 2 (List.map attrT [])), .t (.sc (.int .i64 (chkA true b 0)))]) (by kernel_rfl) ?_ (by kernel_rfl) ?_
      · -- end 2, objects
        first | done | rfl
      · -- end 2, result
        have e4 : ((pairL a b)) = [] := by
          simp only [pairL, pairR, joinE]; ((repeat' split) <;> first | rfl | omega | (simp_all; done) | (simp_all; omega))
        have e5 : ((pairR a b)) = [] := by
          simp only [pairL, pairR, joinE]; ((repeat' split) <;> first | rfl | omega | (simp_all; done) | (simp_all; omega))
        have e6 : ((joinE a b) : Int) = (chkA true b 0) := by
          simp only [pairL, pairR, joinE]; ((repeat' split) <;> first | rfl | omega | (simp_all; done) | (simp_all; omega))
        show AVal.tup [.t (.lst 2 (List.map attrT [])), .t (.lst 2 (List.map attrT [])), .t (.sc (.int .i64 (chkA true b 0)))] = .tup [.t (.lst 2 (List.map attrT (pairL a b))), .t (.lst 2 (List.map attrT (pairR a b))), .t (.sc (.int .i64 (joinE a b)))]
        rw [e4, e5, e6]
        try rfl
    · (try simp only [bne_iff_ne, bne_eq_false_iff_eq, ne_eq] at h5)
      refine Sim.skip ?_
      refine andThen_normal ?_
      refine Sim.seq ?_
      refine Sim.reg (orcs := [(2, ⟨none, none, none, some (⟨1, [], .t (.lst 2 (List.map attrT (fm wioG a b))), []⟩)⟩), (4, ⟨some (.row 136 b.length), none, none, none⟩)]) (keys := [4, 5, 6]) (τ := [(136, 136)]) (nx := 168)
        (sl := [(4, .t (.lst 2 (List.map attrT (fm wioG a b)))), (5, .row 136 b.length), (6, .t (.sc (.int .i64 0)))]) (l := [(136, .row 2 false (List.map attrT b))])
        (C := [callable Try.prog 85 = true, FC Try.prog 85 [.t (.lst 2 (List.map attrT a)), .t (.lst 2 (List.map attrT b))] emp (.t (.lst 2 (List.map attrT (fm wioG a b)))) (app emp []), ((List.map attrT b).length : Nat) ≤ 1099511627776, AVal.row 136 b.length = .row 136 ((List.map attrT b).length)]) (by kernel_rfl) ?_ ?_
      · -- region 7
        exact ⟨(by kernel_rfl), (fc_without a b (by omega)), (by (first | omega | with_reducible exact fun h => h | (intro hq; rw [hq]; done) | (intro hq; rw [hq]; rfl) | (simp only [List.length_map]; done) | (simp only [List.length_map]; omega) | (simp; omega) | (simp; done))), (by rw [List.length_map]), trivial⟩
      refine andThen_normal ?_
      refine Sim.ret ?_
      refine Fin.le (Le.freeze (t := 5) (v' := .t (.lst 2 (List.map attrT b))) (g := [(136, .row 2 true (List.map attrT b))]) (p := [(b.length : Nat) = (List.map attrT b).length]) rfl (by kernel_rfl) ⟨(by (first | omega | with_reducible exact fun h => h | (intro hq; rw [hq]; done) | (intro hq; rw [hq]; rfl) | (simp only [List.length_map]; done) | (simp only [List.length_map]; omega) | (simp; omega) | (simp; done))), trivial⟩ (by kernel_rfl)) ?_
      refine Fin.mk2 (.inl rfl) (τ := []) (keys := [4, 5, 6]) (nx := 168) (sl := [(4, .t (.lst 2 (List.map attrT (fm wioG a b)))), (5, .t (.lst 2 (List.map attrT b))), (6, .t (.sc (.int .i64 0)))]) (l := []) (res' := .tup [.t (.lst 2 (List.map attrT (fm wioG a b))), .t (.lst 2 (List.map attrT b)), .t (.sc (.int .i64 0))]) (by kernel_rfl) ?_ (by kernel_rfl) ?_
      · -- end 3, objects
        first | done | rfl
      · -- end 3, result
        have e7 : ((pairL a b)) = (fm wioG a b) := by
          simp only [pairL, pairR, joinE]; ((repeat' split) <;> first | rfl | omega | (simp_all; done) | (simp_all; omega))
        have e8 : ((pairR a b)) = b := by
          simp only [pairL, pairR, joinE]; ((repeat' split) <;> first | rfl | omega | (simp_all; done) | (simp_all; omega))
        have e9 : ((joinE a b) : Int) = 0 := by
          simp only [pairL, pairR, joinE]; ((repeat' split) <;> first | rfl | omega | (simp_all; done) | (simp_all; omega))
        show AVal.tup [.t (.lst 2 (List.map attrT (fm wioG a b))), .t (.lst 2 (List.map attrT b)), .t (.sc (.int .i64 0))] = .tup [.t (.lst 2 (List.map attrT (pairL a b))), .t (.lst 2 (List.map attrT (pairR a b))), .t (.sc (.int .i64 (joinE a b)))]
        rw [e7, e8, e9]
        try rfl
end Go.Ch
