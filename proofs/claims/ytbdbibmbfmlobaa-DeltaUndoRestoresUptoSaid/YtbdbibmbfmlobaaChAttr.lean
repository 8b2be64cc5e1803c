import Derived.Test.YtbdbibmbfmlobaaAttrPlain
import Derived.Test.YtbdbibmbfmlobaaProg
set_option linter.unusedVariables false
set_option linter.unusedSimpArgs false
set_option maxRecDepth 100000
set_option maxHeartbeats 4000000
open Go Go.Proofs Go.Ab
namespace Go.Ch
theorem seq_mt {s : ByteArray} : seq s { data := #[] } = decide (s.size = 0) := by
  by_cases h : s.size = 0
  · rw [decide_eq_true h, seq_iff]
    obtain ⟨⟨l⟩⟩ := s
    cases l with
    | nil => rfl
    | cons a l => simp [ByteArray.size] at h
  · rw [decide_eq_false h, seq_no]
    intro e; subst e; exact h rfl
theorem str_pos {s : ByteArray} (h : seq s { data := #[] } = false) : (0 : Int) < (s.size : Int) := by
  rw [seq_mt, decide_eq_false_iff_not] at h; omega
def byt (s : ByteArray) (i : Nat) : Nat := ((s[i]?).getD 0).toNat
def badC (b : Nat) : Prop := (b < 97 ∨ 122 < b) ∧ (b < 48 ∨ 57 < b) ∧ b ≠ 46 ∧ b ≠ 45
instance (b : Nat) : Decidable (badC b) := by unfold badC; infer_instance
def nmS (s : ByteArray) (i : Nat) : Bool := if i < s.size then (if badC (byt s i) then false else nmS s (i + 1)) else true
termination_by s.size - i
def nameGo (s : ByteArray) : Bool := decide (1 ≤ s.size ∧ s.size ≤ 24 ∧ 97 ≤ byt s 0 ∧ byt s 0 ≤ 122) && nmS s 0
def vlS (s : ByteArray) (i : Nat) : Bool := if i < s.size then (if byt s i < 32 ∨ 126 < byt s i then false else vlS s (i + 1)) else true
termination_by s.size - i
def valGo (s : ByteArray) : Bool := decide (1 ≤ s.size ∧ s.size ≤ 200) && vlS s 0
def nmR (s : ByteArray) (i : Nat) : Bool := if i < s.size then (if (byt s i < 97 ∨ 122 < byt s i) ∧ (i = 0 ∨ (byt s i ≠ 46 ∧ byt s i ≠ 45 ∧ (byt s i < 48 ∨ 57 < byt s i))) then false else nmR s (i + 1)) else true
termination_by s.size - i
def nameRf (s : ByteArray) : Bool := nmR s 0 && decide (1 ≤ s.size ∧ s.size ≤ 24)
def valRf (s : ByteArray) : Bool := vlS s 0 && decide (1 ≤ s.size ∧ s.size ≤ 200)
theorem nmR_pos (s : ByteArray) (i : Nat) (h : 0 < i) : nmR s i = nmS s i := by
  induction i using nmS.induct (s := s) with
  | case1 i hi hb => rw [nmR, nmS, if_pos hi, if_pos hi, if_pos hb, if_pos]; unfold badC at hb; omega
  | case2 i hi hb ih => rw [nmR, nmS, if_pos hi, if_pos hi, if_neg hb, if_neg]; exact ih (by omega); unfold badC at hb; omega
  | case3 i hi => rw [nmR, nmS, if_neg hi, if_neg hi]
theorem nameRf_eq (s : ByteArray) : nameRf s = nameGo s := by
  unfold nameRf nameGo
  by_cases h : 1 ≤ s.size
  · rw [nmR, if_pos (by omega), nmR_pos s (0 + 1) (by omega)]
    by_cases h2 : 97 ≤ byt s 0 ∧ byt s 0 ≤ 122
    · have e : nmS s 0 = nmS s (0 + 1) := by rw [nmS, if_pos (by omega), if_neg (by unfold badC; omega)]
      rw [if_neg (by omega), e, Bool.and_comm]
      congr 1
      simp [h2]
    · rw [if_pos (by omega), decide_eq_false (by omega : ¬ (1 ≤ s.size ∧ s.size ≤ 24 ∧ 97 ≤ byt s 0 ∧ byt s 0 ≤ 122))]
      simp
  · rw [decide_eq_false (by omega), decide_eq_false (by omega)]; simp
theorem valRf_eq (s : ByteArray) : valRf s = valGo s := by unfold valRf valGo; rw [Bool.and_comm]
theorem byt0 (s : ByteArray) (i : Nat) : ((s[i]?).getD 0).toNat = byt s i := rfl

theorem fc_name (s : ByteArray) : FC Try.prog 149 [.t (.sc (.string s))] (app emp []) (.t (.sc (.bool (nameGo s)))) (app emp []) := by
  refine FC.of_sim (fn := Try.f149) (nx := 0) (by kernel_rfl) rfl (by kernel_rfl) rfl ?_
  show Sim _ _ _ _ ⟨[(0, .t (.sc (.string s)))], app emp [], 0⟩ _
  refine Sim.seq ?_
  refine Sim.reg (orcs := []) (keys := [0]) (τ := []) (nx := 8)
    (sl := [(0, .t (.sc (.string s)))]) (l := [])
    (C := []) (by kernel_rfl) ?_ ?_
  · -- region 0
    trivial
  refine andThen_normal ?_
  refine Sim.seq ?_
  refine Sim.seq ?_
  refine Sim.reg (orcs := []) (keys := [0, 21]) (τ := []) (nx := 144)
    (sl := [(0, .t (.sc (.string s))), (21, .t (.sc (.bool (((seq s ({ data := #[] }) || decide ((s.size : Int) > 24)) || decide (((((s[0]?).getD 0).toNat : Nat) : Int) < 97)) || decide (((((s[0]?).getD 0).toNat : Nat) : Int) > 122)))))]) (l := [])
    (C := [(!(seq s ({ data := #[] }))) = true → (!(seq s ({ data := #[] }))) = true, (!(seq s ({ data := #[] }))) = true → (!(seq s ({ data := #[] }))) = true, (seq s ({ data := #[] })) = false → (!(seq s ({ data := #[] }))) = true, (!(seq s ({ data := #[] }) || decide ((s.size : Int) > 24))) = true → (!(seq s ({ data := #[] }) || decide ((s.size : Int) > 24))) = true, (!(seq s ({ data := #[] }) || decide ((s.size : Int) > 24))) = true → (0:Int) ≤ 0, (!(seq s ({ data := #[] }) || decide ((s.size : Int) > 24))) = true → 0 < (s.size : Int), (!(seq s ({ data := #[] }) || decide ((s.size : Int) > 24))) = true → (!(seq s ({ data := #[] }) || decide ((s.size : Int) > 24))) = true, (seq s ({ data := #[] }) || decide ((s.size : Int) > 24)) = false → (!(seq s ({ data := #[] }) || decide ((s.size : Int) > 24))) = true, (!((seq s ({ data := #[] }) || decide ((s.size : Int) > 24)) || decide (((((s[0]?).getD 0).toNat : Nat) : Int) < 97))) = true → (!((seq s ({ data := #[] }) || decide ((s.size : Int) > 24)) || decide (((((s[0]?).getD 0).toNat : Nat) : Int) < 97))) = true, (!((seq s ({ data := #[] }) || decide ((s.size : Int) > 24)) || decide (((((s[0]?).getD 0).toNat : Nat) : Int) < 97))) = true → (0:Int) ≤ 0, (!((seq s ({ data := #[] }) || decide ((s.size : Int) > 24)) || decide (((((s[0]?).getD 0).toNat : Nat) : Int) < 97))) = true → 0 < (s.size : Int), (!((seq s ({ data := #[] }) || decide ((s.size : Int) > 24)) || decide (((((s[0]?).getD 0).toNat : Nat) : Int) < 97))) = true → (!((seq s ({ data := #[] }) || decide ((s.size : Int) > 24)) || decide (((((s[0]?).getD 0).toNat : Nat) : Int) < 97))) = true, ((seq s ({ data := #[] }) || decide ((s.size : Int) > 24)) || decide (((((s[0]?).getD 0).toNat : Nat) : Int) < 97)) = false → (!((seq s ({ data := #[] }) || decide ((s.size : Int) > 24)) || decide (((((s[0]?).getD 0).toNat : Nat) : Int) < 97))) = true]) (by kernel_rfl) ?_ ?_
  · -- region 1
    refine ⟨?_, ?_, ?_, ?_, ?_, (fun hg => by (try simp only [decide_eq_true_eq, decide_eq_false_iff_not, Int.not_lt, Int.not_le, gt_iff_lt, Bool.not_eq_true', Bool.not_eq_false', Bool.or_eq_true, Bool.or_eq_false_iff] at hg); exact (str_pos (by first | exact hg | exact hg.1 | exact hg.1.1))), ?_, ?_, ?_, ?_, (fun hg => by (try simp only [decide_eq_true_eq, decide_eq_false_iff_not, Int.not_lt, Int.not_le, gt_iff_lt, Bool.not_eq_true', Bool.not_eq_false', Bool.or_eq_true, Bool.or_eq_false_iff] at hg); exact (str_pos (by first | exact hg | exact hg.1 | exact hg.1.1))), ?_, ?_, trivial⟩
    all_goals (first | omega | with_reducible exact fun h => h | (intro hg hq; rw [hg, hq]; rfl) | (intro hq; rw [hq]; done) | (intro hq; rw [hq]; rfl) | ((try intro hg); (try simp [-List.getD_eq_getElem?_getD] at hg); (try simp only [List.length_map]); first | done | omega | rfl | (simp; done) | (simp; omega) | (simp [hg]; done) | (intro hq; simp [hg, hq]; done) | (intro hq; simp [hg, hq]; omega)))
  refine andThen_normal ?_
  refine Sim.cond (b := (((seq s ({ data := #[] }) || decide ((s.size : Int) > 24)) || decide (((((s[0]?).getD 0).toNat : Nat) : Int) < 97)) || decide (((((s[0]?).getD 0).toNat : Nat) : Int) > 122))) (by kernel_rfl) (fun h1 => ?_) (fun h1 => ?_)
  · (try simp only [decide_eq_true_eq, decide_eq_false_iff_not, Int.not_lt, Int.not_le, gt_iff_lt, Bool.or_eq_true, Bool.or_eq_false_iff] at h1)
    refine Sim.seq ?_
    refine Sim.reg (orcs := []) (keys := [2]) (τ := []) (nx := 152)
      (sl := [(2, .t (.sc (.bool false)))]) (l := [])
      (C := []) (by kernel_rfl) ?_ ?_
    · -- region 2
      trivial
    refine andThen_normal ?_
    refine Sim.ret ?_
    refine andThen_ret ?_
    refine Fin.mk2 (.inl rfl) (τ := []) (keys := [2]) (nx := 152) (sl := [(2, .t (.sc (.bool false)))]) (l := []) (res' := .t (.sc (.bool false))) (by kernel_rfl) ?_ (by kernel_rfl) ?_
    · -- end 1, objects
      first | done | rfl
    · -- end 1, result
      have e1 : ((nameGo s) : Bool) = false := by
        simp only [byt0, seq_mt, decide_eq_true_eq] at h1; unfold nameGo; rw [decide_eq_false (by omega)]; rfl
      show AVal.t (.sc (.bool false)) = .t (.sc (.bool (nameGo s)))
      rw [e1]
      try rfl
  · (try simp only [decide_eq_true_eq, decide_eq_false_iff_not, Int.not_lt, Int.not_le, gt_iff_lt, Bool.or_eq_true, Bool.or_eq_false_iff] at h1)
    refine Sim.skip ?_
    refine andThen_normal ?_
    refine Sim.seq ?_
    refine Sim.seq ?_
    refine Sim.reg (orcs := []) (keys := [0, 23, 24]) (τ := []) (nx := 168)
      (sl := [(0, .t (.sc (.string s))), (23, .t (.sc (.int .i64 (s.size : Int)))), (24, .t (.sc (.int .i64 0)))]) (l := [])
      (C := []) (by kernel_rfl) ?_ ?_
    · -- region 3
      trivial
    refine andThen_normal ?_
    refine Sim.block ?_
    refine Sim.weaken (Le.ren (τ := []) (keys := [0, 23, 24]) (nx := 168) (sl := [(0, .t (.sc (.string s))), (23, .t (.sc (.int .i64 (s.size : Int)))), (24, .t (.sc (.int .i64 ((0 : Nat) : Int))))]) (l := []) (by kernel_rfl)) ?_
    refine Sim.loop ?_
    refine loop_ind (α := Nat) (fun i => ⟨[(0, .t (.sc (.string s))), (23, .t (.sc (.int .i64 (s.size : Int)))), (24, .t (.sc (.int .i64 (i : Int))))], app emp [], 168⟩) (fun i => i ≤ s.size ∧ nmS s 0 = nmS s i) (fun i => s.size - i) ?_ (0 : Nat) ?_
    rotate_left
    · -- loop 4, start
      exact ⟨by omega, rfl⟩
    rintro i I4 ih4
    show LoopSim _ _ _ _ ⟨[(0, .t (.sc (.string s))), (23, .t (.sc (.int .i64 (s.size : Int)))), (24, .t (.sc (.int .i64 (i : Int))))], app emp [], 168⟩ _
    replace I4 : i ≤ s.size ∧ nmS s 0 = nmS s i := I4
    refine LoopSim.step ?_
    refine Sim.seq ?_
    refine Sim.reg (orcs := []) (keys := [0, 23, 24, 25]) (τ := []) (nx := 176)
      (sl := [(0, .t (.sc (.string s))), (23, .t (.sc (.int .i64 (s.size : Int)))), (24, .t (.sc (.int .i64 (i : Int)))), (25, .t (.sc (.bool (decide ((i : Int) < (s.size : Int))))))]) (l := [])
      (C := []) (by kernel_rfl) ?_ ?_
    · -- region 4
      trivial
    refine andThen_normal ?_
    refine Sim.seq ?_
    refine Sim.cond (b := decide ((i : Int) < (s.size : Int))) (by kernel_rfl) (fun h4 => ?_) (fun h4 => ?_)
    · (try simp only [decide_eq_true_eq, decide_eq_false_iff_not, Int.not_lt, Int.not_le] at h4)
      refine Sim.skip ?_
      refine andThen_normal ?_
      refine Sim.seq ?_
      refine Sim.block ?_
      refine Sim.seq ?_
      refine Sim.reg (orcs := []) (keys := [0, 3, 23, 24]) (τ := []) (nx := 192)
        (sl := [(0, .t (.sc (.string s))), (3, .t (.sc (.int .i64 (i : Int)))), (23, .t (.sc (.int .i64 (s.size : Int)))), (24, .t (.sc (.int .i64 (i : Int))))]) (l := [])
        (C := []) (by kernel_rfl) ?_ ?_
      · -- region 5
        trivial
      refine andThen_normal ?_
      refine Sim.seq ?_
      refine Sim.reg (orcs := []) (keys := [0, 4, 23, 24]) (τ := []) (nx := 224)
        (sl := [(0, .t (.sc (.string s))), (4, .t (.sc (.int .u8 ((((s[i]?).getD 0).toNat : Nat) : Int)))), (23, .t (.sc (.int .i64 (s.size : Int)))), (24, .t (.sc (.int .i64 (i : Int))))]) (l := [])
        (C := [(0:Int) ≤ (i : Int), (i : Int) < (s.size : Int)]) (by kernel_rfl) ?_ ?_
      · -- region 6
        refine ⟨?_, ?_, trivial⟩
        all_goals omega
      refine andThen_normal ?_
      refine Sim.seq ?_
      refine Sim.reg (orcs := []) (keys := [0, 23, 24, 51]) (τ := []) (nx := 400)
        (sl := [(0, .t (.sc (.string s))), (23, .t (.sc (.int .i64 (s.size : Int)))), (24, .t (.sc (.int .i64 (i : Int)))), (51, .t (.sc (.bool ((((decide (((((s[i]?).getD 0).toNat : Nat) : Int) < 97) || decide (((((s[i]?).getD 0).toNat : Nat) : Int) > 122)) && (decide (((((s[i]?).getD 0).toNat : Nat) : Int) < 48) || decide (((((s[i]?).getD 0).toNat : Nat) : Int) > 57))) && (((((s[i]?).getD 0).toNat : Nat) : Int) != 46)) && (((((s[i]?).getD 0).toNat : Nat) : Int) != 45)))))]) (l := [])
        (C := [(!(decide (((((s[i]?).getD 0).toNat : Nat) : Int) < 97))) = true → (!(decide (((((s[i]?).getD 0).toNat : Nat) : Int) < 97))) = true, (decide (((((s[i]?).getD 0).toNat : Nat) : Int) < 97)) = false → (!(decide (((((s[i]?).getD 0).toNat : Nat) : Int) < 97))) = true, (decide (((((s[i]?).getD 0).toNat : Nat) : Int) < 97) || decide (((((s[i]?).getD 0).toNat : Nat) : Int) > 122)) = true → (decide (((((s[i]?).getD 0).toNat : Nat) : Int) < 97) || decide (((((s[i]?).getD 0).toNat : Nat) : Int) > 122)) = true, (decide (((((s[i]?).getD 0).toNat : Nat) : Int) < 97) || decide (((((s[i]?).getD 0).toNat : Nat) : Int) > 122)) = true → (decide (((((s[i]?).getD 0).toNat : Nat) : Int) < 97) || decide (((((s[i]?).getD 0).toNat : Nat) : Int) > 122)) = true, ((decide (((((s[i]?).getD 0).toNat : Nat) : Int) < 97) || decide (((((s[i]?).getD 0).toNat : Nat) : Int) > 122)) && !(decide (((((s[i]?).getD 0).toNat : Nat) : Int) < 48))) = true → ((decide (((((s[i]?).getD 0).toNat : Nat) : Int) < 97) || decide (((((s[i]?).getD 0).toNat : Nat) : Int) > 122)) && !(decide (((((s[i]?).getD 0).toNat : Nat) : Int) < 48))) = true, (decide (((((s[i]?).getD 0).toNat : Nat) : Int) < 97) || decide (((((s[i]?).getD 0).toNat : Nat) : Int) > 122)) = true → (decide (((((s[i]?).getD 0).toNat : Nat) : Int) < 97) || decide (((((s[i]?).getD 0).toNat : Nat) : Int) > 122)) = true, (decide (((((s[i]?).getD 0).toNat : Nat) : Int) < 97) || decide (((((s[i]?).getD 0).toNat : Nat) : Int) > 122)) = true → (decide (((((s[i]?).getD 0).toNat : Nat) : Int) < 48)) = false → ((decide (((((s[i]?).getD 0).toNat : Nat) : Int) < 97) || decide (((((s[i]?).getD 0).toNat : Nat) : Int) > 122)) && !(decide (((((s[i]?).getD 0).toNat : Nat) : Int) < 48))) = true, (decide (((((s[i]?).getD 0).toNat : Nat) : Int) < 97) || decide (((((s[i]?).getD 0).toNat : Nat) : Int) > 122)) = true → (decide (((((s[i]?).getD 0).toNat : Nat) : Int) < 97) || decide (((((s[i]?).getD 0).toNat : Nat) : Int) > 122)) = true, ((decide (((((s[i]?).getD 0).toNat : Nat) : Int) < 97) || decide (((((s[i]?).getD 0).toNat : Nat) : Int) > 122)) && (decide (((((s[i]?).getD 0).toNat : Nat) : Int) < 48) || decide (((((s[i]?).getD 0).toNat : Nat) : Int) > 57))) = true → ((decide (((((s[i]?).getD 0).toNat : Nat) : Int) < 97) || decide (((((s[i]?).getD 0).toNat : Nat) : Int) > 122)) && (decide (((((s[i]?).getD 0).toNat : Nat) : Int) < 48) || decide (((((s[i]?).getD 0).toNat : Nat) : Int) > 57))) = true, ((decide (((((s[i]?).getD 0).toNat : Nat) : Int) < 97) || decide (((((s[i]?).getD 0).toNat : Nat) : Int) > 122)) && (decide (((((s[i]?).getD 0).toNat : Nat) : Int) < 48) || decide (((((s[i]?).getD 0).toNat : Nat) : Int) > 57))) = true → ((decide (((((s[i]?).getD 0).toNat : Nat) : Int) < 97) || decide (((((s[i]?).getD 0).toNat : Nat) : Int) > 122)) && (decide (((((s[i]?).getD 0).toNat : Nat) : Int) < 48) || decide (((((s[i]?).getD 0).toNat : Nat) : Int) > 57))) = true, (((decide (((((s[i]?).getD 0).toNat : Nat) : Int) < 97) || decide (((((s[i]?).getD 0).toNat : Nat) : Int) > 122)) && (decide (((((s[i]?).getD 0).toNat : Nat) : Int) < 48) || decide (((((s[i]?).getD 0).toNat : Nat) : Int) > 57))) && (((((s[i]?).getD 0).toNat : Nat) : Int) != 46)) = true → (((decide (((((s[i]?).getD 0).toNat : Nat) : Int) < 97) || decide (((((s[i]?).getD 0).toNat : Nat) : Int) > 122)) && (decide (((((s[i]?).getD 0).toNat : Nat) : Int) < 48) || decide (((((s[i]?).getD 0).toNat : Nat) : Int) > 57))) && (((((s[i]?).getD 0).toNat : Nat) : Int) != 46)) = true, (((decide (((((s[i]?).getD 0).toNat : Nat) : Int) < 97) || decide (((((s[i]?).getD 0).toNat : Nat) : Int) > 122)) && (decide (((((s[i]?).getD 0).toNat : Nat) : Int) < 48) || decide (((((s[i]?).getD 0).toNat : Nat) : Int) > 57))) && (((((s[i]?).getD 0).toNat : Nat) : Int) != 46)) = true → (((decide (((((s[i]?).getD 0).toNat : Nat) : Int) < 97) || decide (((((s[i]?).getD 0).toNat : Nat) : Int) > 122)) && (decide (((((s[i]?).getD 0).toNat : Nat) : Int) < 48) || decide (((((s[i]?).getD 0).toNat : Nat) : Int) > 57))) && (((((s[i]?).getD 0).toNat : Nat) : Int) != 46)) = true]) (by kernel_rfl) ?_ ?_
      · -- region 7
        refine ⟨?_, ?_, ?_, ?_, ?_, ?_, ?_, ?_, ?_, ?_, ?_, ?_, trivial⟩
        all_goals (first | omega | with_reducible exact fun h => h | (intro hg hq; rw [hg, hq]; rfl) | (intro hq; rw [hq]; done) | (intro hq; rw [hq]; rfl) | ((try intro hg); (try simp [-List.getD_eq_getElem?_getD] at hg); (try simp only [List.length_map]); first | done | omega | rfl | (simp; done) | (simp; omega) | (simp [hg]; done) | (intro hq; simp [hg, hq]; done) | (intro hq; simp [hg, hq]; omega)))
      refine andThen_normal ?_
      refine Sim.cond (b := ((((decide (((((s[i]?).getD 0).toNat : Nat) : Int) < 97) || decide (((((s[i]?).getD 0).toNat : Nat) : Int) > 122)) && (decide (((((s[i]?).getD 0).toNat : Nat) : Int) < 48) || decide (((((s[i]?).getD 0).toNat : Nat) : Int) > 57))) && (((((s[i]?).getD 0).toNat : Nat) : Int) != 46)) && (((((s[i]?).getD 0).toNat : Nat) : Int) != 45))) (by kernel_rfl) (fun h7 => ?_) (fun h7 => ?_)
      · (try simp only [decide_eq_true_eq, decide_eq_false_iff_not, Int.not_lt, Int.not_le, gt_iff_lt, Bool.and_eq_true, Bool.and_eq_false_iff, Bool.not_eq_true', Bool.not_eq_false', Bool.or_eq_true, Bool.or_eq_false_iff, bne_iff_ne, bne_eq_false_iff_eq, ne_eq] at h7)
        refine Sim.seq ?_
        refine Sim.reg (orcs := []) (keys := [2]) (τ := []) (nx := 408)
          (sl := [(2, .t (.sc (.bool false)))]) (l := [])
          (C := []) (by kernel_rfl) ?_ ?_
        · -- region 8
          trivial
        refine andThen_normal ?_
        refine Sim.ret ?_
        refine inBlk_ret ?_
        refine andThen_ret ?_
        refine andThen_ret ?_
        refine inBlk_ret ?_
        refine andThen_ret ?_
        refine Fin.mk2 (.inl rfl) (τ := []) (keys := [2]) (nx := 408) (sl := [(2, .t (.sc (.bool false)))]) (l := []) (res' := .t (.sc (.bool false))) (by kernel_rfl) ?_ (by kernel_rfl) ?_
        · -- end 2, objects
          first | done | rfl
        · -- end 2, result
          have e2 : ((nameGo s) : Bool) = false := by
            simp only [byt0] at h7; unfold nameGo; rw [I4.2, nmS, if_pos (by omega), if_pos (by unfold badC; omega)]; simp
          show AVal.t (.sc (.bool false)) = .t (.sc (.bool (nameGo s)))
          rw [e2]
          try rfl
      · (try simp only [decide_eq_true_eq, decide_eq_false_iff_not, Int.not_lt, Int.not_le, gt_iff_lt, Bool.and_eq_true, Bool.and_eq_false_iff, Bool.not_eq_true', Bool.not_eq_false', Bool.or_eq_true, Bool.or_eq_false_iff, bne_iff_ne, bne_eq_false_iff_eq, ne_eq] at h7)
        refine Sim.skip ?_
        refine inBlk_normal ?_
        refine andThen_normal ?_
        refine Sim.reg (orcs := [(0, ⟨some (.t (.sc (.int .i64 ((i : Int) + 1)))), none, none, none⟩)]) (keys := [0, 23, 24]) (τ := []) (nx := 416)
          (sl := [(0, .t (.sc (.string s))), (23, .t (.sc (.int .i64 (s.size : Int)))), (24, .t (.sc (.int .i64 ((i : Int) + 1))))]) (l := [])
          (C := [Weak (.t (.sc (.int .i64 (IntKind.i64.wrap ((i : Int) + 1))))) (.t (.sc (.int .i64 ((i : Int) + 1))))]) (by kernel_rfl) ?_ ?_
        · -- region 9
          refine ⟨(Weak.of_eq (nw ?_)), trivial⟩
          all_goals omega
        refine andThen_normal ?_
        refine LoopSim.weaken (Le.ren (τ := []) (keys := [0, 23, 24]) (nx := 168) (sl := [(0, .t (.sc (.string s))), (23, .t (.sc (.int .i64 (s.size : Int)))), (24, .t (.sc (.int .i64 (((i + 1) : Nat) : Int))))]) (l := []) (by kernel_rfl)) ?_
        refine ih4 ((i + 1) : Nat) ?_ ?_
        · -- back 4.1, invariant
          simp only [byt0] at h7; refine ⟨by omega, ?_⟩; rw [I4.2, nmS, if_pos (by omega), if_neg (by unfold badC; omega)]
        · -- back 4.1, measure
          show (_:Nat) < _; omega
    · (try simp only [decide_eq_true_eq, decide_eq_false_iff_not, Int.not_lt, Int.not_le] at h4)
      refine Sim.exit ?_
      refine andThen_exit ?_
      refine andThen_exit ?_
      refine inBlk_same ?_
      refine andThen_normal ?_
      refine Sim.seq ?_
      refine Sim.reg (orcs := []) (keys := [2]) (τ := []) (nx := 184)
        (sl := [(2, .t (.sc (.bool true)))]) (l := [])
        (C := []) (by kernel_rfl) ?_ ?_
      · -- region 10
        trivial
      refine andThen_normal ?_
      refine Sim.ret ?_
      refine Fin.mk2 (.inl rfl) (τ := []) (keys := [2]) (nx := 184) (sl := [(2, .t (.sc (.bool true)))]) (l := []) (res' := .t (.sc (.bool true))) (by kernel_rfl) ?_ (by kernel_rfl) ?_
      · -- end 3, objects
        first | done | rfl
      · -- end 3, result
        have e3 : ((nameGo s) : Bool) = true := by
          simp only [byt0, seq_mt, decide_eq_false_iff_not] at h1; unfold nameGo; rw [I4.2, nmS, if_neg (by omega), decide_eq_true (by omega)]; rfl
        show AVal.t (.sc (.bool true)) = .t (.sc (.bool (nameGo s)))
        rw [e3]
        try rfl

theorem fc_value (s : ByteArray) : FC Try.prog 150 [.t (.sc (.string s))] (app emp []) (.t (.sc (.bool (valGo s)))) (app emp []) := by
  refine FC.of_sim (fn := Try.f150) (nx := 0) (by kernel_rfl) rfl (by kernel_rfl) rfl ?_
  show Sim _ _ _ _ ⟨[(0, .t (.sc (.string s)))], app emp [], 0⟩ _
  refine Sim.seq ?_
  refine Sim.reg (orcs := []) (keys := [0]) (τ := []) (nx := 8)
    (sl := [(0, .t (.sc (.string s)))]) (l := [])
    (C := []) (by kernel_rfl) ?_ ?_
  · -- region 0
    trivial
  refine andThen_normal ?_
  refine Sim.seq ?_
  refine Sim.seq ?_
  refine Sim.reg (orcs := []) (keys := [0, 10]) (τ := []) (nx := 64)
    (sl := [(0, .t (.sc (.string s))), (10, .t (.sc (.bool (seq s ({ data := #[] }) || decide ((s.size : Int) > 200)))))]) (l := [])
    (C := [(!(seq s ({ data := #[] }))) = true → (!(seq s ({ data := #[] }))) = true, (!(seq s ({ data := #[] }))) = true → (!(seq s ({ data := #[] }))) = true, (seq s ({ data := #[] })) = false → (!(seq s ({ data := #[] }))) = true]) (by kernel_rfl) ?_ ?_
  · -- region 1
    refine ⟨?_, ?_, ?_, trivial⟩
    all_goals (first | omega | with_reducible exact fun h => h | (intro hg hq; rw [hg, hq]; rfl) | (intro hq; rw [hq]; done) | (intro hq; rw [hq]; rfl) | ((try intro hg); (try simp [-List.getD_eq_getElem?_getD] at hg); (try simp only [List.length_map]); first | done | omega | rfl | (simp; done) | (simp; omega) | (simp [hg]; done) | (intro hq; simp [hg, hq]; done) | (intro hq; simp [hg, hq]; omega)))
  refine andThen_normal ?_
  refine Sim.cond (b := (seq s ({ data := #[] }) || decide ((s.size : Int) > 200))) (by kernel_rfl) (fun h1 => ?_) (fun h1 => ?_)
  · (try simp only [decide_eq_true_eq, decide_eq_false_iff_not, Int.not_lt, Int.not_le, gt_iff_lt, Bool.or_eq_true, Bool.or_eq_false_iff] at h1)
    refine Sim.seq ?_
    refine Sim.reg (orcs := []) (keys := [2]) (τ := []) (nx := 72)
      (sl := [(2, .t (.sc (.bool false)))]) (l := [])
      (C := []) (by kernel_rfl) ?_ ?_
    · -- region 2
      trivial
    refine andThen_normal ?_
    refine Sim.ret ?_
    refine andThen_ret ?_
    refine Fin.mk2 (.inl rfl) (τ := []) (keys := [2]) (nx := 72) (sl := [(2, .t (.sc (.bool false)))]) (l := []) (res' := .t (.sc (.bool false))) (by kernel_rfl) ?_ (by kernel_rfl) ?_
    · -- end 1, objects
      first | done | rfl
    · -- end 1, result
      have e1 : ((valGo s) : Bool) = false := by
        simp only [seq_mt, decide_eq_true_eq] at h1; unfold valGo; rw [decide_eq_false (by omega)]; rfl
      show AVal.t (.sc (.bool false)) = .t (.sc (.bool (valGo s)))
      rw [e1]
      try rfl
  · (try simp only [decide_eq_true_eq, decide_eq_false_iff_not, Int.not_lt, Int.not_le, gt_iff_lt, Bool.or_eq_true, Bool.or_eq_false_iff] at h1)
    refine Sim.skip ?_
    refine andThen_normal ?_
    refine Sim.seq ?_
    refine Sim.seq ?_
    refine Sim.reg (orcs := []) (keys := [0, 12, 13]) (τ := []) (nx := 88)
      (sl := [(0, .t (.sc (.string s))), (12, .t (.sc (.int .i64 (s.size : Int)))), (13, .t (.sc (.int .i64 0)))]) (l := [])
      (C := []) (by kernel_rfl) ?_ ?_
    · -- region 3
      trivial
    refine andThen_normal ?_
    refine Sim.block ?_
    refine Sim.weaken (Le.ren (τ := []) (keys := [0, 12, 13]) (nx := 88) (sl := [(0, .t (.sc (.string s))), (12, .t (.sc (.int .i64 (s.size : Int)))), (13, .t (.sc (.int .i64 ((0 : Nat) : Int))))]) (l := []) (by kernel_rfl)) ?_
    refine Sim.loop ?_
    refine loop_ind (α := Nat) (fun i => ⟨[(0, .t (.sc (.string s))), (12, .t (.sc (.int .i64 (s.size : Int)))), (13, .t (.sc (.int .i64 (i : Int))))], app emp [], 88⟩) (fun i => i ≤ s.size ∧ vlS s 0 = vlS s i) (fun i => s.size - i) ?_ (0 : Nat) ?_
    rotate_left
    · -- loop 4, start
      exact ⟨by omega, rfl⟩
    rintro i I4 ih4
    show LoopSim _ _ _ _ ⟨[(0, .t (.sc (.string s))), (12, .t (.sc (.int .i64 (s.size : Int)))), (13, .t (.sc (.int .i64 (i : Int))))], app emp [], 88⟩ _
    replace I4 : i ≤ s.size ∧ vlS s 0 = vlS s i := I4
    refine LoopSim.step ?_
    refine Sim.seq ?_
    refine Sim.reg (orcs := []) (keys := [0, 12, 13, 14]) (τ := []) (nx := 96)
      (sl := [(0, .t (.sc (.string s))), (12, .t (.sc (.int .i64 (s.size : Int)))), (13, .t (.sc (.int .i64 (i : Int)))), (14, .t (.sc (.bool (decide ((i : Int) < (s.size : Int))))))]) (l := [])
      (C := []) (by kernel_rfl) ?_ ?_
    · -- region 4
      trivial
    refine andThen_normal ?_
    refine Sim.seq ?_
    refine Sim.cond (b := decide ((i : Int) < (s.size : Int))) (by kernel_rfl) (fun h4 => ?_) (fun h4 => ?_)
    · (try simp only [decide_eq_true_eq, decide_eq_false_iff_not, Int.not_lt, Int.not_le] at h4)
      refine Sim.skip ?_
      refine andThen_normal ?_
      refine Sim.seq ?_
      refine Sim.block ?_
      refine Sim.seq ?_
      refine Sim.reg (orcs := []) (keys := [0, 3, 12, 13]) (τ := []) (nx := 112)
        (sl := [(0, .t (.sc (.string s))), (3, .t (.sc (.int .i64 (i : Int)))), (12, .t (.sc (.int .i64 (s.size : Int)))), (13, .t (.sc (.int .i64 (i : Int))))]) (l := [])
        (C := []) (by kernel_rfl) ?_ ?_
      · -- region 5
        trivial
      refine andThen_normal ?_
      refine Sim.seq ?_
      refine Sim.reg (orcs := []) (keys := [0, 12, 13, 25]) (τ := []) (nx := 192)
        (sl := [(0, .t (.sc (.string s))), (12, .t (.sc (.int .i64 (s.size : Int)))), (13, .t (.sc (.int .i64 (i : Int)))), (25, .t (.sc (.bool (decide (((((s[i]?).getD 0).toNat : Nat) : Int) < 32) || decide (((((s[i]?).getD 0).toNat : Nat) : Int) > 126)))))]) (l := [])
        (C := [(0:Int) ≤ (i : Int), (i : Int) < (s.size : Int), (!(decide (((((s[i]?).getD 0).toNat : Nat) : Int) < 32))) = true → (!(decide (((((s[i]?).getD 0).toNat : Nat) : Int) < 32))) = true, (!(decide (((((s[i]?).getD 0).toNat : Nat) : Int) < 32))) = true → (!(decide (((((s[i]?).getD 0).toNat : Nat) : Int) < 32))) = true, (!(decide (((((s[i]?).getD 0).toNat : Nat) : Int) < 32))) = true → (0:Int) ≤ (i : Int), (!(decide (((((s[i]?).getD 0).toNat : Nat) : Int) < 32))) = true → (i : Int) < (s.size : Int), (!(decide (((((s[i]?).getD 0).toNat : Nat) : Int) < 32))) = true → (!(decide (((((s[i]?).getD 0).toNat : Nat) : Int) < 32))) = true, (decide (((((s[i]?).getD 0).toNat : Nat) : Int) < 32)) = false → (!(decide (((((s[i]?).getD 0).toNat : Nat) : Int) < 32))) = true]) (by kernel_rfl) ?_ ?_
      · -- region 6
        refine ⟨?_, ?_, ?_, ?_, ?_, ?_, ?_, ?_, trivial⟩
        all_goals (first | omega | with_reducible exact fun h => h | (intro hg hq; rw [hg, hq]; rfl) | (intro hq; rw [hq]; done) | (intro hq; rw [hq]; rfl) | ((try intro hg); (try simp [-List.getD_eq_getElem?_getD] at hg); (try simp only [List.length_map]); first | done | omega | rfl | (simp; done) | (simp; omega) | (simp [hg]; done) | (intro hq; simp [hg, hq]; done) | (intro hq; simp [hg, hq]; omega)))
      refine andThen_normal ?_
      refine Sim.cond (b := (decide (((((s[i]?).getD 0).toNat : Nat) : Int) < 32) || decide (((((s[i]?).getD 0).toNat : Nat) : Int) > 126))) (by kernel_rfl) (fun h6 => ?_) (fun h6 => ?_)
      · (try simp only [decide_eq_true_eq, decide_eq_false_iff_not, Int.not_lt, Int.not_le, gt_iff_lt, Bool.or_eq_true, Bool.or_eq_false_iff] at h6)
        refine Sim.seq ?_
        refine Sim.reg (orcs := []) (keys := [2]) (τ := []) (nx := 200)
          (sl := [(2, .t (.sc (.bool false)))]) (l := [])
          (C := []) (by kernel_rfl) ?_ ?_
        · -- region 7
          trivial
        refine andThen_normal ?_
        refine Sim.ret ?_
        refine inBlk_ret ?_
        refine andThen_ret ?_
        refine andThen_ret ?_
        refine inBlk_ret ?_
        refine andThen_ret ?_
        refine Fin.mk2 (.inl rfl) (τ := []) (keys := [2]) (nx := 200) (sl := [(2, .t (.sc (.bool false)))]) (l := []) (res' := .t (.sc (.bool false))) (by kernel_rfl) ?_ (by kernel_rfl) ?_
        · -- end 2, objects
          first | done | rfl
        · -- end 2, result
          have e2 : ((valGo s) : Bool) = false := by
            simp only [byt0] at h6; unfold valGo; rw [I4.2, vlS, if_pos (by omega), if_pos (by omega)]; simp
          show AVal.t (.sc (.bool false)) = .t (.sc (.bool (valGo s)))
          rw [e2]
          try rfl
      · (try simp only [decide_eq_true_eq, decide_eq_false_iff_not, Int.not_lt, Int.not_le, gt_iff_lt, Bool.or_eq_true, Bool.or_eq_false_iff] at h6)
        refine Sim.skip ?_
        refine inBlk_normal ?_
        refine andThen_normal ?_
        refine Sim.reg (orcs := [(0, ⟨some (.t (.sc (.int .i64 ((i : Int) + 1)))), none, none, none⟩)]) (keys := [0, 12, 13]) (τ := []) (nx := 208)
          (sl := [(0, .t (.sc (.string s))), (12, .t (.sc (.int .i64 (s.size : Int)))), (13, .t (.sc (.int .i64 ((i : Int) + 1))))]) (l := [])
          (C := [Weak (.t (.sc (.int .i64 (IntKind.i64.wrap ((i : Int) + 1))))) (.t (.sc (.int .i64 ((i : Int) + 1))))]) (by kernel_rfl) ?_ ?_
        · -- region 8
          refine ⟨(Weak.of_eq (nw ?_)), trivial⟩
          all_goals omega
        refine andThen_normal ?_
        refine LoopSim.weaken (Le.ren (τ := []) (keys := [0, 12, 13]) (nx := 88) (sl := [(0, .t (.sc (.string s))), (12, .t (.sc (.int .i64 (s.size : Int)))), (13, .t (.sc (.int .i64 (((i + 1) : Nat) : Int))))]) (l := []) (by kernel_rfl)) ?_
        refine ih4 ((i + 1) : Nat) ?_ ?_
        · -- back 4.1, invariant
          simp only [byt0] at h6; refine ⟨by omega, ?_⟩; rw [I4.2, vlS, if_pos (by omega), if_neg (by omega)]
        · -- back 4.1, measure
          show (_:Nat) < _; omega
    · (try simp only [decide_eq_true_eq, decide_eq_false_iff_not, Int.not_lt, Int.not_le] at h4)
      refine Sim.exit ?_
      refine andThen_exit ?_
      refine andThen_exit ?_
      refine inBlk_same ?_
      refine andThen_normal ?_
      refine Sim.seq ?_
      refine Sim.reg (orcs := []) (keys := [2]) (τ := []) (nx := 104)
        (sl := [(2, .t (.sc (.bool true)))]) (l := [])
        (C := []) (by kernel_rfl) ?_ ?_
      · -- region 9
        trivial
      refine andThen_normal ?_
      refine Sim.ret ?_
      refine Fin.mk2 (.inl rfl) (τ := []) (keys := [2]) (nx := 104) (sl := [(2, .t (.sc (.bool true)))]) (l := []) (res' := .t (.sc (.bool true))) (by kernel_rfl) ?_ (by kernel_rfl) ?_
      · -- end 3, objects
        first | done | rfl
      · -- end 3, result
        have e3 : ((valGo s) : Bool) = true := by
          simp only [seq_mt, decide_eq_false_iff_not] at h1; unfold valGo; rw [I4.2, vlS, if_neg (by omega), decide_eq_true (by omega)]; rfl
        show AVal.t (.sc (.bool true)) = .t (.sc (.bool (valGo s)))
        rw [e3]
        try rfl

theorem fc_nameR (s : ByteArray) (hs : s.size ≤ 9223372036854775807) : FC Try.prog 79 [.t (.sc (.string s))] (app emp []) (.t (.sc (.bool (nameRf s)))) (app emp []) := by
  refine FC.of_sim (fn := Try.f79) (nx := 0) (by kernel_rfl) rfl (by kernel_rfl) rfl ?_
  show Sim _ _ _ _ ⟨[(0, .t (.sc (.string s)))], app emp [], 0⟩ _
  refine Sim.seq ?_
  refine Sim.reg (orcs := []) (keys := [0]) (τ := []) (nx := 8)
    (sl := [(0, .t (.sc (.string s)))]) (l := [])
    (C := []) (by kernel_rfl) ?_ ?_
  · -- region 0
    trivial
  refine andThen_normal ?_
  refine Sim.seq ?_
  refine Sim.seq ?_
  refine Sim.reg (orcs := []) (keys := [0, 6, 7]) (τ := []) (nx := 32)
    (sl := [(0, .t (.sc (.string s))), (6, .t (.sc (.int .i64 (s.size : Int)))), (7, .t (.sc (.int .i64 0)))]) (l := [])
    (C := []) (by kernel_rfl) ?_ ?_
  · -- region 1
    trivial
  refine andThen_normal ?_
  refine Sim.block ?_
  refine Sim.weaken (Le.ren (τ := []) (keys := [0, 6, 7]) (nx := 32) (sl := [(0, .t (.sc (.string s))), (6, .t (.sc (.int .i64 (s.size : Int)))), (7, .t (.sc (.int .i64 ((0 : Nat) : Int))))]) (l := []) (by kernel_rfl)) ?_
  refine Sim.loop ?_
  refine loop_ind (α := Nat) (fun i => ⟨[(0, .t (.sc (.string s))), (6, .t (.sc (.int .i64 (s.size : Int)))), (7, .t (.sc (.int .i64 (i : Int))))], app emp [], 32⟩) (fun i => i ≤ s.size ∧ nmR s 0 = nmR s i) (fun i => s.size - i) ?_ (0 : Nat) ?_
  rotate_left
  · -- loop 2, start
    exact ⟨by omega, rfl⟩
  rintro i I2 ih2
  show LoopSim _ _ _ _ ⟨[(0, .t (.sc (.string s))), (6, .t (.sc (.int .i64 (s.size : Int)))), (7, .t (.sc (.int .i64 (i : Int))))], app emp [], 32⟩ _
  replace I2 : i ≤ s.size ∧ nmR s 0 = nmR s i := I2
  refine LoopSim.step ?_
  refine Sim.seq ?_
  refine Sim.reg (orcs := []) (keys := [0, 6, 7, 8]) (τ := []) (nx := 40)
    (sl := [(0, .t (.sc (.string s))), (6, .t (.sc (.int .i64 (s.size : Int)))), (7, .t (.sc (.int .i64 (i : Int)))), (8, .t (.sc (.bool (decide ((i : Int) < (s.size : Int))))))]) (l := [])
    (C := []) (by kernel_rfl) ?_ ?_
  · -- region 2
    trivial
  refine andThen_normal ?_
  refine Sim.seq ?_
  refine Sim.cond (b := decide ((i : Int) < (s.size : Int))) (by kernel_rfl) (fun h2 => ?_) (fun h2 => ?_)
  · (try simp only [decide_eq_true_eq, decide_eq_false_iff_not, Int.not_lt, Int.not_le] at h2)
    refine Sim.skip ?_
    refine andThen_normal ?_
    refine Sim.seq ?_
    refine Sim.block ?_
    refine Sim.seq ?_
    refine Sim.reg (orcs := []) (keys := [0, 3, 6, 7]) (τ := []) (nx := 56)
      (sl := [(0, .t (.sc (.string s))), (3, .t (.sc (.int .i64 (i : Int)))), (6, .t (.sc (.int .i64 (s.size : Int)))), (7, .t (.sc (.int .i64 (i : Int))))]) (l := [])
      (C := []) (by kernel_rfl) ?_ ?_
    · -- region 3
      trivial
    refine andThen_normal ?_
    refine Sim.seq ?_
    refine Sim.reg (orcs := []) (keys := [0, 3, 4, 6, 7]) (τ := []) (nx := 144)
      (sl := [(0, .t (.sc (.string s))), (3, .t (.sc (.int .i64 (i : Int)))), (4, .t (.sc (.bool (decide (((((s[i]?).getD 0).toNat : Nat) : Int) ≥ 97) && decide (((((s[i]?).getD 0).toNat : Nat) : Int) ≤ 122))))), (6, .t (.sc (.int .i64 (s.size : Int)))), (7, .t (.sc (.int .i64 (i : Int))))]) (l := [])
      (C := [(0:Int) ≤ (i : Int), (i : Int) < (s.size : Int), (decide (((((s[i]?).getD 0).toNat : Nat) : Int) ≥ 97)) = true → (decide (((((s[i]?).getD 0).toNat : Nat) : Int) ≥ 97)) = true, (decide (((((s[i]?).getD 0).toNat : Nat) : Int) ≥ 97)) = true → (decide (((((s[i]?).getD 0).toNat : Nat) : Int) ≥ 97)) = true, (decide (((((s[i]?).getD 0).toNat : Nat) : Int) ≥ 97)) = true → (0:Int) ≤ (i : Int), (decide (((((s[i]?).getD 0).toNat : Nat) : Int) ≥ 97)) = true → (i : Int) < (s.size : Int), (decide (((((s[i]?).getD 0).toNat : Nat) : Int) ≥ 97)) = true → (decide (((((s[i]?).getD 0).toNat : Nat) : Int) ≥ 97)) = true, (decide (((((s[i]?).getD 0).toNat : Nat) : Int) ≥ 97)) = true → (decide (((((s[i]?).getD 0).toNat : Nat) : Int) ≥ 97)) = true]) (by kernel_rfl) ?_ ?_
    · -- region 4
      refine ⟨?_, ?_, ?_, ?_, ?_, ?_, ?_, ?_, trivial⟩
      all_goals (first | omega | with_reducible exact fun h => h | (intro hg hq; rw [hg, hq]; rfl) | (intro hq; rw [hq]; done) | (intro hq; rw [hq]; rfl) | ((try intro hg); (try simp [-List.getD_eq_getElem?_getD] at hg); (try simp only [List.length_map]); first | done | omega | rfl | (simp; done) | (simp; omega) | (simp [hg]; done) | (intro hq; simp [hg, hq]; done) | (intro hq; simp [hg, hq]; omega)))
    refine andThen_normal ?_
    refine Sim.seq ?_
    refine Sim.reg (orcs := []) (keys := [0, 6, 7, 49]) (τ := []) (nx := 384)
      (sl := [(0, .t (.sc (.string s))), (6, .t (.sc (.int .i64 (s.size : Int)))), (7, .t (.sc (.int .i64 (i : Int)))), (49, .t (.sc (.bool (!(decide (((((s[i]?).getD 0).toNat : Nat) : Int) ≥ 97) && decide (((((s[i]?).getD 0).toNat : Nat) : Int) ≤ 122)) && (((i : Int) == 0) || (((((((s[i]?).getD 0).toNat : Nat) : Int) != 46) && (((((s[i]?).getD 0).toNat : Nat) : Int) != 45)) && (decide (((((s[i]?).getD 0).toNat : Nat) : Int) < 48) || decide (((((s[i]?).getD 0).toNat : Nat) : Int) > 57))))))))]) (l := [])
      (C := [(!(decide (((((s[i]?).getD 0).toNat : Nat) : Int) ≥ 97) && decide (((((s[i]?).getD 0).toNat : Nat) : Int) ≤ 122))) = true → (!(decide (((((s[i]?).getD 0).toNat : Nat) : Int) ≥ 97) && decide (((((s[i]?).getD 0).toNat : Nat) : Int) ≤ 122))) = true, (!(decide (((((s[i]?).getD 0).toNat : Nat) : Int) ≥ 97) && decide (((((s[i]?).getD 0).toNat : Nat) : Int) ≤ 122))) = true → (!(decide (((((s[i]?).getD 0).toNat : Nat) : Int) ≥ 97) && decide (((((s[i]?).getD 0).toNat : Nat) : Int) ≤ 122))) = true, ((!(decide (((((s[i]?).getD 0).toNat : Nat) : Int) ≥ 97) && decide (((((s[i]?).getD 0).toNat : Nat) : Int) ≤ 122))) && !((i : Int) == 0)) = true → ((!(decide (((((s[i]?).getD 0).toNat : Nat) : Int) ≥ 97) && decide (((((s[i]?).getD 0).toNat : Nat) : Int) ≤ 122))) && !((i : Int) == 0)) = true, ((!(decide (((((s[i]?).getD 0).toNat : Nat) : Int) ≥ 97) && decide (((((s[i]?).getD 0).toNat : Nat) : Int) ≤ 122))) && !((i : Int) == 0)) = true → ((!(decide (((((s[i]?).getD 0).toNat : Nat) : Int) ≥ 97) && decide (((((s[i]?).getD 0).toNat : Nat) : Int) ≤ 122))) && !((i : Int) == 0)) = true, ((!(decide (((((s[i]?).getD 0).toNat : Nat) : Int) ≥ 97) && decide (((((s[i]?).getD 0).toNat : Nat) : Int) ≤ 122))) && !((i : Int) == 0)) = true → (0:Int) ≤ (i : Int), ((!(decide (((((s[i]?).getD 0).toNat : Nat) : Int) ≥ 97) && decide (((((s[i]?).getD 0).toNat : Nat) : Int) ≤ 122))) && !((i : Int) == 0)) = true → (i : Int) < (s.size : Int), ((!(decide (((((s[i]?).getD 0).toNat : Nat) : Int) ≥ 97) && decide (((((s[i]?).getD 0).toNat : Nat) : Int) ≤ 122))) && !((i : Int) == 0)) = true → ((!(decide (((((s[i]?).getD 0).toNat : Nat) : Int) ≥ 97) && decide (((((s[i]?).getD 0).toNat : Nat) : Int) ≤ 122))) && !((i : Int) == 0)) = true, ((!(decide (((((s[i]?).getD 0).toNat : Nat) : Int) ≥ 97) && decide (((((s[i]?).getD 0).toNat : Nat) : Int) ≤ 122))) && !((i : Int) == 0)) = true → ((!(decide (((((s[i]?).getD 0).toNat : Nat) : Int) ≥ 97) && decide (((((s[i]?).getD 0).toNat : Nat) : Int) ≤ 122))) && !((i : Int) == 0)) = true, (((!(decide (((((s[i]?).getD 0).toNat : Nat) : Int) ≥ 97) && decide (((((s[i]?).getD 0).toNat : Nat) : Int) ≤ 122))) && !((i : Int) == 0)) && (((((s[i]?).getD 0).toNat : Nat) : Int) != 46)) = true → (((!(decide (((((s[i]?).getD 0).toNat : Nat) : Int) ≥ 97) && decide (((((s[i]?).getD 0).toNat : Nat) : Int) ≤ 122))) && !((i : Int) == 0)) && (((((s[i]?).getD 0).toNat : Nat) : Int) != 46)) = true, (((!(decide (((((s[i]?).getD 0).toNat : Nat) : Int) ≥ 97) && decide (((((s[i]?).getD 0).toNat : Nat) : Int) ≤ 122))) && !((i : Int) == 0)) && (((((s[i]?).getD 0).toNat : Nat) : Int) != 46)) = true → (((!(decide (((((s[i]?).getD 0).toNat : Nat) : Int) ≥ 97) && decide (((((s[i]?).getD 0).toNat : Nat) : Int) ≤ 122))) && !((i : Int) == 0)) && (((((s[i]?).getD 0).toNat : Nat) : Int) != 46)) = true, (((!(decide (((((s[i]?).getD 0).toNat : Nat) : Int) ≥ 97) && decide (((((s[i]?).getD 0).toNat : Nat) : Int) ≤ 122))) && !((i : Int) == 0)) && (((((s[i]?).getD 0).toNat : Nat) : Int) != 46)) = true → (0:Int) ≤ (i : Int), (((!(decide (((((s[i]?).getD 0).toNat : Nat) : Int) ≥ 97) && decide (((((s[i]?).getD 0).toNat : Nat) : Int) ≤ 122))) && !((i : Int) == 0)) && (((((s[i]?).getD 0).toNat : Nat) : Int) != 46)) = true → (i : Int) < (s.size : Int), (((!(decide (((((s[i]?).getD 0).toNat : Nat) : Int) ≥ 97) && decide (((((s[i]?).getD 0).toNat : Nat) : Int) ≤ 122))) && !((i : Int) == 0)) && (((((s[i]?).getD 0).toNat : Nat) : Int) != 46)) = true → (((!(decide (((((s[i]?).getD 0).toNat : Nat) : Int) ≥ 97) && decide (((((s[i]?).getD 0).toNat : Nat) : Int) ≤ 122))) && !((i : Int) == 0)) && (((((s[i]?).getD 0).toNat : Nat) : Int) != 46)) = true, ((!(decide (((((s[i]?).getD 0).toNat : Nat) : Int) ≥ 97) && decide (((((s[i]?).getD 0).toNat : Nat) : Int) ≤ 122))) && !((i : Int) == 0)) = true → ((!(decide (((((s[i]?).getD 0).toNat : Nat) : Int) ≥ 97) && decide (((((s[i]?).getD 0).toNat : Nat) : Int) ≤ 122))) && !((i : Int) == 0)) = true, ((!(decide (((((s[i]?).getD 0).toNat : Nat) : Int) ≥ 97) && decide (((((s[i]?).getD 0).toNat : Nat) : Int) ≤ 122))) && !((i : Int) == 0)) = true → (((((s[i]?).getD 0).toNat : Nat) : Int) != 46) = true → (((!(decide (((((s[i]?).getD 0).toNat : Nat) : Int) ≥ 97) && decide (((((s[i]?).getD 0).toNat : Nat) : Int) ≤ 122))) && !((i : Int) == 0)) && (((((s[i]?).getD 0).toNat : Nat) : Int) != 46)) = true, ((!(decide (((((s[i]?).getD 0).toNat : Nat) : Int) ≥ 97) && decide (((((s[i]?).getD 0).toNat : Nat) : Int) ≤ 122))) && !((i : Int) == 0)) = true → ((!(decide (((((s[i]?).getD 0).toNat : Nat) : Int) ≥ 97) && decide (((((s[i]?).getD 0).toNat : Nat) : Int) ≤ 122))) && !((i : Int) == 0)) = true, (((!(decide (((((s[i]?).getD 0).toNat : Nat) : Int) ≥ 97) && decide (((((s[i]?).getD 0).toNat : Nat) : Int) ≤ 122))) && !((i : Int) == 0)) && ((((((s[i]?).getD 0).toNat : Nat) : Int) != 46) && (((((s[i]?).getD 0).toNat : Nat) : Int) != 45))) = true → (((!(decide (((((s[i]?).getD 0).toNat : Nat) : Int) ≥ 97) && decide (((((s[i]?).getD 0).toNat : Nat) : Int) ≤ 122))) && !((i : Int) == 0)) && ((((((s[i]?).getD 0).toNat : Nat) : Int) != 46) && (((((s[i]?).getD 0).toNat : Nat) : Int) != 45))) = true, (((!(decide (((((s[i]?).getD 0).toNat : Nat) : Int) ≥ 97) && decide (((((s[i]?).getD 0).toNat : Nat) : Int) ≤ 122))) && !((i : Int) == 0)) && ((((((s[i]?).getD 0).toNat : Nat) : Int) != 46) && (((((s[i]?).getD 0).toNat : Nat) : Int) != 45))) = true → (((!(decide (((((s[i]?).getD 0).toNat : Nat) : Int) ≥ 97) && decide (((((s[i]?).getD 0).toNat : Nat) : Int) ≤ 122))) && !((i : Int) == 0)) && ((((((s[i]?).getD 0).toNat : Nat) : Int) != 46) && (((((s[i]?).getD 0).toNat : Nat) : Int) != 45))) = true, (((!(decide (((((s[i]?).getD 0).toNat : Nat) : Int) ≥ 97) && decide (((((s[i]?).getD 0).toNat : Nat) : Int) ≤ 122))) && !((i : Int) == 0)) && ((((((s[i]?).getD 0).toNat : Nat) : Int) != 46) && (((((s[i]?).getD 0).toNat : Nat) : Int) != 45))) = true → (0:Int) ≤ (i : Int), (((!(decide (((((s[i]?).getD 0).toNat : Nat) : Int) ≥ 97) && decide (((((s[i]?).getD 0).toNat : Nat) : Int) ≤ 122))) && !((i : Int) == 0)) && ((((((s[i]?).getD 0).toNat : Nat) : Int) != 46) && (((((s[i]?).getD 0).toNat : Nat) : Int) != 45))) = true → (i : Int) < (s.size : Int), (((!(decide (((((s[i]?).getD 0).toNat : Nat) : Int) ≥ 97) && decide (((((s[i]?).getD 0).toNat : Nat) : Int) ≤ 122))) && !((i : Int) == 0)) && ((((((s[i]?).getD 0).toNat : Nat) : Int) != 46) && (((((s[i]?).getD 0).toNat : Nat) : Int) != 45))) = true → (((!(decide (((((s[i]?).getD 0).toNat : Nat) : Int) ≥ 97) && decide (((((s[i]?).getD 0).toNat : Nat) : Int) ≤ 122))) && !((i : Int) == 0)) && ((((((s[i]?).getD 0).toNat : Nat) : Int) != 46) && (((((s[i]?).getD 0).toNat : Nat) : Int) != 45))) = true, (((!(decide (((((s[i]?).getD 0).toNat : Nat) : Int) ≥ 97) && decide (((((s[i]?).getD 0).toNat : Nat) : Int) ≤ 122))) && !((i : Int) == 0)) && ((((((s[i]?).getD 0).toNat : Nat) : Int) != 46) && (((((s[i]?).getD 0).toNat : Nat) : Int) != 45))) = true → (((!(decide (((((s[i]?).getD 0).toNat : Nat) : Int) ≥ 97) && decide (((((s[i]?).getD 0).toNat : Nat) : Int) ≤ 122))) && !((i : Int) == 0)) && ((((((s[i]?).getD 0).toNat : Nat) : Int) != 46) && (((((s[i]?).getD 0).toNat : Nat) : Int) != 45))) = true, ((((!(decide (((((s[i]?).getD 0).toNat : Nat) : Int) ≥ 97) && decide (((((s[i]?).getD 0).toNat : Nat) : Int) ≤ 122))) && !((i : Int) == 0)) && ((((((s[i]?).getD 0).toNat : Nat) : Int) != 46) && (((((s[i]?).getD 0).toNat : Nat) : Int) != 45))) && !(decide (((((s[i]?).getD 0).toNat : Nat) : Int) < 48))) = true → ((((!(decide (((((s[i]?).getD 0).toNat : Nat) : Int) ≥ 97) && decide (((((s[i]?).getD 0).toNat : Nat) : Int) ≤ 122))) && !((i : Int) == 0)) && ((((((s[i]?).getD 0).toNat : Nat) : Int) != 46) && (((((s[i]?).getD 0).toNat : Nat) : Int) != 45))) && !(decide (((((s[i]?).getD 0).toNat : Nat) : Int) < 48))) = true, ((((!(decide (((((s[i]?).getD 0).toNat : Nat) : Int) ≥ 97) && decide (((((s[i]?).getD 0).toNat : Nat) : Int) ≤ 122))) && !((i : Int) == 0)) && ((((((s[i]?).getD 0).toNat : Nat) : Int) != 46) && (((((s[i]?).getD 0).toNat : Nat) : Int) != 45))) && !(decide (((((s[i]?).getD 0).toNat : Nat) : Int) < 48))) = true → ((((!(decide (((((s[i]?).getD 0).toNat : Nat) : Int) ≥ 97) && decide (((((s[i]?).getD 0).toNat : Nat) : Int) ≤ 122))) && !((i : Int) == 0)) && ((((((s[i]?).getD 0).toNat : Nat) : Int) != 46) && (((((s[i]?).getD 0).toNat : Nat) : Int) != 45))) && !(decide (((((s[i]?).getD 0).toNat : Nat) : Int) < 48))) = true, ((((!(decide (((((s[i]?).getD 0).toNat : Nat) : Int) ≥ 97) && decide (((((s[i]?).getD 0).toNat : Nat) : Int) ≤ 122))) && !((i : Int) == 0)) && ((((((s[i]?).getD 0).toNat : Nat) : Int) != 46) && (((((s[i]?).getD 0).toNat : Nat) : Int) != 45))) && !(decide (((((s[i]?).getD 0).toNat : Nat) : Int) < 48))) = true → (0:Int) ≤ (i : Int), ((((!(decide (((((s[i]?).getD 0).toNat : Nat) : Int) ≥ 97) && decide (((((s[i]?).getD 0).toNat : Nat) : Int) ≤ 122))) && !((i : Int) == 0)) && ((((((s[i]?).getD 0).toNat : Nat) : Int) != 46) && (((((s[i]?).getD 0).toNat : Nat) : Int) != 45))) && !(decide (((((s[i]?).getD 0).toNat : Nat) : Int) < 48))) = true → (i : Int) < (s.size : Int), ((((!(decide (((((s[i]?).getD 0).toNat : Nat) : Int) ≥ 97) && decide (((((s[i]?).getD 0).toNat : Nat) : Int) ≤ 122))) && !((i : Int) == 0)) && ((((((s[i]?).getD 0).toNat : Nat) : Int) != 46) && (((((s[i]?).getD 0).toNat : Nat) : Int) != 45))) && !(decide (((((s[i]?).getD 0).toNat : Nat) : Int) < 48))) = true → ((((!(decide (((((s[i]?).getD 0).toNat : Nat) : Int) ≥ 97) && decide (((((s[i]?).getD 0).toNat : Nat) : Int) ≤ 122))) && !((i : Int) == 0)) && ((((((s[i]?).getD 0).toNat : Nat) : Int) != 46) && (((((s[i]?).getD 0).toNat : Nat) : Int) != 45))) && !(decide (((((s[i]?).getD 0).toNat : Nat) : Int) < 48))) = true, (((!(decide (((((s[i]?).getD 0).toNat : Nat) : Int) ≥ 97) && decide (((((s[i]?).getD 0).toNat : Nat) : Int) ≤ 122))) && !((i : Int) == 0)) && ((((((s[i]?).getD 0).toNat : Nat) : Int) != 46) && (((((s[i]?).getD 0).toNat : Nat) : Int) != 45))) = true → (((!(decide (((((s[i]?).getD 0).toNat : Nat) : Int) ≥ 97) && decide (((((s[i]?).getD 0).toNat : Nat) : Int) ≤ 122))) && !((i : Int) == 0)) && ((((((s[i]?).getD 0).toNat : Nat) : Int) != 46) && (((((s[i]?).getD 0).toNat : Nat) : Int) != 45))) = true, (((!(decide (((((s[i]?).getD 0).toNat : Nat) : Int) ≥ 97) && decide (((((s[i]?).getD 0).toNat : Nat) : Int) ≤ 122))) && !((i : Int) == 0)) && ((((((s[i]?).getD 0).toNat : Nat) : Int) != 46) && (((((s[i]?).getD 0).toNat : Nat) : Int) != 45))) = true → (decide (((((s[i]?).getD 0).toNat : Nat) : Int) < 48)) = false → ((((!(decide (((((s[i]?).getD 0).toNat : Nat) : Int) ≥ 97) && decide (((((s[i]?).getD 0).toNat : Nat) : Int) ≤ 122))) && !((i : Int) == 0)) && ((((((s[i]?).getD 0).toNat : Nat) : Int) != 46) && (((((s[i]?).getD 0).toNat : Nat) : Int) != 45))) && !(decide (((((s[i]?).getD 0).toNat : Nat) : Int) < 48))) = true, ((!(decide (((((s[i]?).getD 0).toNat : Nat) : Int) ≥ 97) && decide (((((s[i]?).getD 0).toNat : Nat) : Int) ≤ 122))) && !((i : Int) == 0)) = true → ((!(decide (((((s[i]?).getD 0).toNat : Nat) : Int) ≥ 97) && decide (((((s[i]?).getD 0).toNat : Nat) : Int) ≤ 122))) && !((i : Int) == 0)) = true, ((!(decide (((((s[i]?).getD 0).toNat : Nat) : Int) ≥ 97) && decide (((((s[i]?).getD 0).toNat : Nat) : Int) ≤ 122))) && !((i : Int) == 0)) = true → ((((((s[i]?).getD 0).toNat : Nat) : Int) != 46) && (((((s[i]?).getD 0).toNat : Nat) : Int) != 45)) = true → (((!(decide (((((s[i]?).getD 0).toNat : Nat) : Int) ≥ 97) && decide (((((s[i]?).getD 0).toNat : Nat) : Int) ≤ 122))) && !((i : Int) == 0)) && ((((((s[i]?).getD 0).toNat : Nat) : Int) != 46) && (((((s[i]?).getD 0).toNat : Nat) : Int) != 45))) = true, (!(decide (((((s[i]?).getD 0).toNat : Nat) : Int) ≥ 97) && decide (((((s[i]?).getD 0).toNat : Nat) : Int) ≤ 122))) = true → (!(decide (((((s[i]?).getD 0).toNat : Nat) : Int) ≥ 97) && decide (((((s[i]?).getD 0).toNat : Nat) : Int) ≤ 122))) = true, (!(decide (((((s[i]?).getD 0).toNat : Nat) : Int) ≥ 97) && decide (((((s[i]?).getD 0).toNat : Nat) : Int) ≤ 122))) = true → ((i : Int) == 0) = false → ((!(decide (((((s[i]?).getD 0).toNat : Nat) : Int) ≥ 97) && decide (((((s[i]?).getD 0).toNat : Nat) : Int) ≤ 122))) && !((i : Int) == 0)) = true, (!(decide (((((s[i]?).getD 0).toNat : Nat) : Int) ≥ 97) && decide (((((s[i]?).getD 0).toNat : Nat) : Int) ≤ 122))) = true → (!(decide (((((s[i]?).getD 0).toNat : Nat) : Int) ≥ 97) && decide (((((s[i]?).getD 0).toNat : Nat) : Int) ≤ 122))) = true]) (by kernel_rfl) ?_ ?_
    · -- region 5
      refine ⟨?_, ?_, ?_, ?_, ?_, ?_, ?_, ?_, ?_, ?_, ?_, ?_, ?_, ?_, ?_, ?_, ?_, ?_, ?_, ?_, ?_, ?_, ?_, ?_, ?_, ?_, ?_, ?_, ?_, ?_, ?_, ?_, ?_, ?_, trivial⟩
      all_goals (first | omega | with_reducible exact fun h => h | (intro hg hq; rw [hg, hq]; rfl) | (intro hq; rw [hq]; done) | (intro hq; rw [hq]; rfl) | ((try intro hg); (try simp [-List.getD_eq_getElem?_getD] at hg); (try simp only [List.length_map]); first | done | omega | rfl | (simp; done) | (simp; omega) | (simp [hg]; done) | (intro hq; simp [hg, hq]; done) | (intro hq; simp [hg, hq]; omega)))
    refine andThen_normal ?_
    refine Sim.cond (b := (!(decide (((((s[i]?).getD 0).toNat : Nat) : Int) ≥ 97) && decide (((((s[i]?).getD 0).toNat : Nat) : Int) ≤ 122)) && (((i : Int) == 0) || (((((((s[i]?).getD 0).toNat : Nat) : Int) != 46) && (((((s[i]?).getD 0).toNat : Nat) : Int) != 45)) && (decide (((((s[i]?).getD 0).toNat : Nat) : Int) < 48) || decide (((((s[i]?).getD 0).toNat : Nat) : Int) > 57)))))) (by kernel_rfl) (fun h5 => ?_) (fun h5 => ?_)
    · (try simp only [decide_eq_true_eq, decide_eq_false_iff_not, Int.not_lt, Int.not_le, gt_iff_lt, ge_iff_le, Bool.not_eq_true', Bool.not_eq_false', Bool.and_eq_true, Bool.and_eq_false_iff, Bool.or_eq_true, Bool.or_eq_false_iff, beq_iff_eq, beq_eq_false_iff_ne, ne_eq, bne_iff_ne, bne_eq_false_iff_eq] at h5)
      refine Sim.seq ?_
      refine Sim.reg (orcs := []) (keys := [2]) (τ := []) (nx := 392)
        (sl := [(2, .t (.sc (.bool false)))]) (l := [])
        (C := []) (by kernel_rfl) ?_ ?_
      · -- region 6
        trivial
      refine andThen_normal ?_
      refine Sim.ret ?_
      refine inBlk_ret ?_
      refine andThen_ret ?_
      refine andThen_ret ?_
      refine inBlk_ret ?_
      refine andThen_ret ?_
      refine Fin.mk2 (.inl rfl) (τ := []) (keys := [2]) (nx := 392) (sl := [(2, .t (.sc (.bool false)))]) (l := []) (res' := .t (.sc (.bool false))) (by kernel_rfl) ?_ (by kernel_rfl) ?_
      · -- end 1, objects
        first | done | rfl
      · -- end 1, result
        have e1 : ((nameRf s) : Bool) = false := by
          simp only [byt0] at h5; unfold nameRf; rw [I2.2, nmR, if_pos (by omega), if_pos (by omega)]; simp
        show AVal.t (.sc (.bool false)) = .t (.sc (.bool (nameRf s)))
        rw [e1]
        try rfl
    · (try simp only [decide_eq_true_eq, decide_eq_false_iff_not, Int.not_lt, Int.not_le, gt_iff_lt, ge_iff_le, Bool.not_eq_true', Bool.not_eq_false', Bool.and_eq_true, Bool.and_eq_false_iff, Bool.or_eq_true, Bool.or_eq_false_iff, beq_iff_eq, beq_eq_false_iff_ne, ne_eq, bne_iff_ne, bne_eq_false_iff_eq] at h5)
      refine Sim.skip ?_
      refine inBlk_normal ?_
      refine andThen_normal ?_
      refine Sim.reg (orcs := [(0, ⟨some (.t (.sc (.int .i64 ((i : Int) + 1)))), none, none, none⟩)]) (keys := [0, 6, 7]) (τ := []) (nx := 400)
        (sl := [(0, .t (.sc (.string s))), (6, .t (.sc (.int .i64 (s.size : Int)))), (7, .t (.sc (.int .i64 ((i : Int) + 1))))]) (l := [])
        (C := [Weak (.t (.sc (.int .i64 (IntKind.i64.wrap ((i : Int) + 1))))) (.t (.sc (.int .i64 ((i : Int) + 1))))]) (by kernel_rfl) ?_ ?_
      · -- region 7
        refine ⟨(Weak.of_eq (nw ?_)), trivial⟩
        all_goals omega
      refine andThen_normal ?_
      refine LoopSim.weaken (Le.ren (τ := []) (keys := [0, 6, 7]) (nx := 32) (sl := [(0, .t (.sc (.string s))), (6, .t (.sc (.int .i64 (s.size : Int)))), (7, .t (.sc (.int .i64 (((i + 1) : Nat) : Int))))]) (l := []) (by kernel_rfl)) ?_
      refine ih2 ((i + 1) : Nat) ?_ ?_
      · -- back 2.1, invariant
        simp only [byt0] at h5; refine ⟨by omega, ?_⟩; rw [I2.2, nmR, if_pos (by omega), if_neg (by omega)]
      · -- back 2.1, measure
        show (_:Nat) < _; omega
  · (try simp only [decide_eq_true_eq, decide_eq_false_iff_not, Int.not_lt, Int.not_le] at h2)
    refine Sim.exit ?_
    refine andThen_exit ?_
    refine andThen_exit ?_
    refine inBlk_same ?_
    refine andThen_normal ?_
    refine Sim.seq ?_
    refine Sim.reg (orcs := []) (keys := [2]) (τ := []) (nx := 112)
      (sl := [(2, .t (.sc (.bool (decide ((s.size : Int) ≥ 1) && decide ((s.size : Int) ≤ 24)))))]) (l := [])
      (C := [(decide ((s.size : Int) ≥ 1)) = true → (decide ((s.size : Int) ≥ 1)) = true, (decide ((s.size : Int) ≥ 1)) = true → (decide ((s.size : Int) ≥ 1)) = true, (decide ((s.size : Int) ≥ 1)) = true → (decide ((s.size : Int) ≥ 1)) = true]) (by kernel_rfl) ?_ ?_
    · -- region 8
      refine ⟨?_, ?_, ?_, trivial⟩
      all_goals (first | omega | with_reducible exact fun h => h | (intro hg hq; rw [hg, hq]; rfl) | (intro hq; rw [hq]; done) | (intro hq; rw [hq]; rfl) | ((try intro hg); (try simp [-List.getD_eq_getElem?_getD] at hg); (try simp only [List.length_map]); first | done | omega | rfl | (simp; done) | (simp; omega) | (simp [hg]; done) | (intro hq; simp [hg, hq]; done) | (intro hq; simp [hg, hq]; omega)))
    refine andThen_normal ?_
    refine Sim.ret ?_
    refine Fin.mk2 (.inl rfl) (τ := []) (keys := [2]) (nx := 112) (sl := [(2, .t (.sc (.bool (decide ((s.size : Int) ≥ 1) && decide ((s.size : Int) ≤ 24)))))]) (l := []) (res' := .t (.sc (.bool (decide ((s.size : Int) ≥ 1) && decide ((s.size : Int) ≤ 24))))) (by kernel_rfl) ?_ (by kernel_rfl) ?_
    · -- end 2, objects
      first | done | rfl
    · -- end 2, result
      have e2 : ((nameRf s) : Bool) = (decide ((s.size : Int) ≥ 1) && decide ((s.size : Int) ≤ 24)) := by
        unfold nameRf; rw [I2.2, nmR, if_neg (by omega), Bool.eq_iff_iff]; simp; omega
      show AVal.t (.sc (.bool (decide ((s.size : Int) ≥ 1) && decide ((s.size : Int) ≤ 24)))) = .t (.sc (.bool (nameRf s)))
      rw [e2]
      try rfl

theorem fc_valueR (s : ByteArray) (hs : s.size ≤ 9223372036854775807) : FC Try.prog 80 [.t (.sc (.string s))] (app emp []) (.t (.sc (.bool (valRf s)))) (app emp []) := by
  refine FC.of_sim (fn := Try.f80) (nx := 0) (by kernel_rfl) rfl (by kernel_rfl) rfl ?_
  show Sim _ _ _ _ ⟨[(0, .t (.sc (.string s)))], app emp [], 0⟩ _
  refine Sim.seq ?_
  refine Sim.reg (orcs := []) (keys := [0]) (τ := []) (nx := 8)
    (sl := [(0, .t (.sc (.string s)))]) (l := [])
    (C := []) (by kernel_rfl) ?_ ?_
  · -- region 0
    trivial
  refine andThen_normal ?_
  refine Sim.seq ?_
  refine Sim.seq ?_
  refine Sim.reg (orcs := []) (keys := [0, 5, 6]) (τ := []) (nx := 32)
    (sl := [(0, .t (.sc (.string s))), (5, .t (.sc (.int .i64 (s.size : Int)))), (6, .t (.sc (.int .i64 0)))]) (l := [])
    (C := []) (by kernel_rfl) ?_ ?_
  · -- region 1
    trivial
  refine andThen_normal ?_
  refine Sim.block ?_
  refine Sim.weaken (Le.ren (τ := []) (keys := [0, 5, 6]) (nx := 32) (sl := [(0, .t (.sc (.string s))), (5, .t (.sc (.int .i64 (s.size : Int)))), (6, .t (.sc (.int .i64 ((0 : Nat) : Int))))]) (l := []) (by kernel_rfl)) ?_
  refine Sim.loop ?_
  refine loop_ind (α := Nat) (fun i => ⟨[(0, .t (.sc (.string s))), (5, .t (.sc (.int .i64 (s.size : Int)))), (6, .t (.sc (.int .i64 (i : Int))))], app emp [], 32⟩) (fun i => i ≤ s.size ∧ vlS s 0 = vlS s i) (fun i => s.size - i) ?_ (0 : Nat) ?_
  rotate_left
  · -- loop 2, start
    exact ⟨by omega, rfl⟩
  rintro i I2 ih2
  show LoopSim _ _ _ _ ⟨[(0, .t (.sc (.string s))), (5, .t (.sc (.int .i64 (s.size : Int)))), (6, .t (.sc (.int .i64 (i : Int))))], app emp [], 32⟩ _
  replace I2 : i ≤ s.size ∧ vlS s 0 = vlS s i := I2
  refine LoopSim.step ?_
  refine Sim.seq ?_
  refine Sim.reg (orcs := []) (keys := [0, 5, 6, 7]) (τ := []) (nx := 40)
    (sl := [(0, .t (.sc (.string s))), (5, .t (.sc (.int .i64 (s.size : Int)))), (6, .t (.sc (.int .i64 (i : Int)))), (7, .t (.sc (.bool (decide ((i : Int) < (s.size : Int))))))]) (l := [])
    (C := []) (by kernel_rfl) ?_ ?_
  · -- region 2
    trivial
  refine andThen_normal ?_
  refine Sim.seq ?_
  refine Sim.cond (b := decide ((i : Int) < (s.size : Int))) (by kernel_rfl) (fun h2 => ?_) (fun h2 => ?_)
  · (try simp only [decide_eq_true_eq, decide_eq_false_iff_not, Int.not_lt, Int.not_le] at h2)
    refine Sim.skip ?_
    refine andThen_normal ?_
    refine Sim.seq ?_
    refine Sim.block ?_
    refine Sim.seq ?_
    refine Sim.reg (orcs := []) (keys := [0, 3, 5, 6]) (τ := []) (nx := 56)
      (sl := [(0, .t (.sc (.string s))), (3, .t (.sc (.int .i64 (i : Int)))), (5, .t (.sc (.int .i64 (s.size : Int)))), (6, .t (.sc (.int .i64 (i : Int))))]) (l := [])
      (C := []) (by kernel_rfl) ?_ ?_
    · -- region 3
      trivial
    refine andThen_normal ?_
    refine Sim.seq ?_
    refine Sim.reg (orcs := []) (keys := [0, 5, 6, 18]) (τ := []) (nx := 136)
      (sl := [(0, .t (.sc (.string s))), (5, .t (.sc (.int .i64 (s.size : Int)))), (6, .t (.sc (.int .i64 (i : Int)))), (18, .t (.sc (.bool (decide (((((s[i]?).getD 0).toNat : Nat) : Int) < 32) || decide (((((s[i]?).getD 0).toNat : Nat) : Int) > 126)))))]) (l := [])
      (C := [(0:Int) ≤ (i : Int), (i : Int) < (s.size : Int), (!(decide (((((s[i]?).getD 0).toNat : Nat) : Int) < 32))) = true → (!(decide (((((s[i]?).getD 0).toNat : Nat) : Int) < 32))) = true, (!(decide (((((s[i]?).getD 0).toNat : Nat) : Int) < 32))) = true → (!(decide (((((s[i]?).getD 0).toNat : Nat) : Int) < 32))) = true, (!(decide (((((s[i]?).getD 0).toNat : Nat) : Int) < 32))) = true → (0:Int) ≤ (i : Int), (!(decide (((((s[i]?).getD 0).toNat : Nat) : Int) < 32))) = true → (i : Int) < (s.size : Int), (!(decide (((((s[i]?).getD 0).toNat : Nat) : Int) < 32))) = true → (!(decide (((((s[i]?).getD 0).toNat : Nat) : Int) < 32))) = true, (decide (((((s[i]?).getD 0).toNat : Nat) : Int) < 32)) = false → (!(decide (((((s[i]?).getD 0).toNat : Nat) : Int) < 32))) = true]) (by kernel_rfl) ?_ ?_
    · -- region 4
      refine ⟨?_, ?_, ?_, ?_, ?_, ?_, ?_, ?_, trivial⟩
      all_goals (first | omega | with_reducible exact fun h => h | (intro hg hq; rw [hg, hq]; rfl) | (intro hq; rw [hq]; done) | (intro hq; rw [hq]; rfl) | ((try intro hg); (try simp [-List.getD_eq_getElem?_getD] at hg); (try simp only [List.length_map]); first | done | omega | rfl | (simp; done) | (simp; omega) | (simp [hg]; done) | (intro hq; simp [hg, hq]; done) | (intro hq; simp [hg, hq]; omega)))
    refine andThen_normal ?_
    refine Sim.cond (b := (decide (((((s[i]?).getD 0).toNat : Nat) : Int) < 32) || decide (((((s[i]?).getD 0).toNat : Nat) : Int) > 126))) (by kernel_rfl) (fun h4 => ?_) (fun h4 => ?_)
    · (try simp only [decide_eq_true_eq, decide_eq_false_iff_not, Int.not_lt, Int.not_le, gt_iff_lt, Bool.or_eq_true, Bool.or_eq_false_iff] at h4)
      refine Sim.seq ?_
      refine Sim.reg (orcs := []) (keys := [2]) (τ := []) (nx := 144)
        (sl := [(2, .t (.sc (.bool false)))]) (l := [])
        (C := []) (by kernel_rfl) ?_ ?_
      · -- region 5
        trivial
      refine andThen_normal ?_
      refine Sim.ret ?_
      refine inBlk_ret ?_
      refine andThen_ret ?_
      refine andThen_ret ?_
      refine inBlk_ret ?_
      refine andThen_ret ?_
      refine Fin.mk2 (.inl rfl) (τ := []) (keys := [2]) (nx := 144) (sl := [(2, .t (.sc (.bool false)))]) (l := []) (res' := .t (.sc (.bool false))) (by kernel_rfl) ?_ (by kernel_rfl) ?_
      · -- end 1, objects
        first | done | rfl
      · -- end 1, result
        have e1 : ((valRf s) : Bool) = false := by
          simp only [byt0] at h4; unfold valRf; rw [I2.2, vlS, if_pos (by omega), if_pos (by omega)]; simp
        show AVal.t (.sc (.bool false)) = .t (.sc (.bool (valRf s)))
        rw [e1]
        try rfl
    · (try simp only [decide_eq_true_eq, decide_eq_false_iff_not, Int.not_lt, Int.not_le, gt_iff_lt, Bool.or_eq_true, Bool.or_eq_false_iff] at h4)
      refine Sim.skip ?_
      refine inBlk_normal ?_
      refine andThen_normal ?_
      refine Sim.reg (orcs := [(0, ⟨some (.t (.sc (.int .i64 ((i : Int) + 1)))), none, none, none⟩)]) (keys := [0, 5, 6]) (τ := []) (nx := 152)
        (sl := [(0, .t (.sc (.string s))), (5, .t (.sc (.int .i64 (s.size : Int)))), (6, .t (.sc (.int .i64 ((i : Int) + 1))))]) (l := [])
        (C := [Weak (.t (.sc (.int .i64 (IntKind.i64.wrap ((i : Int) + 1))))) (.t (.sc (.int .i64 ((i : Int) + 1))))]) (by kernel_rfl) ?_ ?_
      · -- region 6
        refine ⟨(Weak.of_eq (nw ?_)), trivial⟩
        all_goals omega
      refine andThen_normal ?_
      refine LoopSim.weaken (Le.ren (τ := []) (keys := [0, 5, 6]) (nx := 32) (sl := [(0, .t (.sc (.string s))), (5, .t (.sc (.int .i64 (s.size : Int)))), (6, .t (.sc (.int .i64 (((i + 1) : Nat) : Int))))]) (l := []) (by kernel_rfl)) ?_
      refine ih2 ((i + 1) : Nat) ?_ ?_
      · -- back 2.1, invariant
        simp only [byt0] at h4; refine ⟨by omega, ?_⟩; rw [I2.2, vlS, if_pos (by omega), if_neg (by omega)]
      · -- back 2.1, measure
        show (_:Nat) < _; omega
  · (try simp only [decide_eq_true_eq, decide_eq_false_iff_not, Int.not_lt, Int.not_le] at h2)
    refine Sim.exit ?_
    refine andThen_exit ?_
    refine andThen_exit ?_
    refine inBlk_same ?_
    refine andThen_normal ?_
    refine Sim.seq ?_
    refine Sim.reg (orcs := []) (keys := [2]) (τ := []) (nx := 112)
      (sl := [(2, .t (.sc (.bool (decide ((s.size : Int) ≥ 1) && decide ((s.size : Int) ≤ 200)))))]) (l := [])
      (C := [(decide ((s.size : Int) ≥ 1)) = true → (decide ((s.size : Int) ≥ 1)) = true, (decide ((s.size : Int) ≥ 1)) = true → (decide ((s.size : Int) ≥ 1)) = true, (decide ((s.size : Int) ≥ 1)) = true → (decide ((s.size : Int) ≥ 1)) = true]) (by kernel_rfl) ?_ ?_
    · -- region 7
      refine ⟨?_, ?_, ?_, trivial⟩
      all_goals (first | omega | with_reducible exact fun h => h | (intro hg hq; rw [hg, hq]; rfl) | (intro hq; rw [hq]; done) | (intro hq; rw [hq]; rfl) | ((try intro hg); (try simp [-List.getD_eq_getElem?_getD] at hg); (try simp only [List.length_map]); first | done | omega | rfl | (simp; done) | (simp; omega) | (simp [hg]; done) | (intro hq; simp [hg, hq]; done) | (intro hq; simp [hg, hq]; omega)))
    refine andThen_normal ?_
    refine Sim.ret ?_
    refine Fin.mk2 (.inl rfl) (τ := []) (keys := [2]) (nx := 112) (sl := [(2, .t (.sc (.bool (decide ((s.size : Int) ≥ 1) && decide ((s.size : Int) ≤ 200)))))]) (l := []) (res' := .t (.sc (.bool (decide ((s.size : Int) ≥ 1) && decide ((s.size : Int) ≤ 200))))) (by kernel_rfl) ?_ (by kernel_rfl) ?_
    · -- end 2, objects
      first | done | rfl
    · -- end 2, result
      have e2 : ((valRf s) : Bool) = (decide ((s.size : Int) ≥ 1) && decide ((s.size : Int) ≤ 200)) := by
        unfold valRf; rw [I2.2, vlS, if_neg (by omega), Bool.eq_iff_iff]; simp; omega
      show AVal.t (.sc (.bool (decide ((s.size : Int) ≥ 1) && decide ((s.size : Int) ≤ 200)))) = .t (.sc (.bool (valRf s)))
      rw [e2]
      try rfl

def chkA (e : Bool) (l : List Attr) (i : Nat) : Int :=
  if i < l.length then
    if nameGo (l.getD i default).name = false then 9
    else if valGo (l.getD i default).val = false ∧ (e = false ∨ seq (l.getD i default).val { data := #[] } = false) then 23
    else if 0 < i ∧ (slt (l.getD i default).name (l.getD (i - 1) default).name = true ∨ seq (l.getD i default).name (l.getD (i - 1) default).name = true) then 5
    else chkA e l (i + 1)
  else 0
termination_by l.length - i
def Szd (l : List Attr) : Prop := ∀ a ∈ l, a.name.size ≤ 9223372036854775807 ∧ a.val.size ≤ 9223372036854775807
theorem Szd.at {l : List Attr} (h : Szd l) {i : Nat} (hi : i < l.length) : (l.getD i default).name.size ≤ 9223372036854775807 ∧ (l.getD i default).val.size ≤ 9223372036854775807 := by
  rw [show l.getD i default = l[i] by simp [List.getD, List.getElem?_eq_getElem hi]]
  exact h _ (List.getElem_mem hi)

theorem fc_chk (l : List Attr) (e : Bool) : FC Try.prog 127 [.t (.lst 2 (List.map attrT l)), .t (.sc (.bool e))] (app emp []) (.t (.sc (.int .i64 (chkA e l 0)))) (app emp []) := by
  refine FC.of_sim (fn := Try.f127) (nx := 0) (by kernel_rfl) rfl (by kernel_rfl) rfl ?_
  show Sim _ _ _ _ ⟨[(0, .t (.lst 2 (List.map attrT l))), (1, .t (.sc (.bool e)))], app emp [], 0⟩ _
  refine Sim.len (t := 0) (k := 2) rfl (fun hl0 => ?_)
  rw [List.length_map] at hl0
  refine Sim.seq ?_
  refine Sim.reg (orcs := []) (keys := [0, 1]) (τ := []) (nx := 8)
    (sl := [(0, .t (.lst 2 (List.map attrT l))), (1, .t (.sc (.bool e)))]) (l := [])
    (C := []) (by kernel_rfl) ?_ ?_
  · -- region 0
    trivial
  refine andThen_normal ?_
  refine Sim.seq ?_
  refine Sim.seq ?_
  refine Sim.reg (orcs := [(1, ⟨some (.t (.sc (.int .i64 (l.length : Int)))), none, none, none⟩)]) (keys := [0, 1, 7, 8, 9]) (τ := []) (nx := 32)
    (sl := [(0, .t (.lst 2 (List.map attrT l))), (1, .t (.sc (.bool e))), (7, .t (.lst 2 (List.map attrT l))), (8, .t (.sc (.int .i64 (l.length : Int)))), (9, .t (.sc (.int .i64 0)))]) (l := [])
    (C := [Weak (.t (.sc (.int .i64 ((List.map attrT l).length : Int)))) (.t (.sc (.int .i64 (l.length : Int))))]) (by kernel_rfl) ?_ ?_
  · -- region 1
    exact ⟨(Weak.of_eq len_map), trivial⟩
  refine andThen_normal ?_
  refine Sim.block ?_
  refine Sim.weaken (Le.ren (τ := []) (keys := [0, 1, 7, 8, 9]) (nx := 32) (sl := [(0, .t (.lst 2 (List.map attrT l))), (1, .t (.sc (.bool e))), (7, .t (.lst 2 (List.map attrT l))), (8, .t (.sc (.int .i64 (l.length : Int)))), (9, .t (.sc (.int .i64 ((0 : Nat) : Int))))]) (l := []) (by kernel_rfl)) ?_
  refine Sim.loop ?_
  refine loop_ind (α := Nat) (fun i => ⟨[(0, .t (.lst 2 (List.map attrT l))), (1, .t (.sc (.bool e))), (7, .t (.lst 2 (List.map attrT l))), (8, .t (.sc (.int .i64 (l.length : Int)))), (9, .t (.sc (.int .i64 (i : Int))))], app emp [], 32⟩) (fun i => i ≤ l.length ∧ chkA e l 0 = chkA e l i) (fun i => l.length - i) ?_ (0 : Nat) ?_
  rotate_left
  · -- loop 2, start
    exact ⟨by omega, rfl⟩
  rintro i I2 ih2
  show LoopSim _ _ _ _ ⟨[(0, .t (.lst 2 (List.map attrT l))), (1, .t (.sc (.bool e))), (7, .t (.lst 2 (List.map attrT l))), (8, .t (.sc (.int .i64 (l.length : Int)))), (9, .t (.sc (.int .i64 (i : Int))))], app emp [], 32⟩ _
  replace I2 : i ≤ l.length ∧ chkA e l 0 = chkA e l i := I2
  refine LoopSim.step ?_
  refine Sim.seq ?_
  refine Sim.reg (orcs := []) (keys := [0, 1, 7, 8, 9, 10]) (τ := []) (nx := 40)
    (sl := [(0, .t (.lst 2 (List.map attrT l))), (1, .t (.sc (.bool e))), (7, .t (.lst 2 (List.map attrT l))), (8, .t (.sc (.int .i64 (l.length : Int)))), (9, .t (.sc (.int .i64 (i : Int)))), (10, .t (.sc (.bool (decide ((i : Int) < (l.length : Int))))))]) (l := [])
    (C := []) (by kernel_rfl) ?_ ?_
  · -- region 2
    trivial
  refine andThen_normal ?_
  refine Sim.seq ?_
  refine Sim.cond (b := decide ((i : Int) < (l.length : Int))) (by kernel_rfl) (fun h2 => ?_) (fun h2 => ?_)
  · (try simp only [decide_eq_true_eq, decide_eq_false_iff_not, Int.not_lt, Int.not_le] at h2)
    refine Sim.skip ?_
    refine andThen_normal ?_
    refine Sim.seq ?_
    refine Sim.block ?_
    refine Sim.seq ?_
    refine Sim.reg (orcs := [(1, ⟨none, none, some (attrT (l.getD i default)), none⟩)]) (keys := [0, 1, 5, 6, 7, 8, 9]) (τ := [(64, 64)]) (nx := 88)
      (sl := [(0, .t (.lst 2 (List.map attrT l))), (1, .t (.sc (.bool e))), (5, .t (.sc (.int .i64 (i : Int)))), (6, .ptr 64 0), (7, .t (.lst 2 (List.map attrT l))), (8, .t (.sc (.int .i64 (l.length : Int)))), (9, .t (.sc (.int .i64 (i : Int))))]) (l := [(64, .box [.t (.sc (.string (((l.getD i default)).name))), .t (.sc (.string (((l.getD i default)).val)))])])
      (C := [(0:Int) ≤ (i : Int), (List.map attrT l)[i]? = some (attrT (l.getD i default))]) (by kernel_rfl) ?_ ?_
    · -- region 3
      refine ⟨?_, (elt_nat ?_), trivial⟩
      all_goals omega
    refine andThen_normal ?_
    refine Sim.block ?_
    refine Sim.seq ?_
    refine Sim.reg (orcs := [(2, ⟨none, none, none, some (⟨0, [], .t (.sc (.bool (nameGo (((l.getD i default)).name)))), []⟩)⟩)]) (keys := [0, 1, 5, 6, 7, 8, 9, 14]) (τ := [(64, 64)]) (nx := 128)
      (sl := [(0, .t (.lst 2 (List.map attrT l))), (1, .t (.sc (.bool e))), (5, .t (.sc (.int .i64 (i : Int)))), (6, .ptr 64 0), (7, .t (.lst 2 (List.map attrT l))), (8, .t (.sc (.int .i64 (l.length : Int)))), (9, .t (.sc (.int .i64 (i : Int)))), (14, .t (.sc (.bool (!(nameGo (((l.getD i default)).name))))))]) (l := [(64, .box [.t (.sc (.string (((l.getD i default)).name))), .t (.sc (.string (((l.getD i default)).val)))])])
      (C := [callable Try.prog 149 = true, FC Try.prog 149 [.t (.sc (.string (((l.getD i default)).name)))] emp (.t (.sc (.bool (nameGo (((l.getD i default)).name))))) emp]) (by kernel_rfl) ?_ ?_
    · -- region 4
      exact ⟨(by kernel_rfl), (fc_name (((l.getD i default)).name)), trivial⟩
    refine andThen_normal ?_
    refine Sim.cond (b := !(nameGo (((l.getD i default)).name))) (by kernel_rfl) (fun h4 => ?_) (fun h4 => ?_)
    · (try simp only [Bool.not_eq_true', Bool.not_eq_false'] at h4)
      refine Sim.seq ?_
      refine Sim.reg (orcs := []) (keys := [4]) (τ := []) (nx := 136)
        (sl := [(4, .t (.sc (.int .i64 9)))]) (l := [])
        (C := []) (by kernel_rfl) ?_ ?_
      · -- region 5
        trivial
      refine andThen_normal ?_
      refine Sim.ret ?_
      refine inBlk_ret ?_
      refine inBlk_ret ?_
      refine andThen_ret ?_
      refine andThen_ret ?_
      refine inBlk_ret ?_
      refine andThen_ret ?_
      refine Fin.mk2 (.inl rfl) (τ := []) (keys := [4]) (nx := 136) (sl := [(4, .t (.sc (.int .i64 9)))]) (l := []) (res' := .t (.sc (.int .i64 9))) (by kernel_rfl) ?_ (by kernel_rfl) ?_
      · -- end 1, objects
        first | done | rfl
      · -- end 1, result
        have e1 : ((chkA e l 0) : Int) = 9 := by
          rw [I2.2, chkA, if_pos (by omega), if_pos h4]
        show AVal.t (.sc (.int .i64 9)) = .t (.sc (.int .i64 (chkA e l 0)))
        rw [e1]
        try rfl
    · (try simp only [Bool.not_eq_true', Bool.not_eq_false'] at h4)
      refine Sim.seq ?_
      refine Sim.reg (orcs := [(2, ⟨none, none, none, some (⟨0, [], .t (.sc (.bool (valGo (((l.getD i default)).val)))), []⟩)⟩)]) (keys := [0, 1, 5, 6, 7, 8, 9, 19]) (τ := [(64, 64)]) (nx := 240)
        (sl := [(0, .t (.lst 2 (List.map attrT l))), (1, .t (.sc (.bool e))), (5, .t (.sc (.int .i64 (i : Int)))), (6, .ptr 64 0), (7, .t (.lst 2 (List.map attrT l))), (8, .t (.sc (.int .i64 (l.length : Int)))), (9, .t (.sc (.int .i64 (i : Int)))), (19, .t (.sc (.bool (!(valGo (((l.getD i default)).val)) && !(e && seq (((l.getD i default)).val) ({ data := #[] }))))))]) (l := [(64, .box [.t (.sc (.string (((l.getD i default)).name))), .t (.sc (.string (((l.getD i default)).val)))])])
        (C := [callable Try.prog 150 = true, FC Try.prog 150 [.t (.sc (.string (((l.getD i default)).val)))] emp (.t (.sc (.bool (valGo (((l.getD i default)).val))))) emp, (!(valGo (((l.getD i default)).val))) = true → (!(valGo (((l.getD i default)).val))) = true, ((!(valGo (((l.getD i default)).val))) && e) = true → ((!(valGo (((l.getD i default)).val))) && e) = true, ((!(valGo (((l.getD i default)).val))) && e) = true → ((!(valGo (((l.getD i default)).val))) && e) = true, (!(valGo (((l.getD i default)).val))) = true → (!(valGo (((l.getD i default)).val))) = true, (!(valGo (((l.getD i default)).val))) = true → e = true → ((!(valGo (((l.getD i default)).val))) && e) = true, (!(valGo (((l.getD i default)).val))) = true → (!(valGo (((l.getD i default)).val))) = true, (!(valGo (((l.getD i default)).val))) = true → (!(valGo (((l.getD i default)).val))) = true]) (by kernel_rfl) ?_ ?_
      · -- region 6
        refine ⟨(by kernel_rfl), (fc_value (((l.getD i default)).val)), ?_, ?_, ?_, ?_, ?_, ?_, ?_, trivial⟩
        all_goals (first | omega | with_reducible exact fun h => h | (intro hg hq; rw [hg, hq]; rfl) | (intro hq; rw [hq]; done) | (intro hq; rw [hq]; rfl) | ((try intro hg); (try simp [-List.getD_eq_getElem?_getD] at hg); (try simp only [List.length_map]); first | done | omega | rfl | (simp; done) | (simp; omega) | (simp [hg]; done) | (intro hq; simp [hg, hq]; done) | (intro hq; simp [hg, hq]; omega)))
      refine andThen_normal ?_
      refine Sim.cond (b := (!(valGo (((l.getD i default)).val)) && !(e && seq (((l.getD i default)).val) ({ data := #[] })))) (by kernel_rfl) (fun h6 => ?_) (fun h6 => ?_)
      · (try simp only [Bool.not_eq_true', Bool.not_eq_false', Bool.and_eq_true, Bool.and_eq_false_iff] at h6)
        refine Sim.seq ?_
        refine Sim.reg (orcs := []) (keys := [4]) (τ := []) (nx := 248)
          (sl := [(4, .t (.sc (.int .i64 23)))]) (l := [])
          (C := []) (by kernel_rfl) ?_ ?_
        · -- region 7
          trivial
        refine andThen_normal ?_
        refine Sim.ret ?_
        refine inBlk_ret ?_
        refine inBlk_ret ?_
        refine andThen_ret ?_
        refine andThen_ret ?_
        refine inBlk_ret ?_
        refine andThen_ret ?_
        refine Fin.mk2 (.inl rfl) (τ := []) (keys := [4]) (nx := 248) (sl := [(4, .t (.sc (.int .i64 23)))]) (l := []) (res' := .t (.sc (.int .i64 23))) (by kernel_rfl) ?_ (by kernel_rfl) ?_
        · -- end 2, objects
          first | done | rfl
        · -- end 2, result
          have e2 : ((chkA e l 0) : Int) = 23 := by
            rw [I2.2, chkA, if_pos (by omega), if_neg (by rw [h4]; decide), if_pos h6]
          show AVal.t (.sc (.int .i64 23)) = .t (.sc (.int .i64 (chkA e l 0)))
          rw [e2]
          try rfl
      · (try simp only [Bool.not_eq_true', Bool.not_eq_false', Bool.and_eq_true, Bool.and_eq_false_iff] at h6)
        refine Sim.seq ?_
        refine Sim.regD (by kernel_rfl) (orcs := [(7, ⟨some (.t (.sc (.int .i64 ((i : Int) - 1)))), none, none, none⟩), (8, ⟨none, none, some (attrT (l.getD (i - 1) default)), none⟩)]) (keys := [0, 1, 7, 8, 9, 33]) (τ := []) (nx := 352)
          (sl := [(0, .t (.lst 2 (List.map attrT l))), (1, .t (.sc (.bool e))), (7, .t (.lst 2 (List.map attrT l))), (8, .t (.sc (.int .i64 (l.length : Int)))), (9, .t (.sc (.int .i64 (i : Int)))), (33, .t (.sc (.bool (decide ((i : Int) > 0) && (slt (((l.getD i default)).name) (((l.getD (i - 1) default)).name) || seq (((l.getD i default)).name) (((l.getD (i - 1) default)).name))))))]) (l := [])
          (C := [(decide ((i : Int) > 0)) = true → (decide ((i : Int) > 0)) = true, (decide ((i : Int) > 0)) = true → (decide ((i : Int) > 0)) = true, (decide ((i : Int) > 0)) = true → Weak (.t (.sc (.int .i64 (IntKind.i64.wrap ((i : Int) - 1))))) (.t (.sc (.int .i64 ((i : Int) - 1)))), (decide ((i : Int) > 0)) = true → (decide ((i : Int) > 0)) = true, (decide ((i : Int) > 0)) = true → (decide ((i : Int) > 0)) = true, (decide ((i : Int) > 0)) = true → (0:Int) ≤ ((i : Int) - 1), (decide ((i : Int) > 0)) = true → (List.map attrT l)[(Int.toNat ((i : Int) - 1))]? = some (attrT (l.getD (i - 1) default)), (decide ((i : Int) > 0)) = true → (decide ((i : Int) > 0)) = true, (decide ((i : Int) > 0)) = true → (decide ((i : Int) > 0)) = true, (decide ((i : Int) > 0)) = true → (decide ((i : Int) > 0)) = true, (decide ((i : Int) > 0)) = true → (decide ((i : Int) > 0)) = true, (decide ((i : Int) > 0)) = true → (decide ((i : Int) > 0)) = true]) (by kernel_rfl) ?_ ?_
        · -- region 8
          refine ⟨?_, ?_, (fun hg => (Weak.of_eq (nw ?_))), ?_, ?_, ?_, (fun hg => (elt_map' ?_ ?_)), ?_, ?_, ?_, ?_, ?_, trivial⟩
          all_goals (first | omega | with_reducible exact fun h => h | (intro hg hq; rw [hg, hq]; rfl) | (intro hq; rw [hq]; done) | (intro hq; rw [hq]; rfl) | ((try intro hg); (try simp [-List.getD_eq_getElem?_getD] at hg); (try simp only [List.length_map]); first | done | omega | rfl | (simp; done) | (simp; omega) | (simp [hg]; done) | (intro hq; simp [hg, hq]; done) | (intro hq; simp [hg, hq]; omega)))
        refine andThen_normal ?_
        refine Sim.cond (b := (decide ((i : Int) > 0) && (slt (((l.getD i default)).name) (((l.getD (i - 1) default)).name) || seq (((l.getD i default)).name) (((l.getD (i - 1) default)).name)))) (by kernel_rfl) (fun h8 => ?_) (fun h8 => ?_)
        · (try simp only [decide_eq_true_eq, decide_eq_false_iff_not, Int.not_lt, Int.not_le, gt_iff_lt, Bool.and_eq_true, Bool.and_eq_false_iff, Bool.not_eq_true', Bool.not_eq_false', Bool.or_eq_true, Bool.or_eq_false_iff] at h8)
          refine Sim.seq ?_
          refine Sim.reg (orcs := []) (keys := [4]) (τ := []) (nx := 360)
            (sl := [(4, .t (.sc (.int .i64 5)))]) (l := [])
            (C := []) (by kernel_rfl) ?_ ?_
          · -- region 9
            trivial
          refine andThen_normal ?_
          refine Sim.ret ?_
          refine inBlk_ret ?_
          refine inBlk_ret ?_
          refine andThen_ret ?_
          refine andThen_ret ?_
          refine inBlk_ret ?_
          refine andThen_ret ?_
          refine Fin.mk2 (.inl rfl) (τ := []) (keys := [4]) (nx := 360) (sl := [(4, .t (.sc (.int .i64 5)))]) (l := []) (res' := .t (.sc (.int .i64 5))) (by kernel_rfl) ?_ (by kernel_rfl) ?_
          · -- end 3, objects
            first | done | rfl
          · -- end 3, result
            have e3 : ((chkA e l 0) : Int) = 5 := by
              rw [I2.2, chkA, if_pos (by omega), if_neg (by rw [h4]; decide), if_neg (by clear ih2; rintro ⟨a, b⟩; simp_all), if_pos ⟨by omega, h8.2⟩]
            show AVal.t (.sc (.int .i64 5)) = .t (.sc (.int .i64 (chkA e l 0)))
            rw [e3]
            try rfl
        · (try simp only [decide_eq_true_eq, decide_eq_false_iff_not, Int.not_lt, Int.not_le, gt_iff_lt, Bool.and_eq_true, Bool.and_eq_false_iff, Bool.not_eq_true', Bool.not_eq_false', Bool.or_eq_true, Bool.or_eq_false_iff] at h8)
          refine Sim.skip ?_
          refine inBlk_normal ?_
          refine inBlk_normal ?_
          refine andThen_normal ?_
          refine Sim.reg (orcs := [(0, ⟨some (.t (.sc (.int .i64 ((i : Int) + 1)))), none, none, none⟩)]) (keys := [0, 1, 7, 8, 9]) (τ := []) (nx := 368)
            (sl := [(0, .t (.lst 2 (List.map attrT l))), (1, .t (.sc (.bool e))), (7, .t (.lst 2 (List.map attrT l))), (8, .t (.sc (.int .i64 (l.length : Int)))), (9, .t (.sc (.int .i64 ((i : Int) + 1))))]) (l := [])
            (C := [Weak (.t (.sc (.int .i64 (IntKind.i64.wrap ((i : Int) + 1))))) (.t (.sc (.int .i64 ((i : Int) + 1))))]) (by kernel_rfl) ?_ ?_
          · -- region 10
            refine ⟨(Weak.of_eq (nw ?_)), trivial⟩
            all_goals omega
          refine andThen_normal ?_
          refine LoopSim.weaken (Le.ren (τ := []) (keys := [0, 1, 7, 8, 9]) (nx := 32) (sl := [(0, .t (.lst 2 (List.map attrT l))), (1, .t (.sc (.bool e))), (7, .t (.lst 2 (List.map attrT l))), (8, .t (.sc (.int .i64 (l.length : Int)))), (9, .t (.sc (.int .i64 (((i + 1) : Nat) : Int))))]) (l := []) (by kernel_rfl)) ?_
          refine ih2 ((i + 1) : Nat) ?_ ?_
          · -- back 2.1, invariant
            refine ⟨by omega, ?_⟩; rw [I2.2, chkA, if_pos (by omega), if_neg (by rw [h4]; decide), if_neg (by clear ih2; rintro ⟨a, b⟩; simp_all), if_neg (by clear ih2; rintro ⟨a, b⟩; rcases h8 with h | ⟨h, h2⟩; omega; rcases b with b | b <;> simp_all)]
          · -- back 2.1, measure
            show (_:Nat) < _; omega
  · (try simp only [decide_eq_true_eq, decide_eq_false_iff_not, Int.not_lt, Int.not_le] at h2)
    refine Sim.exit ?_
    refine andThen_exit ?_
    refine andThen_exit ?_
    refine inBlk_same ?_
    refine andThen_normal ?_
    refine Sim.seq ?_
    refine Sim.reg (orcs := []) (keys := [4]) (τ := []) (nx := 48)
      (sl := [(4, .t (.sc (.int .i64 0)))]) (l := [])
      (C := []) (by kernel_rfl) ?_ ?_
    · -- region 11
      trivial
    refine andThen_normal ?_
    refine Sim.ret ?_
    refine Fin.mk2 (.inl rfl) (τ := []) (keys := [4]) (nx := 48) (sl := [(4, .t (.sc (.int .i64 0)))]) (l := []) (res' := .t (.sc (.int .i64 0))) (by kernel_rfl) ?_ (by kernel_rfl) ?_
    · -- end 4, objects
      first | done | rfl
    · -- end 4, result
      have e4 : ((chkA e l 0) : Int) = 0 := by
        rw [I2.2, chkA, if_neg (by omega)]
      show AVal.t (.sc (.int .i64 0)) = .t (.sc (.int .i64 (chkA e l 0)))
      rw [e4]
      try rfl

theorem fc_acheck (l : List Attr) : FC Try.prog 81 [.t (.lst 2 (List.map attrT l))] (app emp []) (.t (.sc (.int .i64 (chkA false l 0)))) (app emp []) := by
  refine FC.of_sim (fn := Try.f81) (nx := 0) (by kernel_rfl) rfl (by kernel_rfl) rfl ?_
  show Sim _ _ _ _ ⟨[(0, .t (.lst 2 (List.map attrT l)))], app emp [], 0⟩ _
  refine Sim.len (t := 0) (k := 2) rfl (fun hl0 => ?_)
  rw [List.length_map] at hl0
  refine Sim.seq ?_
  refine Sim.reg (orcs := []) (keys := [0]) (τ := []) (nx := 8)
    (sl := [(0, .t (.lst 2 (List.map attrT l)))]) (l := [])
    (C := []) (by kernel_rfl) ?_ ?_
  · -- region 0
    trivial
  refine andThen_normal ?_
  refine Sim.seq ?_
  refine Sim.reg (orcs := [(1, ⟨none, none, none, some (⟨0, [], .t (.sc (.int .i64 (chkA false l 0))), []⟩)⟩)]) (keys := [2]) (τ := []) (nx := 32)
    (sl := [(2, .t (.sc (.int .i64 (chkA false l 0))))]) (l := [])
    (C := [callable Try.prog 127 = true, FC Try.prog 127 [.t (.lst 2 (List.map attrT l)), .t (.sc (.bool false))] emp (.t (.sc (.int .i64 (chkA false l 0)))) emp]) (by kernel_rfl) ?_ ?_
  · -- region 1
    exact ⟨(by kernel_rfl), (fc_chk l false), trivial⟩
  refine andThen_normal ?_
  refine Sim.ret ?_
  refine Fin.mk2 (.inl rfl) (τ := []) (keys := [2]) (nx := 32) (sl := [(2, .t (.sc (.int .i64 (chkA false l 0))))]) (l := []) (res' := .t (.sc (.int .i64 (chkA false l 0)))) (by kernel_rfl) ?_ (by kernel_rfl) ?_
  · -- end 1, objects
    first | done | rfl
  · -- end 1, result
    first | done | rfl

theorem fc_acheckChange (l : List Attr) : FC Try.prog 82 [.t (.lst 2 (List.map attrT l))] (app emp []) (.t (.sc (.int .i64 (chkA true l 0)))) (app emp []) := by
  refine FC.of_sim (fn := Try.f82) (nx := 0) (by kernel_rfl) rfl (by kernel_rfl) rfl ?_
  show Sim _ _ _ _ ⟨[(0, .t (.lst 2 (List.map attrT l)))], app emp [], 0⟩ _
  refine Sim.len (t := 0) (k := 2) rfl (fun hl0 => ?_)
  rw [List.length_map] at hl0
  refine Sim.seq ?_
  refine Sim.reg (orcs := []) (keys := [0]) (τ := []) (nx := 8)
    (sl := [(0, .t (.lst 2 (List.map attrT l)))]) (l := [])
    (C := []) (by kernel_rfl) ?_ ?_
  · -- region 0
    trivial
  refine andThen_normal ?_
  refine Sim.seq ?_
  refine Sim.reg (orcs := [(1, ⟨none, none, none, some (⟨0, [], .t (.sc (.int .i64 (chkA true l 0))), []⟩)⟩)]) (keys := [2]) (τ := []) (nx := 32)
    (sl := [(2, .t (.sc (.int .i64 (chkA true l 0))))]) (l := [])
    (C := [callable Try.prog 127 = true, FC Try.prog 127 [.t (.lst 2 (List.map attrT l)), .t (.sc (.bool true))] emp (.t (.sc (.int .i64 (chkA true l 0)))) emp]) (by kernel_rfl) ?_ ?_
  · -- region 1
    exact ⟨(by kernel_rfl), (fc_chk l true), trivial⟩
  refine andThen_normal ?_
  refine Sim.ret ?_
  refine Fin.mk2 (.inl rfl) (τ := []) (keys := [2]) (nx := 32) (sl := [(2, .t (.sc (.int .i64 (chkA true l 0))))]) (l := []) (res' := .t (.sc (.int .i64 (chkA true l 0)))) (by kernel_rfl) ?_ (by kernel_rfl) ?_
  · -- end 1, objects
    first | done | rfl
  · -- end 1, result
    first | done | rfl

def errA (e : Bool) (l : List Attr) (i : Nat) : Int :=
  if i < l.length then
    if nameRf (l.getD i default).name = false then 9
    else if valRf (l.getD i default).val = false ∧ (e = false ∨ seq (l.getD i default).val { data := #[] } = false) then 23
    else if 0 < i ∧ slt (l.getD (i - 1) default).name (l.getD i default).name = false then 5
    else errA e l (i + 1)
  else 0
termination_by l.length - i
theorem slt_or (a b : ByteArray) : (slt a b = true ∨ seq a b = true) ↔ slt b a = false := by
  constructor
  · rintro (h | h)
    · exact slt_asymm h
    · rw [seq_iff] at h; subst h; exact slt_irr _
  · intro h
    cases k : slt a b with
    | true => exact .inl rfl
    | false => exact .inr (seq_iff.2 (slt_tri k h))
theorem errA_eq (e : Bool) (l : List Attr) : ∀ (n i : Nat), l.length - i = n → errA e l i = chkA e l i
  | 0, i, h => by rw [errA, chkA, if_neg (by omega), if_neg (by omega)]
  | n + 1, i, h => by
    have hi : i < l.length := by omega
    rw [errA, chkA, if_pos hi, if_pos hi, errA_eq e l n (i + 1) (by omega)]
    simp only [nameRf_eq, valRf_eq, slt_or]
def sameA (a b : List Attr) (i : Nat) : Bool :=
  if i < a.length then (if (a.getD i default).name = (b.getD i default).name ∧ (a.getD i default).val = (b.getD i default).val then sameA a b (i + 1) else false) else true
termination_by a.length - i
def sameL (a b : List Attr) : Bool := decide (a.length = b.length) && sameA a b 0
def getA (l : List Attr) (n : ByteArray) (i : Nat) : ByteArray :=
  if i < l.length then (if (l.getD i default).name = n then (l.getD i default).val else getA l n (i + 1)) else mt
termination_by l.length - i
theorem drop_at {l : List Attr} {i : Nat} (h : i < l.length) : l.drop i = l.getD i default :: l.drop (i + 1) := by
  rw [List.drop_eq_getElem_cons h]; simp [List.getD, List.getElem?_eq_getElem h]
theorem drop_end {l : List Attr} {i : Nat} (h : ¬ i < l.length) : l.drop i = [] := List.drop_eq_nil_of_le (by omega)
theorem fm_a {g : Attr → Attr → Option Attr} {a b : List Attr} {i j : Nat} (hi : i < a.length) (h : b.length ≤ j ∨ slt (a.getD i default).name (b.getD j default).name = true) :
    fm g (a.drop i) (b.drop j) = (g (a.getD i default) ⟨mt, mt⟩).toList ++ fm g (a.drop (i + 1)) (b.drop j) := by
  unfold fm
  rw [drop_at hi]
  by_cases hj : j < b.length
  · rw [drop_at hj, bothL, if_pos (by rcases h with h | h; omega; exact h), fm_cons]; rfl
  · rw [drop_end hj, bothL, fm_cons]; rfl
theorem fm_b {g : Attr → Attr → Option Attr} {a b : List Attr} {i j : Nat} (hj : j < b.length) (h0 : i < a.length → slt (a.getD i default).name (b.getD j default).name = false) (h : a.length ≤ i ∨ slt (b.getD j default).name (a.getD i default).name = true) :
    fm g (a.drop i) (b.drop j) = (g ⟨mt, mt⟩ (b.getD j default)).toList ++ fm g (a.drop i) (b.drop (j + 1)) := by
  unfold fm
  rw [drop_at hj]
  by_cases hi : i < a.length
  · rw [drop_at hi, bothL, if_neg (by rw [h0 hi]; decide), if_pos (by rcases h with h | h; omega; exact h), fm_cons]; rfl
  · rw [drop_end hi, bothL, fm_cons]; rfl
theorem fm_ab {g : Attr → Attr → Option Attr} {a b : List Attr} {i j : Nat} (hi : i < a.length) (hj : j < b.length) (h0 : slt (a.getD i default).name (b.getD j default).name = false) (h : slt (b.getD j default).name (a.getD i default).name = false) :
    fm g (a.drop i) (b.drop j) = (g (a.getD i default) (b.getD j default)).toList ++ fm g (a.drop (i + 1)) (b.drop (j + 1)) := by
  unfold fm
  rw [drop_at hi, drop_at hj, bothL, if_neg (by rw [h0]; decide), if_neg (by rw [h]; decide), fm_cons]
theorem fm_end {g : Attr → Attr → Option Attr} {a b : List Attr} {i j : Nat} (hi : a.length ≤ i) (hj : b.length ≤ j) : fm g (a.drop i) (b.drop j) = [] := by
  unfold fm
  rw [drop_end (by omega), drop_end (by omega), bothL]; rfl
theorem toList_le {o : Option Attr} : o.toList.length ≤ 1 := by cases o <;> simp
theorem fc_attrsError (l : List Attr) (e : Bool) (hz : Szd l) : FC Try.prog 27 [.t (.lst 2 (List.map attrT l)), .t (.sc (.bool e))] (app emp []) (.t (.sc (.int .i64 (errA e l 0)))) (app emp []) := by
  refine FC.of_sim (fn := Try.f27) (nx := 0) (by kernel_rfl) rfl (by kernel_rfl) rfl ?_
  show Sim _ _ _ _ ⟨[(0, .t (.lst 2 (List.map attrT l))), (1, .t (.sc (.bool e)))], app emp [], 0⟩ _
  refine Sim.len (t := 0) (k := 2) rfl (fun hl0 => ?_)
  rw [List.length_map] at hl0
  refine Sim.seq ?_
  refine Sim.reg (orcs := []) (keys := [0, 1]) (τ := []) (nx := 8)
    (sl := [(0, .t (.lst 2 (List.map attrT l))), (1, .t (.sc (.bool e)))]) (l := [])
    (C := []) (by kernel_rfl) ?_ ?_
  · -- region 0
    trivial
  refine andThen_normal ?_
  refine Sim.seq ?_
  refine Sim.seq ?_
  refine Sim.reg (orcs := [(1, ⟨some (.t (.sc (.int .i64 (l.length : Int)))), none, none, none⟩)]) (keys := [0, 1, 7, 8]) (τ := []) (nx := 32)
    (sl := [(0, .t (.lst 2 (List.map attrT l))), (1, .t (.sc (.bool e))), (7, .t (.sc (.int .i64 (l.length : Int)))), (8, .t (.sc (.int .i64 0)))]) (l := [])
    (C := [Weak (.t (.sc (.int .i64 ((List.map attrT l).length : Int)))) (.t (.sc (.int .i64 (l.length : Int))))]) (by kernel_rfl) ?_ ?_
  · -- region 1
    exact ⟨(Weak.of_eq len_map), trivial⟩
  refine andThen_normal ?_
  refine Sim.block ?_
  refine Sim.weaken (Le.ren (τ := []) (keys := [0, 1, 7, 8]) (nx := 32) (sl := [(0, .t (.lst 2 (List.map attrT l))), (1, .t (.sc (.bool e))), (7, .t (.sc (.int .i64 (l.length : Int)))), (8, .t (.sc (.int .i64 ((0 : Nat) : Int))))]) (l := []) (by kernel_rfl)) ?_
  refine Sim.loop ?_
  refine loop_ind (α := Nat) (fun i => ⟨[(0, .t (.lst 2 (List.map attrT l))), (1, .t (.sc (.bool e))), (7, .t (.sc (.int .i64 (l.length : Int)))), (8, .t (.sc (.int .i64 (i : Int))))], app emp [], 32⟩) (fun i => i ≤ l.length ∧ errA e l 0 = errA e l i) (fun i => l.length - i) ?_ (0 : Nat) ?_
  rotate_left
  · -- loop 2, start
    exact ⟨by omega, rfl⟩
  rintro i I2 ih2
  show LoopSim _ _ _ _ ⟨[(0, .t (.lst 2 (List.map attrT l))), (1, .t (.sc (.bool e))), (7, .t (.sc (.int .i64 (l.length : Int)))), (8, .t (.sc (.int .i64 (i : Int))))], app emp [], 32⟩ _
  replace I2 : i ≤ l.length ∧ errA e l 0 = errA e l i := I2
  refine LoopSim.step ?_
  refine Sim.seq ?_
  refine Sim.reg (orcs := []) (keys := [0, 1, 7, 8, 9]) (τ := []) (nx := 40)
    (sl := [(0, .t (.lst 2 (List.map attrT l))), (1, .t (.sc (.bool e))), (7, .t (.sc (.int .i64 (l.length : Int)))), (8, .t (.sc (.int .i64 (i : Int)))), (9, .t (.sc (.bool (decide ((i : Int) < (l.length : Int))))))]) (l := [])
    (C := []) (by kernel_rfl) ?_ ?_
  · -- region 2
    trivial
  refine andThen_normal ?_
  refine Sim.seq ?_
  refine Sim.cond (b := decide ((i : Int) < (l.length : Int))) (by kernel_rfl) (fun h2 => ?_) (fun h2 => ?_)
  · (try simp only [decide_eq_true_eq, decide_eq_false_iff_not, Int.not_lt, Int.not_le] at h2)
    refine Sim.skip ?_
    refine andThen_normal ?_
    refine Sim.seq ?_
    refine Sim.block ?_
    refine Sim.seq ?_
    refine Sim.reg (orcs := []) (keys := [0, 1, 5, 7, 8]) (τ := []) (nx := 56)
      (sl := [(0, .t (.lst 2 (List.map attrT l))), (1, .t (.sc (.bool e))), (5, .t (.sc (.int .i64 (i : Int)))), (7, .t (.sc (.int .i64 (l.length : Int)))), (8, .t (.sc (.int .i64 (i : Int))))]) (l := [])
      (C := []) (by kernel_rfl) ?_ ?_
    · -- region 3
      trivial
    refine andThen_normal ?_
    refine Sim.seq ?_
    refine Sim.seq ?_
    have hza := hz.at (i := i) (by omega)
    refine Sim.reg (orcs := [(2, ⟨none, none, some (attrT (l.getD i default)), none⟩), (5, ⟨none, none, none, some (⟨0, [], .t (.sc (.bool (nameRf (((l.getD i default)).name)))), []⟩)⟩)]) (keys := [0, 1, 5, 7, 8, 17]) (τ := []) (nx := 112)
      (sl := [(0, .t (.lst 2 (List.map attrT l))), (1, .t (.sc (.bool e))), (5, .t (.sc (.int .i64 (i : Int)))), (7, .t (.sc (.int .i64 (l.length : Int)))), (8, .t (.sc (.int .i64 (i : Int)))), (17, .t (.sc (.bool (!(nameRf (((l.getD i default)).name))))))]) (l := [])
      (C := [(0:Int) ≤ (i : Int), (List.map attrT l)[i]? = some (attrT (l.getD i default)), callable Try.prog 79 = true, FC Try.prog 79 [.t (.sc (.string (((l.getD i default)).name)))] emp (.t (.sc (.bool (nameRf (((l.getD i default)).name))))) emp]) (by kernel_rfl) ?_ ?_
    · -- region 4
      refine ⟨?_, (elt_nat ?_), (by kernel_rfl), (fc_nameR (((l.getD i default)).name) ?_), trivial⟩
      all_goals omega
    refine andThen_normal ?_
    refine Sim.cond (b := !(nameRf (((l.getD i default)).name))) (by kernel_rfl) (fun h4 => ?_) (fun h4 => ?_)
    · (try simp only [Bool.not_eq_true', Bool.not_eq_false'] at h4)
      refine Sim.seq ?_
      refine Sim.reg (orcs := []) (keys := [4]) (τ := []) (nx := 120)
        (sl := [(4, .t (.sc (.int .i64 9)))]) (l := [])
        (C := []) (by kernel_rfl) ?_ ?_
      · -- region 5
        trivial
      refine andThen_normal ?_
      refine Sim.ret ?_
      refine andThen_ret ?_
      refine inBlk_ret ?_
      refine andThen_ret ?_
      refine andThen_ret ?_
      refine inBlk_ret ?_
      refine andThen_ret ?_
      refine Fin.mk2 (.inl rfl) (τ := []) (keys := [4]) (nx := 120) (sl := [(4, .t (.sc (.int .i64 9)))]) (l := []) (res' := .t (.sc (.int .i64 9))) (by kernel_rfl) ?_ (by kernel_rfl) ?_
      · -- end 1, objects
        first | done | rfl
      · -- end 1, result
        have e1 : ((errA e l 0) : Int) = 9 := by
          rw [I2.2, errA, if_pos (by omega), if_pos h4]
        show AVal.t (.sc (.int .i64 9)) = .t (.sc (.int .i64 (errA e l 0)))
        rw [e1]
        try rfl
    · (try simp only [Bool.not_eq_true', Bool.not_eq_false'] at h4)
      refine Sim.skip ?_
      refine andThen_normal ?_
      refine Sim.seq ?_
      refine Sim.seq ?_
      refine Sim.reg (orcs := [(2, ⟨none, none, some (attrT (l.getD i default)), none⟩), (5, ⟨none, none, none, some (⟨0, [], .t (.sc (.bool (valRf (((l.getD i default)).val)))), []⟩)⟩), (10, ⟨none, none, some (attrT (l.getD i default)), none⟩)]) (keys := [0, 1, 5, 7, 8, 36]) (τ := []) (nx := 264)
        (sl := [(0, .t (.lst 2 (List.map attrT l))), (1, .t (.sc (.bool e))), (5, .t (.sc (.int .i64 (i : Int)))), (7, .t (.sc (.int .i64 (l.length : Int)))), (8, .t (.sc (.int .i64 (i : Int)))), (36, .t (.sc (.bool (!(valRf (((l.getD i default)).val)) && (!(seq (((l.getD i default)).val) ({ data := #[] })) || !e)))))]) (l := [])
        (C := [(0:Int) ≤ (i : Int), (List.map attrT l)[i]? = some (attrT (l.getD i default)), callable Try.prog 80 = true, FC Try.prog 80 [.t (.sc (.string (((l.getD i default)).val)))] emp (.t (.sc (.bool (valRf (((l.getD i default)).val))))) emp, (!(valRf (((l.getD i default)).val))) = true → (!(valRf (((l.getD i default)).val))) = true, (!(valRf (((l.getD i default)).val))) = true → (!(valRf (((l.getD i default)).val))) = true, (!(valRf (((l.getD i default)).val))) = true → (0:Int) ≤ (i : Int), (!(valRf (((l.getD i default)).val))) = true → (List.map attrT l)[i]? = some (attrT (l.getD i default)), (!(valRf (((l.getD i default)).val))) = true → (!(valRf (((l.getD i default)).val))) = true, (!(valRf (((l.getD i default)).val))) = true → (!(valRf (((l.getD i default)).val))) = true, (!(valRf (((l.getD i default)).val))) = true → (!(valRf (((l.getD i default)).val))) = true, (!(valRf (((l.getD i default)).val))) = true → (!(valRf (((l.getD i default)).val))) = true, ((!(valRf (((l.getD i default)).val))) && !(!(seq (((l.getD i default)).val) ({ data := #[] })))) = true → ((!(valRf (((l.getD i default)).val))) && !(!(seq (((l.getD i default)).val) ({ data := #[] })))) = true, (!(valRf (((l.getD i default)).val))) = true → (!(valRf (((l.getD i default)).val))) = true, (!(valRf (((l.getD i default)).val))) = true → (!(seq (((l.getD i default)).val) ({ data := #[] }))) = false → ((!(valRf (((l.getD i default)).val))) && !(!(seq (((l.getD i default)).val) ({ data := #[] })))) = true, (!(valRf (((l.getD i default)).val))) = true → (!(valRf (((l.getD i default)).val))) = true]) (by kernel_rfl) ?_ ?_
      · -- region 6
        refine ⟨?_, (elt_nat ?_), (by kernel_rfl), (fc_valueR (((l.getD i default)).val) ?_), ?_, ?_, ?_, (fun hg => (elt_nat ?_)), ?_, ?_, ?_, ?_, ?_, ?_, ?_, ?_, trivial⟩
        all_goals (first | omega | with_reducible exact fun h => h | (intro hg hq; rw [hg, hq]; rfl) | (intro hq; rw [hq]; done) | (intro hq; rw [hq]; rfl) | ((try intro hg); (try simp [-List.getD_eq_getElem?_getD] at hg); (try simp only [List.length_map]); first | done | omega | rfl | (simp; done) | (simp; omega) | (simp [hg]; done) | (intro hq; simp [hg, hq]; done) | (intro hq; simp [hg, hq]; omega)))
      refine andThen_normal ?_
      refine Sim.cond (b := (!(valRf (((l.getD i default)).val)) && (!(seq (((l.getD i default)).val) ({ data := #[] })) || !e))) (by kernel_rfl) (fun h6 => ?_) (fun h6 => ?_)
      · (try simp only [Bool.not_eq_true', Bool.not_eq_false', Bool.and_eq_true, Bool.and_eq_false_iff, Bool.or_eq_true, Bool.or_eq_false_iff] at h6)
        refine Sim.seq ?_
        refine Sim.reg (orcs := []) (keys := [4]) (τ := []) (nx := 272)
          (sl := [(4, .t (.sc (.int .i64 23)))]) (l := [])
          (C := []) (by kernel_rfl) ?_ ?_
        · -- region 7
          trivial
        refine andThen_normal ?_
        refine Sim.ret ?_
        refine andThen_ret ?_
        refine inBlk_ret ?_
        refine andThen_ret ?_
        refine andThen_ret ?_
        refine inBlk_ret ?_
        refine andThen_ret ?_
        refine Fin.mk2 (.inl rfl) (τ := []) (keys := [4]) (nx := 272) (sl := [(4, .t (.sc (.int .i64 23)))]) (l := []) (res' := .t (.sc (.int .i64 23))) (by kernel_rfl) ?_ (by kernel_rfl) ?_
        · -- end 2, objects
          first | done | rfl
        · -- end 2, result
          have e2 : ((errA e l 0) : Int) = 23 := by
            rw [I2.2, errA, if_pos (by omega), if_neg (by rw [h4]; decide), if_pos ⟨h6.1, h6.2.symm⟩]
          show AVal.t (.sc (.int .i64 23)) = .t (.sc (.int .i64 (errA e l 0)))
          rw [e2]
          try rfl
      · (try simp only [Bool.not_eq_true', Bool.not_eq_false', Bool.and_eq_true, Bool.and_eq_false_iff, Bool.or_eq_true, Bool.or_eq_false_iff] at h6)
        refine Sim.skip ?_
        refine andThen_normal ?_
        refine Sim.seq ?_
        refine Sim.regD (by kernel_rfl) (orcs := [(5, ⟨some (.t (.sc (.int .i64 ((i : Int) - 1)))), none, none, none⟩), (6, ⟨none, none, some (attrT (l.getD (i - 1) default)), none⟩), (11, ⟨none, none, some (attrT (l.getD i default)), none⟩)]) (keys := [0, 1, 7, 8, 52]) (τ := []) (nx := 392)
          (sl := [(0, .t (.lst 2 (List.map attrT l))), (1, .t (.sc (.bool e))), (7, .t (.sc (.int .i64 (l.length : Int)))), (8, .t (.sc (.int .i64 (i : Int)))), (52, .t (.sc (.bool (decide ((i : Int) > 0) && !(slt (((l.getD (i - 1) default)).name) (((l.getD i default)).name))))))]) (l := [])
          (C := [(decide ((i : Int) > 0)) = true → (decide ((i : Int) > 0)) = true, (decide ((i : Int) > 0)) = true → Weak (.t (.sc (.int .i64 (IntKind.i64.wrap ((i : Int) - 1))))) (.t (.sc (.int .i64 ((i : Int) - 1)))), (decide ((i : Int) > 0)) = true → (decide ((i : Int) > 0)) = true, (decide ((i : Int) > 0)) = true → (decide ((i : Int) > 0)) = true, (decide ((i : Int) > 0)) = true → (0:Int) ≤ ((i : Int) - 1), (decide ((i : Int) > 0)) = true → (List.map attrT l)[(Int.toNat ((i : Int) - 1))]? = some (attrT (l.getD (i - 1) default)), (decide ((i : Int) > 0)) = true → (decide ((i : Int) > 0)) = true, (decide ((i : Int) > 0)) = true → (decide ((i : Int) > 0)) = true, (decide ((i : Int) > 0)) = true → (decide ((i : Int) > 0)) = true, (decide ((i : Int) > 0)) = true → (decide ((i : Int) > 0)) = true, (decide ((i : Int) > 0)) = true → (0:Int) ≤ (i : Int), (decide ((i : Int) > 0)) = true → (List.map attrT l)[i]? = some (attrT (l.getD i default)), (decide ((i : Int) > 0)) = true → (decide ((i : Int) > 0)) = true, (decide ((i : Int) > 0)) = true → (decide ((i : Int) > 0)) = true, (decide ((i : Int) > 0)) = true → (decide ((i : Int) > 0)) = true, (decide ((i : Int) > 0)) = true → (decide ((i : Int) > 0)) = true, (decide ((i : Int) > 0)) = true → (decide ((i : Int) > 0)) = true]) (by kernel_rfl) ?_ ?_
        · -- region 8
          refine ⟨?_, (fun hg => (Weak.of_eq (nw ?_))), ?_, ?_, ?_, (fun hg => (elt_map' ?_ ?_)), ?_, ?_, ?_, ?_, ?_, (fun hg => (elt_nat ?_)), ?_, ?_, ?_, ?_, ?_, trivial⟩
          all_goals (first | omega | with_reducible exact fun h => h | (intro hg hq; rw [hg, hq]; rfl) | (intro hq; rw [hq]; done) | (intro hq; rw [hq]; rfl) | ((try intro hg); (try simp [-List.getD_eq_getElem?_getD] at hg); (try simp only [List.length_map]); first | done | omega | rfl | (simp; done) | (simp; omega) | (simp [hg]; done) | (intro hq; simp [hg, hq]; done) | (intro hq; simp [hg, hq]; omega)))
        refine andThen_normal ?_
        refine Sim.cond (b := (decide ((i : Int) > 0) && !(slt (((l.getD (i - 1) default)).name) (((l.getD i default)).name)))) (by kernel_rfl) (fun h8 => ?_) (fun h8 => ?_)
        · (try simp only [decide_eq_true_eq, decide_eq_false_iff_not, Int.not_lt, Int.not_le, gt_iff_lt, Bool.not_eq_true', Bool.not_eq_false', Bool.and_eq_true, Bool.and_eq_false_iff] at h8)
          refine Sim.seq ?_
          refine Sim.reg (orcs := []) (keys := [4]) (τ := []) (nx := 400)
            (sl := [(4, .t (.sc (.int .i64 5)))]) (l := [])
            (C := []) (by kernel_rfl) ?_ ?_
          · -- region 9
            trivial
          refine andThen_normal ?_
          refine Sim.ret ?_
          refine inBlk_ret ?_
          refine andThen_ret ?_
          refine andThen_ret ?_
          refine inBlk_ret ?_
          refine andThen_ret ?_
          refine Fin.mk2 (.inl rfl) (τ := []) (keys := [4]) (nx := 400) (sl := [(4, .t (.sc (.int .i64 5)))]) (l := []) (res' := .t (.sc (.int .i64 5))) (by kernel_rfl) ?_ (by kernel_rfl) ?_
          · -- end 3, objects
            first | done | rfl
          · -- end 3, result
            have e3 : ((errA e l 0) : Int) = 5 := by
              rw [I2.2, errA, if_pos (by omega), if_neg (by rw [h4]; decide), if_neg (by clear ih2; rintro ⟨a, b⟩; simp_all), if_pos ⟨by omega, h8.2⟩]
            show AVal.t (.sc (.int .i64 5)) = .t (.sc (.int .i64 (errA e l 0)))
            rw [e3]
            try rfl
        · (try simp only [decide_eq_true_eq, decide_eq_false_iff_not, Int.not_lt, Int.not_le, gt_iff_lt, Bool.not_eq_true', Bool.not_eq_false', Bool.and_eq_true, Bool.and_eq_false_iff] at h8)
          refine Sim.skip ?_
          refine inBlk_normal ?_
          refine andThen_normal ?_
          refine Sim.reg (orcs := [(0, ⟨some (.t (.sc (.int .i64 ((i : Int) + 1)))), none, none, none⟩)]) (keys := [0, 1, 7, 8]) (τ := []) (nx := 408)
            (sl := [(0, .t (.lst 2 (List.map attrT l))), (1, .t (.sc (.bool e))), (7, .t (.sc (.int .i64 (l.length : Int)))), (8, .t (.sc (.int .i64 ((i : Int) + 1))))]) (l := [])
            (C := [Weak (.t (.sc (.int .i64 (IntKind.i64.wrap ((i : Int) + 1))))) (.t (.sc (.int .i64 ((i : Int) + 1))))]) (by kernel_rfl) ?_ ?_
          · -- region 10
            refine ⟨(Weak.of_eq (nw ?_)), trivial⟩
            all_goals omega
          refine andThen_normal ?_
          refine LoopSim.weaken (Le.ren (τ := []) (keys := [0, 1, 7, 8]) (nx := 32) (sl := [(0, .t (.lst 2 (List.map attrT l))), (1, .t (.sc (.bool e))), (7, .t (.sc (.int .i64 (l.length : Int)))), (8, .t (.sc (.int .i64 (((i + 1) : Nat) : Int))))]) (l := []) (by kernel_rfl)) ?_
          refine ih2 ((i + 1) : Nat) ?_ ?_
          · -- back 2.1, invariant
            refine ⟨by omega, ?_⟩; rw [I2.2, errA, if_pos (by omega), if_neg (by rw [h4]; decide), if_neg (by clear ih2; rintro ⟨a, b⟩; simp_all), if_neg (by clear ih2; rintro ⟨a, b⟩; rcases h8 with h | h; omega; rw [b] at h; cases h)]
          · -- back 2.1, measure
            show (_:Nat) < _; omega
  · (try simp only [decide_eq_true_eq, decide_eq_false_iff_not, Int.not_lt, Int.not_le] at h2)
    refine Sim.exit ?_
    refine andThen_exit ?_
    refine andThen_exit ?_
    refine inBlk_same ?_
    refine andThen_normal ?_
    refine Sim.seq ?_
    refine Sim.reg (orcs := []) (keys := [4]) (τ := []) (nx := 48)
      (sl := [(4, .t (.sc (.int .i64 0)))]) (l := [])
      (C := []) (by kernel_rfl) ?_ ?_
    · -- region 11
      trivial
    refine andThen_normal ?_
    refine Sim.ret ?_
    refine Fin.mk2 (.inl rfl) (τ := []) (keys := [4]) (nx := 48) (sl := [(4, .t (.sc (.int .i64 0)))]) (l := []) (res' := .t (.sc (.int .i64 0))) (by kernel_rfl) ?_ (by kernel_rfl) ?_
    · -- end 4, objects
      first | done | rfl
    · -- end 4, result
      have e4 : ((errA e l 0) : Int) = 0 := by
        rw [I2.2, errA, if_neg (by omega)]
      show AVal.t (.sc (.int .i64 0)) = .t (.sc (.int .i64 (errA e l 0)))
      rw [e4]
      try rfl

theorem fc_sameAttrs (a b : List Attr) : FC Try.prog 30 [.t (.lst 2 (List.map attrT a)), .t (.lst 2 (List.map attrT b))] (app emp []) (.t (.sc (.bool (sameL a b)))) (app emp []) := by
  refine FC.of_sim (fn := Try.f30) (nx := 0) (by kernel_rfl) rfl (by kernel_rfl) rfl ?_
  show Sim _ _ _ _ ⟨[(0, .t (.lst 2 (List.map attrT a))), (1, .t (.lst 2 (List.map attrT b)))], app emp [], 0⟩ _
  refine Sim.len (t := 0) (k := 2) rfl (fun hl0 => ?_)
  rw [List.length_map] at hl0
  refine Sim.len (t := 1) (k := 2) rfl (fun hl1 => ?_)
  rw [List.length_map] at hl1
  refine Sim.seq ?_
  refine Sim.reg (orcs := []) (keys := [0, 1]) (τ := []) (nx := 8)
    (sl := [(0, .t (.lst 2 (List.map attrT a))), (1, .t (.lst 2 (List.map attrT b)))]) (l := [])
    (C := []) (by kernel_rfl) ?_ ?_
  · -- region 0
    trivial
  refine andThen_normal ?_
  refine Sim.seq ?_
  refine Sim.seq ?_
  refine Sim.reg (orcs := [(1, ⟨some (.t (.sc (.int .i64 (a.length : Int)))), none, none, none⟩), (3, ⟨some (.t (.sc (.int .i64 (b.length : Int)))), none, none, none⟩)]) (keys := [0, 1, 10]) (τ := []) (nx := 48)
    (sl := [(0, .t (.lst 2 (List.map attrT a))), (1, .t (.lst 2 (List.map attrT b))), (10, .t (.sc (.bool ((a.length : Int) != (b.length : Int)))))]) (l := [])
    (C := [Weak (.t (.sc (.int .i64 ((List.map attrT a).length : Int)))) (.t (.sc (.int .i64 (a.length : Int)))), Weak (.t (.sc (.int .i64 ((List.map attrT b).length : Int)))) (.t (.sc (.int .i64 (b.length : Int))))]) (by kernel_rfl) ?_ ?_
  · -- region 1
    exact ⟨(Weak.of_eq len_map), (Weak.of_eq len_map), trivial⟩
  refine andThen_normal ?_
  refine Sim.cond (b := ((a.length : Int) != (b.length : Int))) (by kernel_rfl) (fun h1 => ?_) (fun h1 => ?_)
  · (try simp only [bne_iff_ne, bne_eq_false_iff_eq, ne_eq] at h1)
    refine Sim.seq ?_
    refine Sim.reg (orcs := []) (keys := [4]) (τ := []) (nx := 56)
      (sl := [(4, .t (.sc (.bool false)))]) (l := [])
      (C := []) (by kernel_rfl) ?_ ?_
    · -- region 2
      trivial
    refine andThen_normal ?_
    refine Sim.ret ?_
    refine andThen_ret ?_
    refine Fin.mk2 (.inl rfl) (τ := []) (keys := [4]) (nx := 56) (sl := [(4, .t (.sc (.bool false)))]) (l := []) (res' := .t (.sc (.bool false))) (by kernel_rfl) ?_ (by kernel_rfl) ?_
    · -- end 1, objects
      first | done | rfl
    · -- end 1, result
      have e1 : ((sameL a b) : Bool) = false := by
        unfold sameL; rw [decide_eq_false (by omega)]; rfl
      show AVal.t (.sc (.bool false)) = .t (.sc (.bool (sameL a b)))
      rw [e1]
      try rfl
  · (try simp only [bne_iff_ne, bne_eq_false_iff_eq, ne_eq] at h1)
    refine Sim.skip ?_
    refine andThen_normal ?_
    refine Sim.seq ?_
    refine Sim.seq ?_
    refine Sim.reg (orcs := [(1, ⟨some (.t (.sc (.int .i64 (a.length : Int)))), none, none, none⟩)]) (keys := [0, 1, 12, 13]) (τ := []) (nx := 72)
      (sl := [(0, .t (.lst 2 (List.map attrT a))), (1, .t (.lst 2 (List.map attrT b))), (12, .t (.sc (.int .i64 (a.length : Int)))), (13, .t (.sc (.int .i64 0)))]) (l := [])
      (C := [Weak (.t (.sc (.int .i64 ((List.map attrT a).length : Int)))) (.t (.sc (.int .i64 (a.length : Int))))]) (by kernel_rfl) ?_ ?_
    · -- region 3
      exact ⟨(Weak.of_eq len_map), trivial⟩
    refine andThen_normal ?_
    refine Sim.block ?_
    refine Sim.weaken (Le.ren (τ := []) (keys := [0, 1, 12, 13]) (nx := 72) (sl := [(0, .t (.lst 2 (List.map attrT a))), (1, .t (.lst 2 (List.map attrT b))), (12, .t (.sc (.int .i64 (a.length : Int)))), (13, .t (.sc (.int .i64 ((0 : Nat) : Int))))]) (l := []) (by kernel_rfl)) ?_
    refine Sim.loop ?_
    refine loop_ind (α := Nat) (fun i => ⟨[(0, .t (.lst 2 (List.map attrT a))), (1, .t (.lst 2 (List.map attrT b))), (12, .t (.sc (.int .i64 (a.length : Int)))), (13, .t (.sc (.int .i64 (i : Int))))], app emp [], 72⟩) (fun i => i ≤ a.length ∧ sameA a b 0 = sameA a b i) (fun i => a.length - i) ?_ (0 : Nat) ?_
    rotate_left
    · -- loop 4, start
      exact ⟨by omega, rfl⟩
    rintro i I4 ih4
    show LoopSim _ _ _ _ ⟨[(0, .t (.lst 2 (List.map attrT a))), (1, .t (.lst 2 (List.map attrT b))), (12, .t (.sc (.int .i64 (a.length : Int)))), (13, .t (.sc (.int .i64 (i : Int))))], app emp [], 72⟩ _
    replace I4 : i ≤ a.length ∧ sameA a b 0 = sameA a b i := I4
    refine LoopSim.step ?_
    refine Sim.seq ?_
    refine Sim.reg (orcs := []) (keys := [0, 1, 12, 13, 14]) (τ := []) (nx := 80)
      (sl := [(0, .t (.lst 2 (List.map attrT a))), (1, .t (.lst 2 (List.map attrT b))), (12, .t (.sc (.int .i64 (a.length : Int)))), (13, .t (.sc (.int .i64 (i : Int)))), (14, .t (.sc (.bool (decide ((i : Int) < (a.length : Int))))))]) (l := [])
      (C := []) (by kernel_rfl) ?_ ?_
    · -- region 4
      trivial
    refine andThen_normal ?_
    refine Sim.seq ?_
    refine Sim.cond (b := decide ((i : Int) < (a.length : Int))) (by kernel_rfl) (fun h4 => ?_) (fun h4 => ?_)
    · (try simp only [decide_eq_true_eq, decide_eq_false_iff_not, Int.not_lt, Int.not_le] at h4)
      refine Sim.skip ?_
      refine andThen_normal ?_
      refine Sim.seq ?_
      refine Sim.block ?_
      refine Sim.seq ?_
      refine Sim.reg (orcs := []) (keys := [0, 1, 5, 12, 13]) (τ := []) (nx := 96)
        (sl := [(0, .t (.lst 2 (List.map attrT a))), (1, .t (.lst 2 (List.map attrT b))), (5, .t (.sc (.int .i64 (i : Int)))), (12, .t (.sc (.int .i64 (a.length : Int)))), (13, .t (.sc (.int .i64 (i : Int))))]) (l := [])
        (C := []) (by kernel_rfl) ?_ ?_
      · -- region 5
        trivial
      refine andThen_normal ?_
      refine Sim.seq ?_
      refine Sim.regD (by kernel_rfl) (orcs := [(2, ⟨none, none, some (attrT (a.getD i default)), none⟩), (6, ⟨none, none, some (attrT (b.getD i default)), none⟩)]) (keys := [0, 1, 12, 13, 24]) (τ := []) (nx := 168)
        (sl := [(0, .t (.lst 2 (List.map attrT a))), (1, .t (.lst 2 (List.map attrT b))), (12, .t (.sc (.int .i64 (a.length : Int)))), (13, .t (.sc (.int .i64 (i : Int)))), (24, .t (.sc (.bool (!(seq (((a.getD i default)).name) (((b.getD i default)).name) && (seq (((a.getD i default)).val) (((b.getD i default)).val) && true))))))]) (l := [])
        (C := [(0:Int) ≤ (i : Int), (List.map attrT a)[i]? = some (attrT (a.getD i default)), (0:Int) ≤ (i : Int), (List.map attrT b)[i]? = some (attrT (b.getD i default))]) (by kernel_rfl) ?_ ?_
      · -- region 6
        refine ⟨?_, (elt_nat ?_), ?_, (elt_nat ?_), trivial⟩
        all_goals omega
      refine andThen_normal ?_
      refine Sim.cond (b := !(seq (((a.getD i default)).name) (((b.getD i default)).name) && (seq (((a.getD i default)).val) (((b.getD i default)).val) && true))) (by kernel_rfl) (fun h6 => ?_) (fun h6 => ?_)
      · (try simp only [Bool.not_eq_true', Bool.not_eq_false', Bool.and_eq_true, Bool.and_eq_false_iff] at h6)
        refine Sim.seq ?_
        refine Sim.reg (orcs := []) (keys := [4]) (τ := []) (nx := 176)
          (sl := [(4, .t (.sc (.bool false)))]) (l := [])
          (C := []) (by kernel_rfl) ?_ ?_
        · -- region 7
          trivial
        refine andThen_normal ?_
        refine Sim.ret ?_
        refine inBlk_ret ?_
        refine andThen_ret ?_
        refine andThen_ret ?_
        refine inBlk_ret ?_
        refine andThen_ret ?_
        refine Fin.mk2 (.inl rfl) (τ := []) (keys := [4]) (nx := 176) (sl := [(4, .t (.sc (.bool false)))]) (l := []) (res' := .t (.sc (.bool false))) (by kernel_rfl) ?_ (by kernel_rfl) ?_
        · -- end 2, objects
          first | done | rfl
        · -- end 2, result
          have e2 : ((sameL a b) : Bool) = false := by
            unfold sameL; rw [I4.2, sameA, if_pos (by omega), if_neg (by clear ih4; simp only [seq_no, seq_iff] at h6; rintro ⟨x, y⟩; simp_all)]; simp
          show AVal.t (.sc (.bool false)) = .t (.sc (.bool (sameL a b)))
          rw [e2]
          try rfl
      · (try simp only [Bool.not_eq_true', Bool.not_eq_false', Bool.and_eq_true, Bool.and_eq_false_iff] at h6)
        refine Sim.skip ?_
        refine inBlk_normal ?_
        refine andThen_normal ?_
        refine Sim.reg (orcs := [(0, ⟨some (.t (.sc (.int .i64 ((i : Int) + 1)))), none, none, none⟩)]) (keys := [0, 1, 12, 13]) (τ := []) (nx := 184)
          (sl := [(0, .t (.lst 2 (List.map attrT a))), (1, .t (.lst 2 (List.map attrT b))), (12, .t (.sc (.int .i64 (a.length : Int)))), (13, .t (.sc (.int .i64 ((i : Int) + 1))))]) (l := [])
          (C := [Weak (.t (.sc (.int .i64 (IntKind.i64.wrap ((i : Int) + 1))))) (.t (.sc (.int .i64 ((i : Int) + 1))))]) (by kernel_rfl) ?_ ?_
        · -- region 8
          refine ⟨(Weak.of_eq (nw ?_)), trivial⟩
          all_goals omega
        refine andThen_normal ?_
        refine LoopSim.weaken (Le.ren (τ := []) (keys := [0, 1, 12, 13]) (nx := 72) (sl := [(0, .t (.lst 2 (List.map attrT a))), (1, .t (.lst 2 (List.map attrT b))), (12, .t (.sc (.int .i64 (a.length : Int)))), (13, .t (.sc (.int .i64 (((i + 1) : Nat) : Int))))]) (l := []) (by kernel_rfl)) ?_
        refine ih4 ((i + 1) : Nat) ?_ ?_
        · -- back 4.1, invariant
          refine ⟨by omega, ?_⟩; rw [I4.2, sameA, if_pos (by omega), if_pos (by clear ih4; simp only [seq_no, seq_iff] at h6; simp_all)]
        · -- back 4.1, measure
          show (_:Nat) < _; omega
    · (try simp only [decide_eq_true_eq, decide_eq_false_iff_not, Int.not_lt, Int.not_le] at h4)
      refine Sim.exit ?_
      refine andThen_exit ?_
      refine andThen_exit ?_
      refine inBlk_same ?_
      refine andThen_normal ?_
      refine Sim.seq ?_
      refine Sim.reg (orcs := []) (keys := [4]) (τ := []) (nx := 88)
        (sl := [(4, .t (.sc (.bool true)))]) (l := [])
        (C := []) (by kernel_rfl) ?_ ?_
      · -- region 9
        trivial
      refine andThen_normal ?_
      refine Sim.ret ?_
      refine Fin.mk2 (.inl rfl) (τ := []) (keys := [4]) (nx := 88) (sl := [(4, .t (.sc (.bool true)))]) (l := []) (res' := .t (.sc (.bool true))) (by kernel_rfl) ?_ (by kernel_rfl) ?_
      · -- end 3, objects
        first | done | rfl
      · -- end 3, result
        have e3 : ((sameL a b) : Bool) = true := by
          unfold sameL; rw [I4.2, sameA, if_neg (by omega), decide_eq_true (by omega)]; rfl
        show AVal.t (.sc (.bool true)) = .t (.sc (.bool (sameL a b)))
        rw [e3]
        try rfl

end Go.Ch
