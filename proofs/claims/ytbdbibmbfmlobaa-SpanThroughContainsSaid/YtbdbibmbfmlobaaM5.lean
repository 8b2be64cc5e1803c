/- Parts of the proof: ChAxis3, AxisJoin, ChAxis4, ChAxis5, AxisFacts, AxisPlace, DeltaAxis, ChFlow, ChFlow2, ChDelta, ChDelta2, ChDelta3, ChDelta4, ChDelta5. -/
import Derived.Test.YtbdbibmbfmlobaaM1
import Derived.Test.YtbdbibmbfmlobaaM2
import Derived.Test.YtbdbibmbfmlobaaM3
import Derived.Test.YtbdbibmbfmlobaaM4
section
set_option linter.unusedVariables false
set_option linter.unusedSimpArgs false
set_option maxRecDepth 100000
set_option maxHeartbeats 4000000
open Go Go.Proofs Go.Ab
namespace Go.Ch
theorem fc_axCheck (l : List AxStep) : FC Try.prog 89 [VL 2 stepT l] (app emp []) (VI (checkX l)) (app emp []) := by
 refine .go Try.f89 ?_
 refine .len 0 (fun hl0 => ?_)
 refine .loop (α := Int × Int × Nat) [.r [], .r [], .r [(1, X (Xl stepT l))]] 48 (fun (b, a, i) => ([(0, VL 2 stepT l), (3, VI b), (4, VI a), (7, VL 2 stepT l), (8, VI (l.length : Int)), (9, VI (i : Int))], [])) (fun (b, a, i) => i ≤ l.length ∧ 0 ≤ b ∧ b ≤ 2147483648 ∧ 0 ≤ a ∧ a ≤ 2147483648 ∧ checkX l = chkX l i b a) (fun (b, a, i) => l.length - i) (0, 0, 0) ?_ ?_
 ·
  exact ⟨by omega, by decide, by decide, by decide, by decide, rfl⟩
 rintro ⟨b, a, i⟩ I3 ih3
 try dsimp only at I3
 refine .br [.r []] (decide ((i : Int) < (l.length : Int))) (fun h3 => ?_) (fun h3 => ?_)
 ·
  (try simp only [decide_eq_true_eq, decide_eq_false_iff_not, Int.not_lt, Int.not_le] at h3)
  refine .br [.r [(1, X (Xi stepT l (i : Int)))], .r [(5, Xv 1 (!(decide ((((l.getD i default)).kind) < 0))) X0), (6, Xv 1 (!(decide ((((l.getD i default)).kind) < 0))) X0), (7, X (Xk' (decide ((((l.getD i default)).kind) < 0))))]] (decide ((((l.getD i default)).kind) < 0) || decide ((((l.getD i default)).kind) > 2)) (fun h5 => ?_) (fun h5 => ?_)
  ·
   (try simp only [decide_eq_true_eq, decide_eq_false_iff_not, Int.not_lt, Int.not_le, gt_iff_lt, Bool.or_eq_true, Bool.or_eq_false_iff] at h5)
   have e1 : ((checkX l) : Int) = 8 := by
    rw [I3.2.2.2.2.2, chkX]; ((repeat' split) <;> first | rfl | omega | (simp_all; done) | (simp_all; omega))
   exact .finE [.r []] [] (fun z0 => (VI z0, [])) (8 : Int) ((checkX l) : Int) e1
  ·
   (try simp only [decide_eq_true_eq, decide_eq_false_iff_not, Int.not_lt, Int.not_le, gt_iff_lt, Bool.or_eq_true, Bool.or_eq_false_iff] at h5)
   refine .br [.r [(5, Xv 1 (!(decide ((((l.getD i default)).n) < 1))) X0), (6, Xv 1 (!(decide ((((l.getD i default)).n) < 1))) X0), (7, X (Xk' (decide ((((l.getD i default)).n) < 1))))]] (decide ((((l.getD i default)).n) < 1) || decide ((((l.getD i default)).n) > 2147483647)) (fun h7 => ?_) (fun h7 => ?_)
   ·
    (try simp only [decide_eq_true_eq, decide_eq_false_iff_not, Int.not_lt, Int.not_le, gt_iff_lt, Bool.or_eq_true, Bool.or_eq_false_iff] at h7)
    have e2 : ((checkX l) : Int) = 2 := by
     rw [I3.2.2.2.2.2, chkX]; ((repeat' split) <;> first | rfl | omega | (simp_all; done) | (simp_all; omega))
    exact .finE [.r []] [] (fun z0 => (VI z0, [])) (2 : Int) ((checkX l) : Int) e2
   ·
    (try simp only [decide_eq_true_eq, decide_eq_false_iff_not, Int.not_lt, Int.not_le, gt_iff_lt, Bool.or_eq_true, Bool.or_eq_false_iff] at h7)
    refine .br [.r [(5, Xv 1 (decide ((i : Int) > 0)) (Xn ((i : Int) - 1))), (6, Xv 2 (decide ((i : Int) > 0)) (Xi' stepT l ((i : Int) - 1) (i - 1))), (7, Xv 1 (decide ((i : Int) > 0)) X0), (8, Xv 1 (decide ((i : Int) > 0)) X0), (10, Xv 1 (decide ((i : Int) > 0)) X0), (11, Xv 2 (decide ((i : Int) > 0)) X0), (12, Xv 1 (decide ((i : Int) > 0)) X0), (15, Xv 1 ((decide ((i : Int) > 0)) && !((((l.getD (i - 1) default)).kind) == (((l.getD i default)).kind))) (Xn ((i : Int) - 1))), (16, Xv 2 ((decide ((i : Int) > 0)) && !((((l.getD (i - 1) default)).kind) == (((l.getD i default)).kind))) (Xi' stepT l ((i : Int) - 1) (i - 1))), (17, Xv 1 ((decide ((i : Int) > 0)) && !((((l.getD (i - 1) default)).kind) == (((l.getD i default)).kind))) X0), (18, Xv 1 ((decide ((i : Int) > 0)) && !((((l.getD (i - 1) default)).kind) == (((l.getD i default)).kind))) X0), (19, Xv 1 ((decide ((i : Int) > 0)) && !((((l.getD (i - 1) default)).kind) == (((l.getD i default)).kind))) X0), (20, Xv 1 ((decide ((i : Int) > 0)) && !((((l.getD (i - 1) default)).kind) == (((l.getD i default)).kind))) X0), (22, Xv 1 (((decide ((i : Int) > 0)) && !((((l.getD (i - 1) default)).kind) == (((l.getD i default)).kind))) && ((((l.getD (i - 1) default)).kind) == 2)) X0), (23, Xv 1 (((decide ((i : Int) > 0)) && !((((l.getD (i - 1) default)).kind) == (((l.getD i default)).kind))) && ((((l.getD (i - 1) default)).kind) == 2)) X0), (24, Xka ((decide ((i : Int) > 0)) && !((((l.getD (i - 1) default)).kind) == (((l.getD i default)).kind))) ((((l.getD (i - 1) default)).kind) == 2)), (25, Xko (decide ((i : Int) > 0)) ((((l.getD (i - 1) default)).kind) == (((l.getD i default)).kind))), (26, X (Xk (decide ((i : Int) > 0))))]] (decide ((i : Int) > 0) && (((((l.getD (i - 1) default)).kind) == (((l.getD i default)).kind)) || (((((l.getD (i - 1) default)).kind) == 2) && ((((l.getD i default)).kind) == 1)))) (fun h9 => ?_) (fun h9 => ?_)
    ·
     (try simp only [decide_eq_true_eq, decide_eq_false_iff_not, Int.not_lt, Int.not_le, gt_iff_lt, Bool.and_eq_true, Bool.and_eq_false_iff, Bool.not_eq_true', Bool.not_eq_false', Bool.or_eq_true, Bool.or_eq_false_iff, beq_iff_eq, beq_eq_false_iff_ne, ne_eq] at h9)
     have e3 : ((checkX l) : Int) = 5 := by
      rw [I3.2.2.2.2.2, chkX]; ((repeat' split) <;> first | rfl | omega | (simp_all; done) | (simp_all; omega))
     exact .finE [.r []] [] (fun z0 => (VI z0, [])) (5 : Int) ((checkX l) : Int) e3
    ·
     (try simp only [decide_eq_true_eq, decide_eq_false_iff_not, Int.not_lt, Int.not_le, gt_iff_lt, Bool.and_eq_true, Bool.and_eq_false_iff, Bool.not_eq_true', Bool.not_eq_false', Bool.or_eq_true, Bool.or_eq_false_iff, beq_iff_eq, beq_eq_false_iff_ne, ne_eq] at h9)
     refine .br [.r []] ((((l.getD i default)).kind) != 1) (fun h11 => ?_) (fun h11 => ?_)
     ·
      (try simp only [bne_iff_ne, bne_eq_false_iff_eq, ne_eq] at h11)
      refine .br [.r [(3, X (Xn (b + (((l.getD i default)).n)))), (4, X (Xmin (b + (((l.getD i default)).n)) 2147483648))], .r []] ((((l.getD i default)).kind) != 2) (fun h13 => ?_) (fun h13 => ?_)
      ·
       (try simp only [bne_iff_ne, bne_eq_false_iff_eq, ne_eq] at h13)
       refine .at 568 [(80, 80)] ([(0, VL 2 stepT l), (3, VI (min (b + (((l.getD i default)).n)) 2147483648)), (4, VI a), (6, .ptr 80 0), (7, VL 2 stepT l), (8, VI (l.length : Int)), (9, VI (i : Int)), (70, VB ((((l.getD i default)).kind) != 2))], [(80, .box [VI (((l.getD i default)).kind), VI (((l.getD i default)).n)])]) ?_
       refine .back [.r [(3, X (Xn (a + (((l.getD i default)).n)))), (4, X (Xmin (a + (((l.getD i default)).n)) 2147483648))], .r [(0, X (Xn ((i : Int) + 1)))]] [] (ih3 ((min (b + (((l.getD i default)).n)) 2147483648), (min (a + (((l.getD i default)).n)) 2147483648), (i + 1)) ?_ ?_)
       ·
        refine ⟨by omega, by omega, by omega, by omega, by omega, ?_⟩; rw [I3.2.2.2.2.2, chkX]; ((repeat' split) <;> first | rfl | omega | (simp_all; done) | (simp_all; omega))
       ·
        ((try dsimp only); omega)
      ·
       (try simp only [bne_iff_ne, bne_eq_false_iff_eq, ne_eq] at h13)
       refine .at 568 [(80, 80)] ([(0, VL 2 stepT l), (3, VI (min (b + (((l.getD i default)).n)) 2147483648)), (4, VI a), (6, .ptr 80 0), (7, VL 2 stepT l), (8, VI (l.length : Int)), (9, VI (i : Int)), (70, VB ((((l.getD i default)).kind) != 2))], [(80, .box [VI (((l.getD i default)).kind), VI (((l.getD i default)).n)])]) ?_
       refine .back [.r [(0, X (Xn ((i : Int) + 1)))]] [] (ih3 ((min (b + (((l.getD i default)).n)) 2147483648), a, (i + 1)) ?_ ?_)
       ·
        refine ⟨by omega, by omega, by omega, by omega, by omega, ?_⟩; rw [I3.2.2.2.2.2, chkX]; ((repeat' split) <;> first | rfl | omega | (simp_all; done) | (simp_all; omega))
       ·
        ((try dsimp only); omega)
     ·
      (try simp only [bne_iff_ne, bne_eq_false_iff_eq, ne_eq] at h11)
      refine .br [.r []] ((((l.getD i default)).kind) != 2) (fun h13 => ?_) (fun h13 => ?_)
      ·
       (try simp only [bne_iff_ne, bne_eq_false_iff_eq, ne_eq] at h13)
       refine .at 520 [(80, 80)] ([(0, VL 2 stepT l), (3, VI b), (4, VI a), (6, .ptr 80 0), (7, VL 2 stepT l), (8, VI (l.length : Int)), (9, VI (i : Int)), (70, VB ((((l.getD i default)).kind) != 2))], [(80, .box [VI (((l.getD i default)).kind), VI (((l.getD i default)).n)])]) ?_
       refine .back [.r [(3, X (Xn (a + (((l.getD i default)).n)))), (4, X (Xmin (a + (((l.getD i default)).n)) 2147483648))], .r [(0, X (Xn ((i : Int) + 1)))]] [] (ih3 (b, (min (a + (((l.getD i default)).n)) 2147483648), (i + 1)) ?_ ?_)
       ·
        refine ⟨by omega, by omega, by omega, by omega, by omega, ?_⟩; rw [I3.2.2.2.2.2, chkX]; ((repeat' split) <;> first | rfl | omega | (simp_all; done) | (simp_all; omega))
       ·
        ((try dsimp only); omega)
      ·
       (try simp only [bne_iff_ne, bne_eq_false_iff_eq, ne_eq] at h13)
       refine .at 520 [(80, 80)] ([(0, VL 2 stepT l), (3, VI b), (4, VI a), (6, .ptr 80 0), (7, VL 2 stepT l), (8, VI (l.length : Int)), (9, VI (i : Int)), (70, VB ((((l.getD i default)).kind) != 2))], [(80, .box [VI (((l.getD i default)).kind), VI (((l.getD i default)).n)])]) ?_
       refine .back [.r [(0, X (Xn ((i : Int) + 1)))]] [] (ih3 (b, a, (i + 1)) ?_ ?_)
       ·
        refine ⟨by omega, by omega, by omega, by omega, by omega, ?_⟩; rw [I3.2.2.2.2.2, chkX]; ((repeat' split) <;> first | rfl | omega | (simp_all; done) | (simp_all; omega))
       ·
        ((try dsimp only); omega)
 ·
  (try simp only [decide_eq_true_eq, decide_eq_false_iff_not, Int.not_lt, Int.not_le] at h3)
  refine .br [.r [(4, Xv 1 (!(decide (b > 2147483647))) X0), (5, X (Xk' (decide (b > 2147483647))))]] (decide (b > 2147483647) || decide (a > 2147483647)) (fun h16 => ?_) (fun h16 => ?_)
  ·
   (try simp only [decide_eq_true_eq, decide_eq_false_iff_not, Int.not_lt, Int.not_le, gt_iff_lt, Bool.or_eq_true, Bool.or_eq_false_iff] at h16)
   have e4 : ((checkX l) : Int) = 3 := by
    rw [I3.2.2.2.2.2, chkX]; ((repeat' split) <;> first | rfl | omega | (simp_all; done) | (simp_all; omega))
   exact .finE [.r []] [] (fun z0 => (VI z0, [])) (3 : Int) ((checkX l) : Int) e4
  ·
   (try simp only [decide_eq_true_eq, decide_eq_false_iff_not, Int.not_lt, Int.not_le, gt_iff_lt, Bool.or_eq_true, Bool.or_eq_false_iff] at h16)
   have e5 : ((checkX l) : Int) = 0 := by
    rw [I3.2.2.2.2.2, chkX]; ((repeat' split) <;> first | rfl | omega | (simp_all; done) | (simp_all; omega))
   exact .finE [.r []] [] (fun z0 => (VI z0, [])) (0 : Int) ((checkX l) : Int) e5

theorem ex_at {l : List AxStep} {i : Nat} (h : i < l.length) : ex (l.drop i) = rep (l.getD i default).n.toNat (uOf (l.getD i default).kind) ++ ex (l.drop (i + 1)) := by rw [drop_ats h]; rfl
def oldI (l : List AxStep) : Int := (oldU (ex l) : Int)
def newI (l : List AxStep) : Int := (newU (ex l) : Int)
theorem lens_step {l : List AxStep} {i : Nat} (h : i < l.length) (hf : Form l) : (oldU (ex (l.drop i)) : Int) = (if (l.getD i default).kind = 1 then 0 else (l.getD i default).n) + oldU (ex (l.drop (i + 1))) ∧
    (newU (ex (l.drop i)) : Int) = (if (l.getD i default).kind = 2 then 0 else (l.getD i default).n) + newU (ex (l.drop (i + 1))) ∧ 1 ≤ (l.getD i default).n ∧ 0 ≤ (l.getD i default).kind ∧ (l.getD i default).kind ≤ 2 := by
  have h1 := ((at_of_form hf) i (Nat.zero_le _) h).1
  have hn : ((l.getD i default).n.toNat : Int) = (l.getD i default).n := Int.toNat_of_nonneg (by have := h1.2.2; omega)
  rw [ex_at h, old_rep, new_rep, hn]
  exact ⟨rfl, rfl, h1.2.2, h1.1, h1.2.1⟩
theorem ex_end {l : List AxStep} {i : Nat} (h : l.length ≤ i) : ex (l.drop i) = [] := by rw [List.drop_eq_nil_of_le h]; rfl

theorem fc_axLens (l : List AxStep) (hv : Valid l) : FC Try.prog 90 [VL 2 stepT l] (app emp []) (.tup [VI (oldI l), VI (newI l)]) (app emp []) := by
 refine .go Try.f90 ?_
 refine .len 0 (fun hl0 => ?_)
 refine .loop (α := Int × Int × Nat) [.r [], .r [], .r [(1, X (Xl stepT l))]] 56 (fun (b, a, i) => ([(4, VI b), (5, VI a), (8, VL 2 stepT l), (9, VI (l.length : Int)), (10, VI (i : Int))], [])) (fun (b, a, i) => i ≤ l.length ∧ 0 ≤ b ∧ 0 ≤ a ∧ oldI l = b + oldU (ex (l.drop i)) ∧ newI l = a + newU (ex (l.drop i))) (fun (b, a, i) => l.length - i) (0, 0, 0) ?_ ?_
 ·
  exact ⟨by omega, by decide, by decide, by simp [oldI], by simp [newI]⟩
 rintro ⟨b, a, i⟩ I3 ih3
 try dsimp only at I3
 have hv1 : oldI l ≤ 2147483647 := by have := hv.2.1; unfold oldI; omega
 have hv2 : newI l ≤ 2147483647 := by have := hv.2.2; unfold newI; omega
 refine .br [.r []] (decide ((i : Int) < (l.length : Int))) (fun h3 => ?_) (fun h3 => ?_)
 ·
  (try simp only [decide_eq_true_eq, decide_eq_false_iff_not, Int.not_lt, Int.not_le] at h3)
  have hst := lens_step (l := l) (i := i) (by omega) hv.1
  refine .br [.r [(0, X (Xi stepT l (i : Int)))], .r []] ((((l.getD i default)).kind) != 1) (fun h5 => ?_) (fun h5 => ?_)
  ·
   (try simp only [bne_iff_ne, bne_eq_false_iff_eq, ne_eq] at h5)
   refine .br [.r [(3, X (Xn (b + (((l.getD i default)).n))))], .r []] ((((l.getD i default)).kind) != 2) (fun h7 => ?_) (fun h7 => ?_)
   ·
    (try simp only [bne_iff_ne, bne_eq_false_iff_eq, ne_eq] at h7)
    refine .back [.r [(3, X (Xn (a + (((l.getD i default)).n))))], .r [(0, X (Xn ((i : Int) + 1)))]] [] (ih3 ((b + (((l.getD i default)).n)), (a + (((l.getD i default)).n)), (i + 1)) ?_ ?_)
    ·
     obtain ⟨s1, s2, s3, s4, s5⟩ := hst
     first | rw [if_pos (by omega)] at s1 | rw [if_neg (by omega)] at s1
     first | rw [if_pos (by omega)] at s2 | rw [if_neg (by omega)] at s2
     refine ⟨by omega, by omega, by omega, by omega, by omega⟩
    ·
     ((try dsimp only); omega)
   ·
    (try simp only [bne_iff_ne, bne_eq_false_iff_eq, ne_eq] at h7)
    refine .back [.r [(0, X (Xn ((i : Int) + 1)))]] [] (ih3 ((b + (((l.getD i default)).n)), a, (i + 1)) ?_ ?_)
    ·
     obtain ⟨s1, s2, s3, s4, s5⟩ := hst
     first | rw [if_pos (by omega)] at s1 | rw [if_neg (by omega)] at s1
     first | rw [if_pos (by omega)] at s2 | rw [if_neg (by omega)] at s2
     refine ⟨by omega, by omega, by omega, by omega, by omega⟩
    ·
     ((try dsimp only); omega)
  ·
   (try simp only [bne_iff_ne, bne_eq_false_iff_eq, ne_eq] at h5)
   refine .br [.r []] ((((l.getD i default)).kind) != 2) (fun h7 => ?_) (fun h7 => ?_)
   ·
    (try simp only [bne_iff_ne, bne_eq_false_iff_eq, ne_eq] at h7)
    refine .back [.r [(3, X (Xn (a + (((l.getD i default)).n))))], .r [(0, X (Xn ((i : Int) + 1)))]] [] (ih3 (b, (a + (((l.getD i default)).n)), (i + 1)) ?_ ?_)
    ·
     obtain ⟨s1, s2, s3, s4, s5⟩ := hst
     first | rw [if_pos (by omega)] at s1 | rw [if_neg (by omega)] at s1
     first | rw [if_pos (by omega)] at s2 | rw [if_neg (by omega)] at s2
     refine ⟨by omega, by omega, by omega, by omega, by omega⟩
    ·
     ((try dsimp only); omega)
   ·
    (try simp only [bne_iff_ne, bne_eq_false_iff_eq, ne_eq] at h7)
    refine .back [.r [(0, X (Xn ((i : Int) + 1)))]] [] (ih3 (b, a, (i + 1)) ?_ ?_)
    ·
     obtain ⟨s1, s2, s3, s4, s5⟩ := hst
     first | rw [if_pos (by omega)] at s1 | rw [if_neg (by omega)] at s1
     first | rw [if_pos (by omega)] at s2 | rw [if_neg (by omega)] at s2
     refine ⟨by omega, by omega, by omega, by omega, by omega⟩
    ·
     ((try dsimp only); omega)
 ·
  (try simp only [decide_eq_true_eq, decide_eq_false_iff_not, Int.not_lt, Int.not_le] at h3)
  have e1 : ((oldI l) : Int) = b := by
   have := ex_end (l := l) (i := i) (by omega)
   rw [this] at I3
   have i1 := I3.2.2.2.1
   have i2 := I3.2.2.2.2
   simp only [oldU, newU] at i1 i2
   omega
  have e2 : ((newI l) : Int) = a := by
   have := ex_end (l := l) (i := i) (by omega)
   rw [this] at I3
   have i1 := I3.2.2.2.1
   have i2 := I3.2.2.2.2
   simp only [oldU, newU] at i1 i2
   omega
  exact .finE [.r []] [] (fun (z0, z1) => (.tup [VI z0, VI z1], [])) ((b : Int), (a : Int)) (((oldI l) : Int), ((newI l) : Int)) (pr e1 e2)

theorem fc_axLengths (l : List AxStep) (hv : Valid l) : FC Try.prog 38 [VL 2 stepT l] (app emp []) (.tup [VI (oldI l), VI (newI l), VI 0]) (app emp []) := by
 refine .go Try.f38 ?_
 refine .len 0 (fun hl0 => ?_)
 have hc := check_iff.2 hv
 refine .br [.r [], .r [(1, X (Xc0 (fc_axCheck l) X0))], .r []] ((checkX l) != 0) (fun h2 => ?_) (fun h2 => ?_)
 ·
  (try simp only [bne_iff_ne, bne_eq_false_iff_eq, ne_eq] at h2)
  exfalso
  omega
 ·
  (try simp only [bne_iff_ne, bne_eq_false_iff_eq, ne_eq] at h2)
  exact .fin [.r [(1, X (Xc0 (fc_axLens l (by assumption)) X0))], .r []] []

def sameX (a b : List AxStep) (i : Nat) : Bool :=
  if i < a.length then (if (a.getD i default).kind = (b.getD i default).kind ∧ (a.getD i default).n = (b.getD i default).n then sameX a b (i + 1) else false) else true
termination_by a.length - i
def sameS (a b : List AxStep) : Bool := decide (a.length = b.length) && sameX a b 0
def kindR (l : List AxStep) : Int := if l.length = 0 then -1 else (l.getD 0 default).kind
def tkS (l : List AxStep) (u n : Int) : List AxStep := if u + n = (l.getD 0 default).n then l.drop 1 else l
def tkU (l : List AxStep) (u n : Int) : Int := if u + n = (l.getD 0 default).n then 0 else u + n

end Go.Ch
end
section
set_option linter.unusedVariables false
set_option linter.unusedSimpArgs false
namespace Go.Ch
open Go Go.Ab

theorem tk_len (l : List AxStep) (u n : Int) : (ex (tkS l u n)).length ≤ (ex l).length := by
  unfold tkS
  split
  · cases l with
    | nil => simp
    | cons s l => simp [ex]
  · exact Nat.le_refl _
theorem tk_ok {l : List AxStep} {u n : Int} (h : GoodR l u) (h0 : 0 < l.length) (hn : 0 ≤ n) (hl : n ≤ (l.getD 0 default).n - u) :
    GoodR (tkS l u n) (tkU l u n) ∧ rep n.toNat (uOf (l.getD 0 default).kind) ++ ru (tkS l u n) (tkU l u n) = ru l u := by
  obtain ⟨a, b⟩ := h.take h0 hn hl
  unfold tkS tkU
  by_cases e : u + n = (l.getD 0 default).n
  · rw [if_pos e, if_pos e]; exact a e
  · rw [if_neg e, if_neg e]; exact b e

structure JI (w : Wr) (ps : List AxStep) (pu : Int) (qs : List AxStep) (qu : Int) (T : Nat) (G : Wr) : Prop where
  gw : GoodW w
  gp : GoodR ps pu
  gq : GoodR qs qu
  eq : newU (ru ps pu) = oldU (ru qs qu)
  len : (exW w).length + (ru ps pu).length + (ru qs qu).length ≤ T
  fin : foldW w (joinU (ru ps pu) (ru qs qu)) = G
  lp : (ex ps).length ≤ T
  lq : (ex qs).length ≤ T
def jm (ps : List AxStep) (pu : Int) (qs : List AxStep) (qu : Int) : Nat := (ru ps pu).length + (ru qs qu).length
theorem len_rep {n : Int} {k : Int} {u v : List U} (hn : 0 ≤ n) (h : rep n.toNat (uOf k) ++ u = v) : (u.length : Int) + n = v.length := by
  have := congrArg List.length h
  simp only [List.length_append, List.length_replicate] at this
  omega
section
variable {w : Wr} {ps qs : List AxStep} {pu qu : Int} {T : Nat} {G : Wr}
theorem JI.cut (h : JI w ps pu qs qu T G) (h0 : 0 < ps.length) (hk : (ps.getD 0 default).kind = 2) :
    JI (putW w 2 ((ps.getD 0 default).n - pu)) (tkS ps pu ((ps.getD 0 default).n - pu)) (tkU ps pu ((ps.getD 0 default).n - pu)) qs qu T G ∧
    jm (tkS ps pu ((ps.getD 0 default).n - pu)) (tkU ps pu ((ps.getD 0 default).n - pu)) qs qu < jm ps pu qs qu := by
  have hl := h.gp.lt h0
  obtain ⟨g, e⟩ := tk_ok (n := (ps.getD 0 default).n - pu) h.gp h0 (by omega) (Int.le_refl _)
  have tl := tk_len ps pu ((ps.getD 0 default).n - pu)
  generalize hn : (ps.getD 0 default).n - pu = n at *
  generalize tkS ps pu n = ps' at *
  generalize tkU ps pu n = pu' at *
  rw [hk, uOf2] at e
  have e2 := len_rep (k := 2) (by omega) e
  obtain ⟨p1, p2, p3⟩ := putW_ok (k := 2) (n := n) h.gw (by decide) (by omega)
  have hlen := h.len
  refine ⟨⟨p1, g, h.gq, ?_, by omega, ?_, Nat.le_trans tl h.lp, h.lq⟩, by unfold jm; omega⟩
  · rw [← h.eq, ← e, new_C]
  · rw [← h.fin, ← e, jc_C, foldW_app, ← uOf2, putI (by decide) (by omega)]
theorem JI.add (h : JI w ps pu qs qu T G) (hp : 0 < ps.length → (ps.getD 0 default).kind ≠ 2) (h0 : 0 < qs.length) (hk : (qs.getD 0 default).kind = 1) :
    JI (putW w 1 ((qs.getD 0 default).n - qu)) ps pu (tkS qs qu ((qs.getD 0 default).n - qu)) (tkU qs qu ((qs.getD 0 default).n - qu)) T G ∧
    jm ps pu (tkS qs qu ((qs.getD 0 default).n - qu)) (tkU qs qu ((qs.getD 0 default).n - qu)) < jm ps pu qs qu := by
  have hl := h.gq.lt h0
  obtain ⟨g, e⟩ := tk_ok (n := (qs.getD 0 default).n - qu) h.gq h0 (by omega) (Int.le_refl _)
  have tl := tk_len qs qu ((qs.getD 0 default).n - qu)
  generalize hn : (qs.getD 0 default).n - qu = n at *
  generalize tkS qs qu n = qs' at *
  generalize tkU qs qu n = qu' at *
  rw [hk, uOf1] at e
  have e2 := len_rep (k := 1) (by omega) e
  obtain ⟨p1, p2, p3⟩ := putW_ok (k := 1) (n := n) h.gw (by decide) (by omega)
  have hlen := h.len
  refine ⟨⟨p1, h.gp, g, ?_, by omega, ?_, h.lp, Nat.le_trans tl h.lq⟩, by unfold jm; omega⟩
  · rw [h.eq, ← e, old_A]
  · rw [← h.fin, ← e, jc_A _ (noC_ru h.gp hp), foldW_app, ← uOf1, putI (by decide) (by omega)]
theorem JI.two (h : JI w ps pu qs qu T G) (hp : 0 < ps.length → (ps.getD 0 default).kind ≠ 2) (hq : 0 < qs.length → (qs.getD 0 default).kind ≠ 1) (h0 : 0 < ps.length ∨ 0 < qs.length) : 0 < ps.length ∧ 0 < qs.length := by
  have heq := h.eq
  by_cases a : 0 < ps.length
  · refine ⟨a, ?_⟩
    by_cases b : 0 < qs.length
    · exact b
    · exfalso
      rw [ru_nil (l := qs) (by omega), ru_cons h.gp a] at heq
      have := new_rep ((ps.getD 0 default).n - pu).toNat (ps.getD 0 default).kind (ex (ps.drop 1))
      rw [if_neg (hp a)] at this
      have := h.gp.lt a
      simp only [oldU] at heq
      omega
  · exfalso
    have b : 0 < qs.length := by omega
    rw [ru_nil (l := ps) (by omega), ru_cons h.gq b] at heq
    have := old_rep ((qs.getD 0 default).n - qu).toNat (qs.getD 0 default).kind (ex (qs.drop 1))
    rw [if_neg (hq b)] at this
    have := h.gq.lt b
    simp only [newU] at heq
    omega
theorem JI.both (h : JI w ps pu qs qu T G) (a : 0 < ps.length) (b : 0 < qs.length) (hp : (ps.getD 0 default).kind ≠ 2) (hq : (qs.getD 0 default).kind ≠ 1) {n : Int} (hn : n = min ((ps.getD 0 default).n - pu) ((qs.getD 0 default).n - qu)) :
    JI (if (ps.getD 0 default).kind = 0 then putW w (qs.getD 0 default).kind n else if (qs.getD 0 default).kind = 0 then putW w 1 n else w) (tkS ps pu n) (tkU ps pu n) (tkS qs qu n) (tkU qs qu n) T G ∧
    jm (tkS ps pu n) (tkU ps pu n) (tkS qs qu n) (tkU qs qu n) < jm ps pu qs qu := by
  have hl := h.gp.lt a
  have hl2 := h.gq.lt b
  have okp := h.gp.ok a
  have okq := h.gq.ok b
  obtain ⟨g1, e1⟩ := tk_ok (n := n) h.gp a (by omega) (by omega)
  obtain ⟨g2, e2⟩ := tk_ok (n := n) h.gq b (by omega) (by omega)
  have tl1 := tk_len ps pu n
  have tl2 := tk_len qs qu n
  have n0 : 1 ≤ n := by omega
  clear hn
  generalize tkS ps pu n = ps' at *
  generalize tkU ps pu n = pu' at *
  generalize tkS qs qu n = qs' at *
  generalize tkU qs qu n = qu' at *
  have l1 := len_rep (by omega) e1
  have l2 := len_rep (by omega) e2
  have hlen := h.len
  have heq := h.eq
  have hfin := h.fin
  rw [← e1, ← e2] at heq hfin
  have t1 := new_rep n.toNat (ps.getD 0 default).kind (ru ps' pu')
  have t2 := old_rep n.toNat (qs.getD 0 default).kind (ru qs' qu')
  rw [if_neg hp] at t1
  rw [if_neg hq] at t2
  have heq' : newU (ru ps' pu') = oldU (ru qs' qu') := by omega
  refine ⟨?_, by unfold jm; omega⟩
  by_cases kp : (ps.getD 0 default).kind = 0
  · rw [if_pos kp]
    obtain ⟨p1, p2, p3⟩ := putW_ok (k := (qs.getD 0 default).kind) (n := n) h.gw ⟨okq.1, okq.2.1⟩ (by omega)
    refine ⟨p1, g1, g2, heq', by omega, ?_, Nat.le_trans tl1 h.lp, Nat.le_trans tl2 h.lq⟩
    rw [kp, uOf0, jc_K _ _ hq, foldW_app, putI ⟨okq.1, okq.2.1⟩ (by omega)] at hfin
    exact hfin
  · rw [if_neg kp]
    have kp1 : (ps.getD 0 default).kind = 1 := by have := okp.1; have := okp.2.1; omega
    rw [kp1, uOf1] at hfin
    by_cases kq : (qs.getD 0 default).kind = 0
    · rw [if_pos kq]
      obtain ⟨p1, p2, p3⟩ := putW_ok (k := 1) (n := n) h.gw (by decide) (by omega)
      refine ⟨p1, g1, g2, heq', by omega, ?_, Nat.le_trans tl1 h.lp, Nat.le_trans tl2 h.lq⟩
      rw [kq, uOf0, jc_AK, foldW_app, ← uOf1, putI (by decide) (by omega)] at hfin
      exact hfin
    · rw [if_neg kq]
      have kq2 : (qs.getD 0 default).kind = 2 := by have := okq.1; have := okq.2.1; omega
      refine ⟨h.gw, g1, g2, heq', by omega, ?_, Nat.le_trans tl1 h.lp, Nat.le_trans tl2 h.lq⟩
      rw [kq2, uOf2, jc_AC] at hfin
      exact hfin
theorem JI.done (h : JI w ps pu qs qu T G) (a : ps.length = 0) (b : qs.length = 0) : w = G := by
  have := h.fin
  rw [ru_nil a, ru_nil b] at this
  simpa [joinU, foldW] using this
end
def joinX (a b : List AxStep) : List AxStep := doneW (joinU (ex a) (ex b))
theorem JI.start {a b : List AxStep} (va : Valid a) (vb : Valid b) (hm : newI a = oldI b) : JI ⟨[], 0, 0⟩ a 0 b 0 ((ex a).length + (ex b).length) (foldW ⟨[], 0, 0⟩ (joinU (ex a) (ex b))) ∧ (ex a).length + (ex b).length ≤ 8589934588 := by
  have h1 := ex_len a
  have h2 := ex_len b
  refine ⟨⟨good0, good_r va.1, good_r vb.1, ?_, by rw [ru0, ru0]; simp [exW, ex], by rw [ru0, ru0], by omega, by omega⟩, by have := va.2.1; have := va.2.2; have := vb.2.1; have := vb.2.2; omega⟩
  rw [ru0, ru0]; unfold newI oldI at hm; omega

/-! ### Two writers -/
structure PI (x y : Wr) (ps : List AxStep) (pu : Int) (qs : List AxStep) (qu : Int) (T : Nat) (G1 G2 : Wr) : Prop where
  gx : GoodW x
  gy : GoodW y
  gp : GoodR ps pu
  gq : GoodR qs qu
  eq : oldU (ru ps pu) = oldU (ru qs qu)
  len1 : (exW x).length + (ru ps pu).length + (ru qs qu).length ≤ T
  len2 : (exW y).length + (ru ps pu).length + (ru qs qu).length ≤ T
  fin1 : foldW x (pairU (ru ps pu) (ru qs qu)).1 = G1
  fin2 : foldW y (pairU (ru ps pu) (ru qs qu)).2 = G2
  lp : (ex ps).length ≤ T
  lq : (ex qs).length ≤ T
section
variable {x y : Wr} {ps qs : List AxStep} {pu qu : Int} {T : Nat} {G1 G2 : Wr}
theorem PI.two (h : PI x y ps pu qs qu T G1 G2) (hp : 0 < ps.length → (ps.getD 0 default).kind ≠ 1) (hq : 0 < qs.length → (qs.getD 0 default).kind ≠ 1) (h0 : 0 < ps.length ∨ 0 < qs.length) : 0 < ps.length ∧ 0 < qs.length := by
  have heq := h.eq
  by_cases a : 0 < ps.length
  · refine ⟨a, ?_⟩
    by_cases b : 0 < qs.length
    · exact b
    · exfalso
      rw [ru_nil (l := qs) (by omega), ru_cons h.gp a] at heq
      have := old_rep ((ps.getD 0 default).n - pu).toNat (ps.getD 0 default).kind (ex (ps.drop 1))
      rw [if_neg (hp a)] at this
      have := h.gp.lt a
      simp only [oldU] at heq
      omega
  · exfalso
    have b : 0 < qs.length := by omega
    rw [ru_nil (l := ps) (by omega), ru_cons h.gq b] at heq
    have := old_rep ((qs.getD 0 default).n - qu).toNat (qs.getD 0 default).kind (ex (qs.drop 1))
    rw [if_neg (hq b)] at this
    have := h.gq.lt b
    simp only [oldU] at heq
    omega
theorem PI.both (h : PI x y ps pu qs qu T G1 G2) (a : 0 < ps.length) (b : 0 < qs.length) (hp : (ps.getD 0 default).kind ≠ 1) (hq : (qs.getD 0 default).kind ≠ 1) {n : Int} (hn : n = min ((ps.getD 0 default).n - pu) ((qs.getD 0 default).n - qu)) :
    PI (if (qs.getD 0 default).kind = 0 then putW x (ps.getD 0 default).kind n else x) (if (ps.getD 0 default).kind = 0 then putW y (qs.getD 0 default).kind n else y) (tkS ps pu n) (tkU ps pu n) (tkS qs qu n) (tkU qs qu n) T G1 G2 ∧
    jm (tkS ps pu n) (tkU ps pu n) (tkS qs qu n) (tkU qs qu n) < jm ps pu qs qu := by
  have hl := h.gp.lt a
  have hl2 := h.gq.lt b
  have okp := h.gp.ok a
  have okq := h.gq.ok b
  obtain ⟨g1, e1⟩ := tk_ok (n := n) h.gp a (by omega) (by omega)
  obtain ⟨g2, e2⟩ := tk_ok (n := n) h.gq b (by omega) (by omega)
  have tl1 := tk_len ps pu n
  have tl2 := tk_len qs qu n
  have n0 : 1 ≤ n := by omega
  clear hn
  generalize tkS ps pu n = ps' at *
  generalize tkU ps pu n = pu' at *
  generalize tkS qs qu n = qs' at *
  generalize tkU qs qu n = qu' at *
  have l1 := len_rep (by omega) e1
  have l2 := len_rep (by omega) e2
  have hlen := h.len1
  have hlen2 := h.len2
  have heq := h.eq
  have f1 := h.fin1
  have f2 := h.fin2
  rw [← e1, ← e2, pc_XX _ _ _ hp hq] at f1 f2
  rw [← e1, ← e2] at heq
  have t1 := old_rep n.toNat (ps.getD 0 default).kind (ru ps' pu')
  have t2 := old_rep n.toNat (qs.getD 0 default).kind (ru qs' qu')
  rw [if_neg hp] at t1
  rw [if_neg hq] at t2
  have heq' : oldU (ru ps' pu') = oldU (ru qs' qu') := by omega
  obtain ⟨p1, p2, p3⟩ := putW_ok (k := (ps.getD 0 default).kind) (n := n) h.gx ⟨okp.1, okp.2.1⟩ (by omega)
  obtain ⟨r1, r2, r3⟩ := putW_ok (k := (qs.getD 0 default).kind) (n := n) h.gy ⟨okq.1, okq.2.1⟩ (by omega)
  have kq : (qs.getD 0 default).kind = 0 ∨ (qs.getD 0 default).kind = 2 := by have := okq.1; have := okq.2.1; omega
  have kp : (ps.getD 0 default).kind = 0 ∨ (ps.getD 0 default).kind = 2 := by have := okp.1; have := okp.2.1; omega
  refine ⟨⟨?_, ?_, g1, g2, heq', ?_, ?_, ?_, ?_, Nat.le_trans tl1 h.lp, Nat.le_trans tl2 h.lq⟩, by unfold jm; omega⟩
  · split; exact p1; exact h.gx
  · split; exact r1; exact h.gy
  · split <;> omega
  · split <;> omega
  · rcases kq with k | k
    · rw [if_neg (show ¬ (qs.getD 0 default).kind = 2 by omega), foldW_app, putI ⟨okp.1, okp.2.1⟩ (by omega)] at f1; rw [if_pos k]; exact f1
    · rw [if_pos k] at f1; rw [if_neg (show ¬ (qs.getD 0 default).kind = 0 by omega)]; exact f1
  · rcases kp with k | k
    · rw [if_neg (show ¬ (ps.getD 0 default).kind = 2 by omega), foldW_app, putI ⟨okq.1, okq.2.1⟩ (by omega)] at f2; rw [if_pos k]; exact f2
    · rw [if_pos k] at f2; rw [if_neg (show ¬ (ps.getD 0 default).kind = 0 by omega)]; exact f2
theorem PI.done (h : PI x y ps pu qs qu T G1 G2) (a : ps.length = 0) (b : qs.length = 0) : x = G1 ∧ y = G2 := by
  have f1 := h.fin1
  have f2 := h.fin2
  rw [ru_nil a, ru_nil b] at f1 f2
  simp only [pairU, foldW] at f1 f2
  exact ⟨f1, f2⟩
end
def pairX1 (a b : List AxStep) : List AxStep := doneW (pairU (ex a) (ex b)).1
def pairX2 (a b : List AxStep) : List AxStep := doneW (pairU (ex a) (ex b)).2
theorem PI.start {a b : List AxStep} (va : Valid a) (vb : Valid b) (hm : oldI a = oldI b) : PI ⟨[], 0, 0⟩ ⟨[], 0, 0⟩ a 0 b 0 ((ex a).length + (ex b).length) (foldW ⟨[], 0, 0⟩ (pairU (ex a) (ex b)).1) (foldW ⟨[], 0, 0⟩ (pairU (ex a) (ex b)).2) ∧ (ex a).length + (ex b).length ≤ 8589934588 := by
  have h1 := ex_len a
  have h2 := ex_len b
  refine ⟨⟨good0, good0, good_r va.1, good_r vb.1, ?_, by rw [ru0, ru0]; simp [exW, ex], by rw [ru0, ru0]; simp [exW, ex], by rw [ru0, ru0], by rw [ru0, ru0], by omega, by omega⟩, by have := va.2.1; have := va.2.2; have := vb.2.1; have := vb.2.2; omega⟩
  rw [ru0, ru0]; unfold oldI at hm; omega

/-! ### Undo -/
def swU : U → U
  | .K => .K
  | .A => .C
  | .C => .A
def undoX (a : List AxStep) : List AxStep := doneW ((ex a).map swU)
theorem swU_kind {k : Int} (h : 0 ≤ k ∧ k ≤ 2) : swU (uOf k) = uOf (([0, 2, 1] : List Int).getD k.toNat default) ∧ 0 ≤ ([0, 2, 1] : List Int).getD k.toNat default ∧ ([0, 2, 1] : List Int).getD k.toNat default ≤ 2 := by
  have : k = 0 ∨ k = 1 ∨ k = 2 := by omega
  rcases this with rfl | rfl | rfl <;> exact ⟨rfl, by decide, by decide⟩
structure UI (a : List AxStep) (w : Wr) (i : Nat) : Prop where
  gw : GoodW w
  len : (exW w).length + (ex (a.drop i)).length ≤ (ex a).length
  fin : foldW w ((ex (a.drop i)).map swU) = foldW ⟨[], 0, 0⟩ ((ex a).map swU)
theorem UI.start (a : List AxStep) : UI a ⟨[], 0, 0⟩ 0 := ⟨good0, by simp [exW, ex], rfl⟩
theorem UI.next {a : List AxStep} {w : Wr} {i : Nat} (h : UI a w i) (hf : Form a) (hi : i < a.length) : UI a (putW w (([0, 2, 1] : List Int).getD (a.getD i default).kind.toNat default) (a.getD i default).n) (i + 1) ∧
    0 ≤ (a.getD i default).kind ∧ (a.getD i default).kind ≤ 2 ∧ 1 ≤ (a.getD i default).n ∧ ((exW w).length : Int) + (a.getD i default).n ≤ (ex a).length ∧ 0 ≤ ([0, 2, 1] : List Int).getD (a.getD i default).kind.toNat default ∧ ([0, 2, 1] : List Int).getD (a.getD i default).kind.toNat default ≤ 2 := by
  have ok := ((at_of_form hf) i (Nat.zero_le _) hi).1
  obtain ⟨k1, k2, k3⟩ := swU_kind ⟨ok.1, ok.2.1⟩
  have e := ex_at hi
  have hlen := h.len
  rw [e] at hlen
  simp only [List.length_append, List.length_replicate] at hlen
  have hn := ok.2.2
  obtain ⟨p1, p2, p3⟩ := putW_ok (k := ([0, 2, 1] : List Int).getD (a.getD i default).kind.toNat default) (n := (a.getD i default).n) h.gw ⟨k2, k3⟩ (by omega)
  refine ⟨⟨p1, by omega, ?_⟩, ok.1, ok.2.1, hn, by omega, k2, k3⟩
  have f := h.fin
  rw [e, List.map_append, List.map_replicate, k1, foldW_app, putI ⟨k2, k3⟩ (by omega)] at f
  exact f
theorem UI.done {a : List AxStep} {w : Wr} {i : Nat} (h : UI a w i) (hi : a.length ≤ i) : w = foldW ⟨[], 0, 0⟩ ((ex a).map swU) := by
  have f := h.fin
  rw [ex_end hi] at f
  exact f
end Go.Ch
end
section
set_option linter.unusedVariables false
set_option linter.unusedSimpArgs false
set_option maxRecDepth 100000
set_option maxHeartbeats 4000000
open Go Go.Proofs Go.Ab
namespace Go.Ch
end Go.Ch
end
section
set_option linter.unusedVariables false
set_option linter.unusedSimpArgs false
set_option maxRecDepth 100000
set_option maxHeartbeats 4000000
open Go Go.Proofs Go.Ab
namespace Go.Ch
end Go.Ch
end
section
set_option linter.unusedVariables false
set_option linter.unusedSimpArgs false
namespace Go.Ch
open Go Go.Ab

/-! ### Steps of units -/
def segL (u : List Int) (i k : Nat) : List Int := (u.drop i).take (k - i)
structure StI (u : List Int) (i : Nat) (out : List AxStep) : Prop where
  form : Form out
  sw : Sw (ex out) ((u.take i).map uOf)
  link : i < u.length → ∀ t, out.getLast? = some t → (t.kind = 0 ↔ u.getD i default ≠ 0)
/-! ### Fitting changes -/
/-! ### The laws -/
end Go.Ch
end
section
set_option linter.unusedVariables false
set_option linter.unusedSimpArgs false
namespace Go.Ch
open Go Go.Ab

def placeS : List AxStep → Int → Int → Int → Int
  | [], _, _, _ => -1
  | s :: l, p, fr, to => if s.kind = 1 then placeS l p fr (to + s.n) else if s.kind = 0 then (if p < fr + s.n then to + p - fr else placeS l p (fr + s.n) (to + s.n)) else (if p < fr + s.n then -1 else placeS l p (fr + s.n) to)
def gapS : List AxStep → Int → Bool → Int → Int → Int
  | [], _, _, _, to => to
  | s :: l, at_, r, fr, to => gapS l at_ r (if s.kind = 1 then fr else fr + s.n) (if s.kind = 1 ∧ (fr < at_ ∨ (fr = at_ ∧ r = true)) then to + s.n else if s.kind = 0 then to + min s.n (max 0 (at_ - fr)) else to)
def hullS : List AxStep → Int → Int → Int → Int → Int → Int → Int × Int
  | [], _, _, first, last, _, _ => (first, last)
  | s :: l, f, t, first, last, old, now =>
    hullS l f t (if (s.kind = 0 ∧ max f old < min t (old + s.n)) ∧ last = 0 then now + max f old - old else first) (if s.kind = 0 ∧ max f old < min t (old + s.n) then now + min t (old + s.n) - old else last)
      (if s.kind = 1 then old else old + s.n) (if s.kind = 2 then now else now + s.n)

theorem gap_ge : ∀ {l : List AxStep} (hl : Form l) (a : Int) (r : Bool) (fr to : Int), to ≤ gapS l a r fr to
  | [], _, a, r, fr, to => Int.le_refl _
  | s :: l, hl, a, r, fr, to => by
    have ih := gap_ge hl.tail a r (if s.kind = 1 then fr else fr + s.n) (if s.kind = 1 ∧ (fr < a ∨ (fr = a ∧ r = true)) then to + s.n else if s.kind = 0 then to + min s.n (max 0 (a - fr)) else to)
    have hn := hl.head.2.2
    rw [gapS]
    refine Int.le_trans ?_ ih
    split
    · omega
    · split <;> omega
theorem gap_mono : ∀ {l : List AxStep} (hl : Form l) (a fr to to' : Int), to ≤ to' → gapS l a false fr to ≤ gapS l a true fr to'
  | [], _, a, fr, to, to', h => h
  | s :: l, hl, a, fr, to, to', h => by
    have hn := hl.head.2.2
    rw [gapS, gapS]
    refine gap_mono hl.tail a _ _ _ ?_
    by_cases k1 : s.kind = 1
    · by_cases c : fr < a
      · rw [if_pos ⟨k1, .inl c⟩, if_pos ⟨k1, .inl c⟩]; omega
      · have n1 : ¬ (s.kind = 1 ∧ (fr < a ∨ (fr = a ∧ false = true))) := by
          rintro ⟨_, h | h⟩
          · omega
          · cases h.2
        have k0 : ¬ s.kind = 0 := by omega
        rw [if_neg n1, if_neg k0]
        split
        · omega
        · exact h
    · rw [if_neg (show ¬ (s.kind = 1 ∧ (fr < a ∨ (fr = a ∧ false = true))) from fun e => k1 e.1), if_neg (show ¬ (s.kind = 1 ∧ (fr < a ∨ (fr = a ∧ true = true))) from fun e => k1 e.1)]
      split <;> omega
theorem gap_past : ∀ {l : List AxStep} (hl : Form l) (a : Int) (r : Bool) (fr to : Int), a < fr → gapS l a r fr to = to
  | [], _, a, r, fr, to, h => rfl
  | s :: l, hl, a, r, fr, to, h => by
    have hn := hl.head.2.2
    rw [gapS, if_neg (by omega : ¬ (s.kind = 1 ∧ (fr < a ∨ (fr = a ∧ r = true))))]
    rw [gap_past hl.tail a r _ _ (by split <;> omega)]
    split <;> omega
theorem place_ge : ∀ {l : List AxStep} (hl : Form l) (p fr to : Int), 0 ≤ to → fr ≤ p → -1 ≤ placeS l p fr to
  | [], _, p, fr, to, h, _ => by simp [placeS]
  | s :: l, hl, p, fr, to, h, hp => by
    have hn := hl.head.2.2
    rw [placeS]
    split
    · exact place_ge hl.tail p fr _ (by omega) hp
    · split
      · split
        · omega
        · exact place_ge hl.tail p _ _ (by omega) (by omega)
      · split
        · omega
        · exact place_ge hl.tail p _ _ h (by omega)
/-- A row that is kept is behind what is added at its gap. -/
theorem gap_place : ∀ {l : List AxStep} (hl : Form l) (p fr to : Int), fr ≤ p → 0 ≤ placeS l p fr to → gapS l p true fr to ≤ placeS l p fr to
  | [], _, p, fr, to, h, h0 => by simp [placeS] at h0
  | s :: l, hl, p, fr, to, h, h0 => by
    have hn := hl.head.2.2
    have hk := kinds hl.head
    rw [placeS] at h0 ⊢
    rw [gapS]
    by_cases k1 : s.kind = 1
    · rw [if_pos k1] at h0 ⊢
      rw [if_pos k1, if_pos ⟨k1, by rcases Int.lt_or_eq_of_le h with h | h; exact .inl h; exact .inr ⟨h, rfl⟩⟩]
      exact gap_place hl.tail p fr _ h h0
    · rw [if_neg k1] at h0 ⊢
      rw [if_neg k1, if_neg (by omega : ¬ (s.kind = 1 ∧ (fr < p ∨ (fr = p ∧ true = true))))]
      by_cases k0 : s.kind = 0
      · rw [if_pos k0] at h0 ⊢
        rw [if_pos k0]
        by_cases c : p < fr + s.n
        · rw [if_pos c] at h0 ⊢
          rw [gap_past hl.tail p true _ _ (by omega)]; omega
        · rw [if_neg c] at h0 ⊢
          rw [show min s.n (max 0 (p - fr)) = s.n by omega]
          exact gap_place hl.tail p _ _ (by omega) h0
      · rw [if_neg k0] at h0 ⊢
        rw [if_neg k0]
        by_cases c : p < fr + s.n
        · rw [if_pos c] at h0; omega
        · rw [if_neg c] at h0 ⊢
          exact gap_place hl.tail p _ _ (by omega) h0
/-- A gap is behind the kept rows before it. -/
theorem place_gap : ∀ {l : List AxStep} (hl : Form l) (p q fr to : Int), fr ≤ p → p < q → 0 ≤ placeS l p fr to → placeS l p fr to + 1 ≤ gapS l q false fr to
  | [], _, p, q, fr, to, h, hq, h0 => by simp [placeS] at h0
  | s :: l, hl, p, q, fr, to, h, hq, h0 => by
    have hn := hl.head.2.2
    rw [placeS] at h0 ⊢
    rw [gapS]
    by_cases k1 : s.kind = 1
    · rw [if_pos k1] at h0 ⊢
      rw [if_pos k1, if_pos ⟨k1, by omega⟩]
      exact place_gap hl.tail p q fr _ h hq h0
    · rw [if_neg k1] at h0 ⊢
      rw [if_neg k1, if_neg (by omega : ¬ (s.kind = 1 ∧ (fr < q ∨ (fr = q ∧ false = true))))]
      by_cases k0 : s.kind = 0
      · rw [if_pos k0] at h0 ⊢
        rw [if_pos k0]
        by_cases c : p < fr + s.n
        · rw [if_pos c] at h0 ⊢
          have := gap_ge hl.tail q false (fr + s.n) (to + min s.n (max 0 (q - fr)))
          omega
        · rw [if_neg c] at h0 ⊢
          rw [show min s.n (max 0 (q - fr)) = s.n by omega]
          exact place_gap hl.tail p q _ _ (by omega) hq h0
      · rw [if_neg k0] at h0 ⊢
        rw [if_neg k0]
        by_cases c : p < fr + s.n
        · rw [if_pos c] at h0; omega
        · rw [if_neg c] at h0 ⊢
          exact place_gap hl.tail p q _ _ (by omega) hq h0
theorem hull_keep : ∀ {l : List AxStep} (hl : Form l) (f t first last old now : Int), 0 < last → last ≤ now → (hullS l f t first last old now).1 = first ∧ last ≤ (hullS l f t first last old now).2
  | [], _, f, t, first, last, old, now, h, h2 => ⟨rfl, Int.le_refl _⟩
  | s :: l, hl, f, t, first, last, old, now, h, h2 => by
    have hn := hl.head.2.2
    rw [hullS, if_neg (by omega : ¬ ((s.kind = 0 ∧ max f old < min t (old + s.n)) ∧ last = 0))]
    by_cases c : s.kind = 0 ∧ max f old < min t (old + s.n)
    · rw [if_pos c, if_neg (show ¬ s.kind = 2 by omega)]
      have ih := hull_keep hl.tail f t first (now + min t (old + s.n) - old) (if s.kind = 1 then old else old + s.n) (now + s.n) (by omega) (by omega)
      exact ⟨ih.1, by have := ih.2; omega⟩
    · rw [if_neg c]
      exact hull_keep hl.tail f t first last _ _ h (by split <;> omega)
theorem hull_in : ∀ {l : List AxStep} (hl : Form l) (f t first last old now p : Int), 0 ≤ now → old ≤ p → f ≤ p → p < t → (last = 0 ∨ (0 < last ∧ first ≤ now ∧ last ≤ now)) → 0 ≤ placeS l p old now →
    (hullS l f t first last old now).1 ≤ placeS l p old now ∧ placeS l p old now < (hullS l f t first last old now).2
  | [], _, f, t, first, last, old, now, p, h1, h2, h3, h4, h5, h0 => by simp [placeS] at h0
  | s :: l, hl, f, t, first, last, old, now, p, h1, h2, h3, h4, h5, h0 => by
    have hn := hl.head.2.2
    have hk := kinds hl.head
    rw [placeS] at h0 ⊢
    rw [hullS]
    by_cases k1 : s.kind = 1
    · rw [if_pos k1] at h0 ⊢
      rw [if_neg (by omega : ¬ ((s.kind = 0 ∧ max f old < min t (old + s.n)) ∧ last = 0)), if_neg (by omega : ¬ (s.kind = 0 ∧ max f old < min t (old + s.n))), if_pos k1, if_neg (by omega : ¬ s.kind = 2)]
      exact hull_in hl.tail f t first last old _ p (by omega) h2 h3 h4 (by omega) h0
    · rw [if_neg k1] at h0 ⊢
      rw [if_neg k1]
      by_cases k0 : s.kind = 0
      · rw [if_pos k0] at h0 ⊢
        rw [if_neg (by omega : ¬ s.kind = 2)]
        by_cases c : p < old + s.n
        · rw [if_pos c] at h0 ⊢
          have hc : s.kind = 0 ∧ max f old < min t (old + s.n) := ⟨k0, by omega⟩
          rw [if_pos hc]
          have := hull_keep hl.tail f t (if (s.kind = 0 ∧ max f old < min t (old + s.n)) ∧ last = 0 then now + max f old - old else first) (now + min t (old + s.n) - old) (old + s.n) (now + s.n) (by omega) (by omega)
          rw [this.1]
          refine ⟨?_, by have := this.2; omega⟩
          split <;> omega
        · rw [if_neg c] at h0 ⊢
          refine hull_in hl.tail f t _ _ _ _ p (by omega) (by omega) h3 h4 ?_ h0
          by_cases hc : s.kind = 0 ∧ max f old < min t (old + s.n)
          · rw [if_pos hc]
            right
            refine ⟨by omega, ?_, by omega⟩
            split <;> omega
          · rw [if_neg hc, if_neg (by omega : ¬ ((s.kind = 0 ∧ max f old < min t (old + s.n)) ∧ last = 0))]
            omega
      · rw [if_neg k0] at h0 ⊢
        rw [if_neg (by omega : ¬ ((s.kind = 0 ∧ max f old < min t (old + s.n)) ∧ last = 0)), if_neg (by omega : ¬ (s.kind = 0 ∧ max f old < min t (old + s.n))), if_pos (by omega : s.kind = 2)]
        by_cases c : p < old + s.n
        · rw [if_pos c] at h0; omega
        · rw [if_neg c] at h0 ⊢
          exact hull_in hl.tail f t first last _ now p h1 (by omega) h3 h4 h5 h0
theorem place_le : ∀ {l : List AxStep} (hl : Form l) (p fr to : Int), 0 ≤ to → fr ≤ p → placeS l p fr to ≤ to + newU (ex l)
  | [], _, p, fr, to, h, _ => by simp [placeS, ex, newU]; omega
  | s :: l, hl, p, fr, to, h, hp => by
    have hn := hl.head.2.2
    have hnn : (s.n.toNat : Int) = s.n := Int.toNat_of_nonneg (by omega)
    have e : (newU (ex (s :: l)) : Int) = (if s.kind = 2 then (0 : Int) else s.n) + newU (ex l) := by rw [ex, new_rep, hnn]
    have n0 : (newU (ex l) : Int) ≥ 0 := Int.natCast_nonneg _
    rw [placeS, e]
    by_cases k1 : s.kind = 1
    · rw [if_pos k1, if_neg (show ¬ s.kind = 2 by omega)]
      have := place_le hl.tail p fr (to + s.n) (by omega) hp
      omega
    · rw [if_neg k1]
      by_cases k0 : s.kind = 0
      · rw [if_pos k0, if_neg (show ¬ s.kind = 2 by omega)]
        split
        · omega
        · have := place_le hl.tail p (fr + s.n) (to + s.n) (by omega) (by omega)
          omega
      · rw [if_neg k0]
        have h2 : s.kind = 2 := by have := kinds hl.head; omega
        rw [if_pos h2]
        split
        · omega
        · have := place_le hl.tail p (fr + s.n) to h (by omega)
          omega
end Go.Ch
end
section
set_option linter.unusedVariables false
set_option linter.unusedSimpArgs false
namespace Go.Ch
open Go Go.Ab

def axPut (o : List AxStep) (s : DStep) : List AxStep :=
  if s.kind = 0 ∧ 0 < o.length ∧ (o.getD (o.length - 1) default).kind = 0 then o.set (o.length - 1) ⟨(o.getD (o.length - 1) default).kind, (o.getD (o.length - 1) default).n + s.n⟩ else o ++ [⟨s.kind, szD s⟩]
def axF (o : List AxStep) : List DStep → List AxStep
  | [] => o
  | s :: l => axF (axPut o s) l
def axD (d : List DStep) : List AxStep := axF [] d
theorem axF_at {d : List DStep} {i : Nat} (h : i < d.length) (o : List AxStep) : axF o (d.drop i) = axF (axPut o (d.getD i default)) (d.drop (i + 1)) := by rw [dropD h, axF]
theorem axF_end {d : List DStep} {i : Nat} (h : d.length ≤ i) (o : List AxStep) : axF o (d.drop i) = o := by rw [List.drop_eq_nil_of_le h, axF]
def forg : DU → U
  | .K _ => .K
  | .A _ => .A
  | .C => .C
theorem snoc_of {α : Type} [Inhabited α] {o : List α} (h : 0 < o.length) : ∃ o', o = o' ++ [o.getD (o.length - 1) default] := by
  refine ⟨o.dropLast, ?_⟩
  have hne : o ≠ [] := by intro e; rw [e] at h; simp at h
  have := List.dropLast_concat_getLast hne
  rw [List.getLast_eq_getElem] at this
  rw [show o.getD (o.length - 1) default = o[o.length - 1]'(by omega) by simp [List.getD, List.getElem?_eq_getElem (show o.length - 1 < o.length by omega)]]
  exact this.symm
theorem set_snoc {α : Type} {o' : List α} {t x : α} : (o' ++ [t]).set o'.length x = o' ++ [x] := by
  rw [List.set_append, if_neg (by omega), Nat.sub_self]; rfl
theorem map_rep {α β : Type} (f : α → β) (n : Nat) (a : α) : (List.replicate n a).map f = List.replicate n (f a) := by simp
theorem exS_forg {s : DStep} (h : DOk s) : (exS s).map forg = rep (szD s).toNat (uOf s.kind) := by
  unfold exS szD uOf
  have hk := (stepD_sz (step_iff.2 h)).1
  by_cases k1 : s.kind = 1
  · rw [if_pos k1, if_pos k1, if_pos k1, List.map_map]
    rw [show (forg ∘ DU.A) = fun _ : Elem => U.A from rfl, List.map_const', Int.toNat_natCast]
  · rw [if_neg k1, if_neg k1, if_neg k1]
    by_cases k2 : s.kind = 2
    · rw [if_pos k2, if_pos k2, map_rep]; rfl
    · rw [if_neg k2, if_neg k2, map_rep]; rfl
theorem axPut_ex {o : List AxStep} {s : DStep} (h : DOk s) (ho : ∀ t ∈ o, 0 ≤ t.n) : ex (axPut o s) = ex o ++ (exS s).map forg := by
  rw [exS_forg h]
  unfold axPut
  by_cases c : s.kind = 0 ∧ 0 < o.length ∧ (o.getD (o.length - 1) default).kind = 0
  · rw [if_pos c]
    obtain ⟨k, hp, kt⟩ := c
    obtain ⟨o', e⟩ := snoc_of hp
    have hn := ho _ (getD_mem' (l := o) (k := o.length - 1) (by omega))
    generalize o.getD (o.length - 1) default = t at *
    subst e
    rw [show (o' ++ [t]).length - 1 = o'.length by simp, set_snoc, ex_app, ex_app, List.append_assoc]
    congr 1
    have hz : szD s = s.n := by unfold szD; rw [if_neg (by omega)]
    have hs : 0 ≤ s.n := (stepD_sz (step_iff.2 h)).2.1
    simp only [ex, List.append_nil]
    rw [hz, kt, k, Int.toNat_add hn hs, rep_add]
  · rw [if_neg c, ex_app]
    simp [ex]
def AdjK (k k' : Int) : Prop := (k = k' → k' = 0) ∧ ¬ (k = 2 ∧ k' = 1)
theorem adjK_of {s t : DStep} (h : adjD s t = false) : AdjK s.kind t.kind := by
  have hn : ¬ adjD s t = true := by rw [h]; decide
  rw [adjD_yes] at hn
  refine ⟨fun e => Classical.byContradiction fun q => hn (.inl ⟨e, .inl q⟩), fun e => hn (.inr e)⟩
theorem axPut_form {o : List AxStep} {s : DStep} (h : DOk s) (ho : Form o) (ha : ∀ t, o.getLast? = some t → AdjK t.kind s.kind) : Form (axPut o s) ∧ ∀ t, (axPut o s).getLast? = some t → t.kind = s.kind := by
  have hz := stepD_sz (step_iff.2 h)
  unfold axPut
  by_cases c : s.kind = 0 ∧ 0 < o.length ∧ (o.getD (o.length - 1) default).kind = 0
  · rw [if_pos c]
    obtain ⟨k, hp, kt⟩ := c
    obtain ⟨o', e⟩ := snoc_of hp
    have hn := ho.all _ (getD_mem' (l := o) (k := o.length - 1) (by omega))
    generalize o.getD (o.length - 1) default = t at *
    subst e
    rw [show (o' ++ [t]).length - 1 = o'.length by simp, set_snoc]
    refine ⟨form_last ho rfl ?_, ?_⟩
    · have := hn.2.2; simp only; omega
    · intro x hx; simp at hx; subst hx; simp only; omega
  · rw [if_neg c]
    refine ⟨form_snoc ho ⟨by simp only; omega, by simp only; omega, by simp only; omega⟩ (fun t ht => ?_), ?_⟩
    · have hp : 0 < o.length := by cases o with | nil => simp at ht | cons _ _ => simp
      have e : o.getD (o.length - 1) default = t := by
        rw [List.getLast?_eq_getElem?] at ht; simp [List.getD, ht]
      rw [e] at c
      obtain ⟨a1, a2⟩ := ha t ht
      exact nx_mk (fun q => c ⟨a1 q, hp, by rw [q]; exact a1 q⟩) a2
    · intro x hx; simp at hx; subst hx; rfl
theorem axF_ok : ∀ (d : List DStep) (o : List AxStep), DForm d → Form o → (∀ t s, o.getLast? = some t → d.head? = some s → AdjK t.kind s.kind) →
    Form (axF o d) ∧ ex (axF o d) = ex o ++ (exD d).map forg
  | [], o, _, ho, _ => ⟨ho, by simp [axF, exD]⟩
  | s :: d, o, hd, ho, ha => by
    have hs : DOk s := hd.all s (by simp)
    obtain ⟨f1, f2⟩ := axPut_form hs ho (fun t ht => ha t s ht rfl)
    have hd' : DForm d := by cases d with | nil => trivial | cons t d => exact hd.2.2
    obtain ⟨g1, g2⟩ := axF_ok d (axPut o s) hd' f1 (fun t x ht hx => by
      rw [f2 t ht]
      cases d with
      | nil => simp at hx
      | cons y d => simp at hx; subst hx; exact adjK_of hd.2.1)
    refine ⟨g1, ?_⟩
    rw [axF, g2, axPut_ex hs (fun t ht => by have := (ho.all t ht).2.2; omega), exD, List.map_append, List.append_assoc]
theorem forg_lens (us : List DU) : oldU (us.map forg) = oldN us ∧ newU (us.map forg) = newN us := by
  induction us with
  | nil => exact ⟨rfl, rfl⟩
  | cons u us ih => cases u <;> simp [oldU, newU, oldN, newN, forg, ih.1, ih.2]
theorem exD_lens : ∀ {d : List DStep}, (∀ s ∈ d, DOk s) → oldD d = oldN (exD d) ∧ newD d = newN (exD d)
  | [], _ => ⟨rfl, rfl⟩
  | s :: d, h => by
    obtain ⟨i1, i2⟩ := exD_lens (d := d) (fun t ht => h t (by simp [ht]))
    have hs := h s (by simp)
    have hz := stepD_sz (step_iff.2 hs)
    have e : (oldN (exS s) : Int) = oS s ∧ (newN (exS s) : Int) = nS s := by
      unfold exS oS nS szD
      by_cases k1 : s.kind = 1
      · rw [if_pos k1, if_pos k1, if_neg (by omega), if_pos k1, (lens_As _).1, (lens_As _).2]; exact ⟨rfl, rfl⟩
      · rw [if_neg k1, if_neg k1]
        by_cases k2 : s.kind = 2
        · rw [if_pos k2, if_pos k2, (lens_Cs _).1, (lens_Cs _).2]; omega
        · rw [if_neg k2, if_neg k2, if_neg k1, (lens_Ks _ _).1, (lens_Ks _ _).2]; omega
    rw [exD, oldN_app, newN_app, oldD, newD, i1, i2]
    omega
theorem axD_ok {d : List DStep} (h : DValid d) : Valid (axD d) ∧ ex (axD d) = (exD d).map forg ∧ oldI (axD d) = oldD d ∧ newI (axD d) = newD d := by
  obtain ⟨f1, f2⟩ := axF_ok d [] h.1 trivial (fun t s ht _ => by simp at ht)
  have e : ex (axD d) = (exD d).map forg := by unfold axD; rw [f2]; rfl
  obtain ⟨l1, l2⟩ := forg_lens (exD d)
  obtain ⟨m1, m2⟩ := exD_lens h.1.all
  have q1 : oldI (axD d) = oldD d := by unfold oldI; rw [e, l1, m1]
  have q2 : newI (axD d) = newD d := by unfold newI; rw [e, l2, m2]
  have h1 := h.2.1
  have h2 := h.2.2
  unfold oldI at q1
  unfold newI at q2
  exact ⟨⟨f1, by omega, by omega⟩, e, q1, q2⟩
/-! ### Places by units -/
def placeU : List U → Int → Int → Int → Int
  | [], _, _, _ => -1
  | .A :: u, p, fr, to => placeU u p fr (to + 1)
  | .K :: u, p, fr, to => if p = fr then to else placeU u p (fr + 1) (to + 1)
  | .C :: u, p, fr, to => if p = fr then -1 else placeU u p (fr + 1) to
theorem placeU_As (n : Nat) (u : List U) : ∀ (p fr to : Int), placeU (rep n .A ++ u) p fr to = placeU u p fr (to + n) := by
  induction n with
  | zero => intro p fr to; simp [rep]
  | succ n ih => intro p fr to; rw [rep_succ, List.cons_append, placeU, ih]; congr 1; omega
theorem placeU_Ks (n : Nat) (u : List U) : ∀ (p fr to : Int), fr ≤ p → placeU (rep n .K ++ u) p fr to = if p < fr + n then to + p - fr else placeU u p (fr + n) (to + n) := by
  induction n with
  | zero => intro p fr to h; rw [if_neg (by omega)]; simp [rep]
  | succ n ih =>
    intro p fr to h
    rw [rep_succ, List.cons_append, placeU]
    by_cases e : p = fr
    · rw [if_pos e, if_pos (by omega)]; omega
    · rw [if_neg e, ih p (fr + 1) (to + 1) (by omega)]
      by_cases c : p < fr + 1 + n
      · rw [if_pos c, if_pos (by omega)]; omega
      · rw [if_neg c, if_neg (by omega)]; congr 1 <;> omega
theorem placeU_Cs (n : Nat) (u : List U) : ∀ (p fr to : Int), fr ≤ p → placeU (rep n .C ++ u) p fr to = if p < fr + n then -1 else placeU u p (fr + n) to := by
  induction n with
  | zero => intro p fr to h; rw [if_neg (by omega)]; simp [rep]
  | succ n ih =>
    intro p fr to h
    rw [rep_succ, List.cons_append, placeU]
    by_cases e : p = fr
    · rw [if_pos e, if_pos (by omega)]
    · rw [if_neg e, ih p (fr + 1) to (by omega)]
      by_cases c : p < fr + 1 + n
      · rw [if_pos c, if_pos (by omega)]
      · rw [if_neg c, if_neg (by omega)]; congr 1; omega
theorem placeS_ex : ∀ {l : List AxStep}, Form l → ∀ (p fr to : Int), fr ≤ p → placeS l p fr to = placeU (ex l) p fr to
  | [], _, p, fr, to, _ => rfl
  | s :: l, hl, p, fr, to, h => by
    have hn := hl.head.2.2
    have hk := kinds hl.head
    have hnn : (s.n.toNat : Int) = s.n := Int.toNat_of_nonneg (by omega)
    rw [placeS, ex]
    by_cases k1 : s.kind = 1
    · rw [if_pos k1, k1, uOf1, placeU_As, hnn, placeS_ex hl.tail p fr _ h]
    · rw [if_neg k1]
      by_cases k0 : s.kind = 0
      · rw [if_pos k0, k0, uOf0, placeU_Ks _ _ _ _ _ h, hnn]
        split
        · rfl
        · rw [placeS_ex hl.tail p _ _ (by omega)]
      · have k2 : s.kind = 2 := by omega
        rw [if_neg k0, k2, uOf2, placeU_Cs _ _ _ _ _ h, hnn]
        split
        · rfl
        · rw [placeS_ex hl.tail p _ _ (by omega)]
theorem elem_place : ∀ (us : List DU) (f : List Elem) (fr to : Int) (i : Nat), oldN us = f.length → i < (applyU us f).length →
    (∃ e, DU.A e ∈ us ∧ (applyU us f).getD i default = e) ∨ ∃ c : Nat, c < f.length ∧ placeU (us.map forg) (fr + c) fr to = to + i ∧ ((applyU us f).getD i default).char = (f.getD c default).char
  | [], f, fr, to, i, h, h1 => by simp [applyU] at h1
  | .A e :: us, f, fr, to, 0, h, h1 => .inl ⟨e, by simp, by simp [applyU]⟩
  | .A e :: us, f, fr, to, i + 1, h, h1 => by
    rcases elem_place us f fr (to + 1) i (by simpa [oldN] using h) (by simp only [applyU, List.length_cons] at h1; omega) with ⟨x, q1, q2⟩ | ⟨c, q1, q2, q3⟩
    · exact .inl ⟨x, by simp [q1], by simpa [applyU] using q2⟩
    · refine .inr ⟨c, q1, ?_, by simpa [applyU] using q3⟩
      simp only [List.map_cons, forg, placeU]; rw [q2]; omega
  | .K c :: us, [], fr, to, i, h, h1 => by simp [oldN] at h
  | .C :: us, [], fr, to, i, h, h1 => by simp [oldN] at h
  | .K c :: us, x :: f, fr, to, 0, h, h1 => .inr ⟨0, by simp, by simp [forg, placeU], by simp [applyU, chgE]⟩
  | .K c :: us, x :: f, fr, to, i + 1, h, h1 => by
    rcases elem_place us f (fr + 1) (to + 1) i (by simpa [oldN] using h) (by simp only [applyU, List.length_cons] at h1; omega) with ⟨x, q1, q2⟩ | ⟨c, q1, q2, q3⟩
    · exact .inl ⟨x, by simp [q1], by simpa [applyU] using q2⟩
    · refine .inr ⟨c + 1, by simp only [List.length_cons]; omega, ?_, by simpa [applyU] using q3⟩
      simp only [List.map_cons, forg, placeU]
      rw [if_neg (by omega), show fr + ((c + 1 : Nat) : Int) = fr + 1 + c by omega, q2]; omega
  | .C :: us, x :: f, fr, to, i, h, h1 => by
    rcases elem_place us f (fr + 1) to i (by simpa [oldN] using h) (by simpa only [applyU] using h1) with ⟨x, q1, q2⟩ | ⟨c, q1, q2, q3⟩
    · exact .inl ⟨x, by simp [q1], by simpa [applyU] using q2⟩
    · refine .inr ⟨c + 1, by simp only [List.length_cons]; omega, ?_, by simpa [applyU] using q3⟩
      simp only [List.map_cons, forg, placeU]
      rw [if_neg (by omega), show fr + ((c + 1 : Nat) : Int) = fr + 1 + c by omega, q2]
/-! ### What a range leaves, from outside -/
theorem hull_past : ∀ {l : List AxStep} (hl : Form l) (f t first last old now : Int), t ≤ old → hullS l f t first last old now = (first, last)
  | [], _, f, t, first, last, old, now, h => rfl
  | s :: l, hl, f, t, first, last, old, now, h => by
    have hn := hl.head.2.2
    have hc : ¬ (s.kind = 0 ∧ max f old < min t (old + s.n)) := by omega
    rw [hullS, if_neg (fun e => hc e.1), if_neg hc]
    exact hull_past hl.tail f t _ _ _ _ (by split <;> omega)
theorem hull_right : ∀ {l : List AxStep} (hl : Form l) (f t first last old now p : Int), old ≤ p → t ≤ p → last ≤ now → 0 ≤ placeS l p old now → (hullS l f t first last old now).2 ≤ placeS l p old now
  | [], _, f, t, first, last, old, now, p, h1, h2, h3, h0 => by simp [placeS] at h0
  | s :: l, hl, f, t, first, last, old, now, p, h1, h2, h3, h0 => by
    have hn := hl.head.2.2
    have hk := kinds hl.head
    rw [placeS] at h0 ⊢
    rw [hullS]
    by_cases k1 : s.kind = 1
    · rw [if_pos k1] at h0 ⊢
      rw [if_neg (by omega : ¬ ((s.kind = 0 ∧ max f old < min t (old + s.n)) ∧ last = 0)), if_neg (by omega : ¬ (s.kind = 0 ∧ max f old < min t (old + s.n))), if_pos k1, if_neg (by omega : ¬ s.kind = 2)]
      exact hull_right hl.tail f t first last old _ p h1 h2 (by omega) h0
    · rw [if_neg k1] at h0 ⊢
      rw [if_neg k1]
      by_cases k0 : s.kind = 0
      · rw [if_pos k0] at h0 ⊢
        rw [if_neg (by omega : ¬ s.kind = 2)]
        by_cases c : p < old + s.n
        · rw [if_pos c] at h0 ⊢
          rw [hull_past hl.tail _ _ _ _ _ _ (by omega)]
          simp only
          split <;> omega
        · rw [if_neg c] at h0 ⊢
          exact hull_right hl.tail f t _ _ _ _ p (by omega) h2 (by split <;> omega) h0
      · rw [if_neg k0] at h0 ⊢
        rw [if_neg (by omega : ¬ ((s.kind = 0 ∧ max f old < min t (old + s.n)) ∧ last = 0)), if_neg (by omega : ¬ (s.kind = 0 ∧ max f old < min t (old + s.n))), if_pos (by omega : s.kind = 2)]
        by_cases c : p < old + s.n
        · rw [if_pos c] at h0; omega
        · rw [if_neg c] at h0 ⊢
          exact hull_right hl.tail f t first last _ now p (by omega) h2 h3 h0
theorem hull_from : ∀ {l : List AxStep} (hl : Form l) (f t first old now : Int), 0 ≤ now → (hullS l f t first 0 old now).2 = 0 ∨ now ≤ (hullS l f t first 0 old now).1
  | [], _, f, t, first, old, now, h => .inl rfl
  | s :: l, hl, f, t, first, old, now, h => by
    have hn := hl.head.2.2
    have hk := kinds hl.head
    rw [hullS]
    by_cases c : s.kind = 0 ∧ max f old < min t (old + s.n)
    · rw [if_pos ⟨c, rfl⟩, if_pos c, if_neg (by omega), if_neg (by omega)]
      have := hull_keep hl.tail f t (now + max f old - old) (now + min t (old + s.n) - old) (old + s.n) (now + s.n) (by omega) (by omega)
      right; rw [this.1]; omega
    · rw [if_neg (fun e => c e.1), if_neg c]
      rcases hull_from hl.tail f t first (if s.kind = 1 then old else old + s.n) (if s.kind = 2 then now else now + s.n) (by split <;> omega) with q | q
      · exact .inl q
      · right
        refine Int.le_trans ?_ q
        split <;> omega
theorem hull_left : ∀ {l : List AxStep} (hl : Form l) (f t first old now p : Int), 0 ≤ now → old ≤ p → p < f → 0 ≤ placeS l p old now → (hullS l f t first 0 old now).2 = 0 ∨ placeS l p old now < (hullS l f t first 0 old now).1
  | [], _, f, t, first, old, now, p, h1, h2, h3, h0 => by simp [placeS] at h0
  | s :: l, hl, f, t, first, old, now, p, h1, h2, h3, h0 => by
    have hn := hl.head.2.2
    have hk := kinds hl.head
    rw [placeS] at h0 ⊢
    rw [hullS]
    by_cases k1 : s.kind = 1
    · rw [if_pos k1] at h0 ⊢
      rw [if_neg (by omega : ¬ ((s.kind = 0 ∧ max f old < min t (old + s.n)) ∧ (0 : Int) = 0)), if_neg (by omega : ¬ (s.kind = 0 ∧ max f old < min t (old + s.n))), if_pos k1, if_neg (by omega : ¬ s.kind = 2)]
      exact hull_left hl.tail f t first old _ p (by omega) h2 h3 h0
    · rw [if_neg k1] at h0 ⊢
      rw [if_neg k1]
      by_cases k0 : s.kind = 0
      · rw [if_pos k0] at h0 ⊢
        rw [if_neg (by omega : ¬ s.kind = 2)]
        by_cases c : p < old + s.n
        · rw [if_pos c] at h0 ⊢
          by_cases hc : s.kind = 0 ∧ max f old < min t (old + s.n)
          · rw [if_pos ⟨hc, rfl⟩, if_pos hc]
            have := hull_keep hl.tail f t (now + max f old - old) (now + min t (old + s.n) - old) (old + s.n) (now + s.n) (by omega) (by omega)
            right; rw [this.1]; omega
          · rw [if_neg (fun e => hc e.1), if_neg hc]
            rcases hull_from hl.tail f t first (old + s.n) (now + s.n) (by omega) with q | q
            · exact .inl q
            · right; omega
        · rw [if_neg c] at h0 ⊢
          rw [if_neg (by omega : ¬ ((s.kind = 0 ∧ max f old < min t (old + s.n)) ∧ (0 : Int) = 0)), if_neg (by omega : ¬ (s.kind = 0 ∧ max f old < min t (old + s.n)))]
          exact hull_left hl.tail f t first _ _ p (by omega) (by omega) h3 h0
      · rw [if_neg k0] at h0 ⊢
        rw [if_neg (by omega : ¬ ((s.kind = 0 ∧ max f old < min t (old + s.n)) ∧ (0 : Int) = 0)), if_neg (by omega : ¬ (s.kind = 0 ∧ max f old < min t (old + s.n))), if_pos (by omega : s.kind = 2)]
        by_cases c : p < old + s.n
        · rw [if_pos c] at h0; omega
        · rw [if_neg c] at h0 ⊢
          exact hull_left hl.tail f t first _ now p h1 (by omega) h3 h0
/-! ### What the drawn changes add -/
theorem chgF_all {Q : Elem → Prop} {raw : List Int} {tag : ByteArray} (hQ : ∀ i j, Q (insE tag i j)) (n : Nat) : ∀ (k : Nat) (used : Int) (x : Act), (∀ e ∈ x.ins, ∀ y ∈ e, Q y) → ∀ e ∈ (chgF raw tag n k used x).ins, ∀ y ∈ e, Q y := by
  have hi : ∀ i k, ∀ y ∈ insL tag i k, Q y := fun i k y hy => by
    obtain ⟨j, _, rfl⟩ := List.mem_map.1 hy; exact hQ i j
  intro k
  induction k with
  | zero =>
    intro used x hx e he
    simp only [chgF] at he
    rcases List.mem_append.1 he with he | he
    · exact hx e he
    · rw [List.mem_singleton] at he; subst he; exact hi _ _
  | succ k ih =>
    intro used x hx
    simp only [chgF]
    refine ih _ _ (fun e he => ?_)
    rcases List.mem_append.1 he with he | he
    · exact hx e he
    · rw [List.mem_singleton] at he; subst he; exact hi _ _
theorem actR_all {Q : Elem → Prop} {x : Act} (h : ∀ e ∈ x.ins, ∀ y ∈ e, Q y) : ∀ (m i : Nat), x.cut.length - i = m → ∀ e, DU.A e ∈ actR x i → Q e := by
  have hg : ∀ i, ∀ y ∈ x.ins.getD i default, Q y := fun i y hy => by
    by_cases hi : i < x.ins.length
    · exact h _ (getD_mem' hi) y hy
    · rw [show x.ins.getD i default = [] by simp [List.getD, List.getElem?_eq_none (by omega : x.ins.length ≤ i)]; rfl] at hy
      cases hy
  intro m
  induction m with
  | zero =>
    intro i hm e he
    rw [actR, if_neg (by omega)] at he
    obtain ⟨y, hy, q⟩ := List.mem_map.1 he
    cases q; exact hg i _ hy
  | succ m ih =>
    intro i hm e he
    rw [actR, if_pos (by omega)] at he
    rcases List.mem_append.1 he with he | he
    · obtain ⟨y, hy, q⟩ := List.mem_map.1 he
      cases q; exact hg i _ hy
    · rcases List.mem_cons.1 he with he | he
      · split at he <;> cases he
      · exact ih (i + 1) (by omega) e he
theorem chg_char {raw : List Int} {tag : ByteArray} {n : Nat} {d : List DStep} (h : DSw (exD d) (actR (chgX raw tag n) 0)) : ∀ e, DU.A e ∈ exD d → e.char < 97 := fun e he =>
  actR_all (Q := fun e => e.char < 97) (chgF_all (fun i j => by
    have h2 := Int.emod_lt_of_pos ((i : Int) + (j : Int)) (b := 26) (by decide)
    show 65 + ((i : Int) + (j : Int)) % 26 < 97
    omega) n n 0 _ (fun e he => by cases he)) _ 0 rfl e ((dsw_mem h _).1 he)
/-! ### The laws -/
/-- The letters that the laws number their elements with. -/
def abcL (n : Nat) : List Elem := (List.range n).map fun i : Nat => (⟨97 + (i : Int), 0, []⟩ : Elem)
theorem abc_len (n : Nat) : (abcL n).length = n := by simp [abcL]
theorem abc_at {n c : Nat} (h : c < n) : (abcL n).getD c default = ⟨97 + (c : Int), 0, []⟩ := by
  simp [abcL, List.getD, h]
theorem rawD_len {d : List DStep} {f : List Elem} (h : DValid d) (hl : oldD d = f.length) : oldN (exD d) = f.length := by
  have := (exD_lens h.1.all).1; omega
def thrL (d : List DStep) (f t : Int) : List (Int × Int) := if (hullS (axD d) f t 0 0 0 0).1 < (hullS (axD d) f t 0 0 0 0).2 then [hullS (axD d) f t 0 0 0 0] else []
theorem span_law {d : List DStep} {n : Nat} (h : DValid d) (hl : oldD d = n) (hA : ∀ e, DU.A e ∈ exD d → e.char < 97) {fr to : Int} (h0 : 0 ≤ fr) (h1 : fr ≤ to) {i : Nat} (hi : i < (rawD (abcL n) d).length)
    (c0 : 0 ≤ ((rawD (abcL n) d).getD i default).char - 97) (c1 : ((rawD (abcL n) d).getD i default).char - 97 ≤ n - 1) :
    ((hullS (axD d) fr to 0 0 0 0).1 ≤ i ∧ (i : Int) < (hullS (axD d) fr to 0 0 0 0).2) ↔ (fr ≤ ((rawD (abcL n) d).getD i default).char - 97 ∧ ((rawD (abcL n) d).getD i default).char - 97 < to) := by
  obtain ⟨v, e, _, _⟩ := axD_ok h
  rcases elem_place (exD d) (abcL n) 0 0 i (rawD_len h (by rw [abc_len]; exact hl)) hi with ⟨x, q1, q2⟩ | ⟨c, q1, q2, q3⟩
  · have := hA x q1
    unfold rawD at c0
    rw [q2] at c0
    omega
  · rw [abc_len] at q1
    rw [abc_at q1] at q3
    rw [show ((rawD (abcL n) d).getD i default).char = 97 + (c : Int) from q3]
    rw [← e, ← placeS_ex v.1 _ _ _ (by omega)] at q2
    have e2 : (0 : Int) + (c : Int) = c := by omega
    have e3 : (0 : Int) + (i : Int) = i := by omega
    rw [e2, e3] at q2
    have hp : 0 ≤ placeS (axD d) c 0 0 := by omega
    constructor
    · rintro ⟨a, b⟩
      constructor
      · refine Classical.byContradiction fun q => ?_
        rcases hull_left v.1 fr to 0 0 0 c (by omega) (by omega) (by omega) hp with r | r <;> omega
      · refine Classical.byContradiction fun q => ?_
        have := hull_right v.1 fr to 0 0 0 0 c (by omega) (by omega) (by omega) hp
        omega
    · rintro ⟨a, b⟩
      have := hull_in v.1 fr to 0 0 0 0 c (by omega) (by omega) (by omega) (by omega) (.inl rfl) hp
      omega
end Go.Ch
namespace Go.Ch
open Go Go.Ab
theorem dlen : ∀ {d : List DStep}, (∀ s ∈ d, DOk s) → (d.length : Int) ≤ oldD d + newD d
  | [], _ => by simp [oldD, newD]
  | s :: d, h => by
    have ih := dlen (d := d) (fun t ht => h t (by simp [ht]))
    have hs := stepD_sz (step_iff.2 (h s (by simp)))
    rw [List.length_cons, oldD, newD]
    unfold oS nS
    unfold szD at hs ⊢
    by_cases k1 : s.kind = 1
    · simp only [if_pos k1] at hs ⊢; rw [if_neg (by omega)]; omega
    · simp only [if_neg k1] at hs ⊢; split <;> omega
structure AxB (o : List AxStep) (i : Nat) : Prop where
  len : o.length ≤ i
  n : ∀ t ∈ o, 0 ≤ t.n ∧ t.n ≤ 2147483647 * (i : Int)
theorem AxB.start : AxB [] 0 := ⟨Nat.le_refl _, fun t ht => by cases ht⟩
theorem AxB.last {o : List AxStep} {i : Nat} (h : AxB o i) (hp : 0 < o.length) : 0 ≤ (o.getD (o.length - 1) default).n ∧ (o.getD (o.length - 1) default).n ≤ 2147483647 * (i : Int) :=
  h.n _ (getD_mem' (by omega))
theorem AxB.next {o : List AxStep} {i : Nat} {s : DStep} (h : AxB o i) (hz : 0 ≤ szD s ∧ szD s ≤ 2147483647) (hs : 0 ≤ s.n ∧ s.n ≤ 2147483647) : AxB (axPut o s) (i + 1) := by
  have hl := h.len
  unfold axPut
  split
  · rename_i c
    have hq := h.last c.2.1
    refine ⟨by rw [List.length_set]; omega, fun t ht => ?_⟩
    rcases List.mem_or_eq_of_mem_set ht with ht | rfl
    · have := h.n t ht; omega
    · simp only; omega
  · refine ⟨by rw [List.length_append]; simp; omega, fun t ht => ?_⟩
    rcases List.mem_append.1 ht with ht | ht
    · have := h.n t ht; omega
    · rw [List.mem_singleton] at ht; subst ht; simp only; omega
theorem szD_valid {d : List DStep} (h : DValid d) {s : DStep} (hs : s ∈ d) : 0 ≤ szD s ∧ szD s ≤ 2147483647 := by
  have h1 := newD_mem h.1.all s hs
  have h2 := stepD_sz (step_iff.2 (h.1.all s hs))
  have h3 := h.2.2
  unfold nS at h1
  by_cases k2 : s.kind = 2
  · have : szD s = s.n := by unfold szD; rw [if_neg (by omega)]
    omega
  · rw [if_neg k2] at h1; omega
theorem abc_succ (i : Nat) : abcL (i + 1) = abcL i ++ [⟨97 + (i : Int), 0, []⟩] := by simp [abcL, List.range_succ]
theorem abc_an (n k : Nat) : AN k (abcL n) := fun x hx => by
  obtain ⟨i, _, rfl⟩ := List.mem_map.1 hx; simp
theorem abc_ok {n : Nat} (h : n ≤ 26) : partE (abcL n) 0 = 0 := part_iff.2 fun x hx => by
  obtain ⟨i, hi, rfl⟩ := List.mem_map.1 hx
  rw [List.mem_range] at hi
  refine (elemE_c ?_ (.inr ?_) (.inl rfl)).trans (show chkA false [] 0 = 0 by decide +kernel)
  · show ¬ (97 + (i : Int) = 0 ↔ (0 : Int) = 0)
    intro q; have := q.2 rfl; omega
  · show CharP (97 + (i : Int))
    unfold CharP; omega
end Go.Ch
namespace Go.Ch
open Go Go.Ab
theorem rawD_new {d : List DStep} {f : List Elem} (h : DValid d) (hl : oldD d = f.length) : ((rawD f d).length : Int) = newD d := by
  unfold rawD
  rw [applyU_len _ _ (rawD_len h hl), (exD_lens h.1.all).2]
end Go.Ch
end
section
set_option linter.unusedVariables false
set_option linter.unusedSimpArgs false
set_option maxRecDepth 100000
set_option maxHeartbeats 4000000
open Go Go.Proofs Go.Ab
namespace Go.Ch
theorem fc_char (c : Int) : FC Try.prog 151 [VI c] (app emp []) (VB (decide (CharP c))) (app emp []) := by
 refine .go Try.f151 ?_
 have e1 : ((decide (CharP c)) : Bool) = (((((c == 9) || (c == 10)) || (decide (c ≥ 32) && decide (c < 127))) || (decide (c ≥ 160) && decide (c < 55296))) || (decide (c > 57343) && decide (c ≤ 1114111))) := by
  rw [Bool.eq_iff_iff, decide_eq_true_iff]; unfold CharP; simp only [Bool.or_eq_true, Bool.and_eq_true, decide_eq_true_eq, beq_iff_eq]; constructor <;> intro hh <;> omega
 exact .finE [.r [], .r [(4, Xv 1 (!(c == 9)) X0), (5, X (Xk' (c == 9))), (8, Xv 1 (!((c == 9) || (c == 10))) X0), (9, Xv 1 (!((c == 9) || (c == 10))) X0), (11, Xv 1 ((!((c == 9) || (c == 10))) && (decide (c ≥ 32))) X0), (12, Xka (!((c == 9) || (c == 10))) (decide (c ≥ 32))), (13, X (Xk' ((c == 9) || (c == 10)))), (16, Xv 1 (!(((c == 9) || (c == 10)) || (decide (c ≥ 32) && decide (c < 127)))) X0), (17, Xv 1 (!(((c == 9) || (c == 10)) || (decide (c ≥ 32) && decide (c < 127)))) X0), (19, Xv 1 ((!(((c == 9) || (c == 10)) || (decide (c ≥ 32) && decide (c < 127)))) && (decide (c ≥ 160))) X0), (20, Xka (!(((c == 9) || (c == 10)) || (decide (c ≥ 32) && decide (c < 127)))) (decide (c ≥ 160))), (21, X (Xk' (((c == 9) || (c == 10)) || (decide (c ≥ 32) && decide (c < 127))))), (24, Xv 1 (!((((c == 9) || (c == 10)) || (decide (c ≥ 32) && decide (c < 127))) || (decide (c ≥ 160) && decide (c < 55296)))) X0), (25, Xv 1 (!((((c == 9) || (c == 10)) || (decide (c ≥ 32) && decide (c < 127))) || (decide (c ≥ 160) && decide (c < 55296)))) X0), (27, Xv 1 ((!((((c == 9) || (c == 10)) || (decide (c ≥ 32) && decide (c < 127))) || (decide (c ≥ 160) && decide (c < 55296)))) && (decide (c > 57343))) X0), (28, Xka (!((((c == 9) || (c == 10)) || (decide (c ≥ 32) && decide (c < 127))) || (decide (c ≥ 160) && decide (c < 55296)))) (decide (c > 57343))), (29, X (Xk' ((((c == 9) || (c == 10)) || (decide (c ≥ 32) && decide (c < 127))) || (decide (c ≥ 160) && decide (c < 55296)))))]] [] (fun z0 => (VB z0, [])) ((((((c == 9) || (c == 10)) || (decide (c ≥ 32) && decide (c < 127))) || (decide (c ≥ 160) && decide (c < 55296))) || (decide (c > 57343) && decide (c ≤ 1114111))) : Bool) ((decide (CharP c)) : Bool) e1

theorem fc_in (x a b : Int) : FC Try.prog 57 [VI x, VI a, VI b] (app emp []) (VB (decide (a ≤ x ∧ x ≤ b))) (app emp []) := by
 refine .go Try.f57 ?_
 have e1 : ((decide (a ≤ x ∧ x ≤ b)) : Bool) = (decide (x ≥ a) && decide (x ≤ b)) := by
  rw [Bool.eq_iff_iff]; simp; try omega
 exact .finE [.r [], .r [(6, Xv 2 (decide (x ≥ a)) X0), (7, X (Xk (decide (x ≥ a))))]] [] (fun z0 => (VB z0, [])) ((decide (x ≥ a) && decide (x ≤ b)) : Bool) ((decide (a ≤ x ∧ x ≤ b)) : Bool) e1

theorem nz_iff {a b : Int} : ((a != 0) = (b != 0)) ↔ (a = 0 ↔ b = 0) := by
  rw [Bool.eq_iff_iff]; simp; omega

theorem fc_elem (x : Elem) : FC Try.prog 138 [.t (elemT x)] (app emp []) (VI (elemE x)) (app emp []) := by
 refine .go Try.f138 ?_
 refine .br [.r [], .r []] ((x.char != 0) == (x.ref != 0)) (fun h1 => ?_) (fun h1 => ?_)
 ·
  (try simp only [beq_iff_eq, beq_eq_false_iff_ne, ne_eq, bne_iff_ne, bne_eq_false_iff_eq] at h1)
  have e1 : ((elemE x) : Int) = 4 := by
   first | exact elemE_4 (nz_iff.1 h1) | exact elemE_2 (fun h => h1 (nz_iff.2 h)) (.inl h3) | exact elemE_2 (fun h => h1 (nz_iff.2 h)) (.inr h4) | exact elemE_c (fun h => h1 (nz_iff.2 h)) h3 h4 | (exfalso; simp_all; done)
  exact .finE [.r []] [] (fun z0 => (VI z0, [])) (4 : Int) ((elemE x) : Int) e1
 ·
  (try simp only [beq_iff_eq, beq_eq_false_iff_ne, ne_eq, bne_iff_ne, bne_eq_false_iff_eq] at h1)
  refine .br [.r [(5, Xv 1 (x.ref == 0) X0), (6, Xv 1 (x.ref == 0) (Xc0 (fc_char x.char) X0)), (7, Xv 1 (x.ref == 0) X0), (8, X (Xk (x.ref == 0)))]] ((x.ref == 0) && !(decide (CharP x.char))) (fun h3 => ?_) (fun h3 => ?_)
  ·
   (try simp only [decide_eq_true_eq, decide_eq_false_iff_not, Int.not_lt, Int.not_le, Bool.not_eq_true', Bool.not_eq_false', Bool.and_eq_true, Bool.and_eq_false_iff, beq_iff_eq, beq_eq_false_iff_ne, ne_eq] at h3)
   refine .br [] ((x.ref == 0) && !(decide (CharP x.char))) (fun h3 => ?_) (fun h3 => ?_)
   ·
    (try simp only [decide_eq_true_eq, decide_eq_false_iff_not, Int.not_lt, Int.not_le, Bool.not_eq_true', Bool.not_eq_false', Bool.and_eq_true, Bool.and_eq_false_iff, beq_iff_eq, beq_eq_false_iff_ne, ne_eq] at h3)
    have e2 : ((elemE x) : Int) = 2 := by
     first | exact elemE_4 (nz_iff.1 h1) | exact elemE_2 (fun h => h1 (nz_iff.2 h)) (.inl h3) | exact elemE_2 (fun h => h1 (nz_iff.2 h)) (.inr h4) | exact elemE_c (fun h => h1 (nz_iff.2 h)) h3 h4 | (exfalso; simp_all; done)
    exact .finE [.r []] [] (fun z0 => (VI z0, [])) (2 : Int) ((elemE x) : Int) e2
   ·
    (try simp only [decide_eq_true_eq, decide_eq_false_iff_not, Int.not_lt, Int.not_le, Bool.not_eq_true', Bool.not_eq_false', Bool.and_eq_true, Bool.and_eq_false_iff, beq_iff_eq, beq_eq_false_iff_ne, ne_eq] at h3)
    have e3 : ((elemE x) : Int) = (chkA false x.attrs 0) := by
     first | exact elemE_4 (nz_iff.1 h1) | exact elemE_2 (fun h => h1 (nz_iff.2 h)) (.inl h3) | exact elemE_2 (fun h => h1 (nz_iff.2 h)) (.inr h4) | exact elemE_c (fun h => h1 (nz_iff.2 h)) h3 h4 | (exfalso; simp_all; done)
    exact .finE [.r [(2, X (Xc0 (fc_acheck x.attrs) X0))]] [] (fun z0 => (VI z0, [])) ((chkA false x.attrs 0) : Int) ((elemE x) : Int) e3
  ·
   (try simp only [decide_eq_true_eq, decide_eq_false_iff_not, Int.not_lt, Int.not_le, Bool.not_eq_true', Bool.not_eq_false', Bool.and_eq_true, Bool.and_eq_false_iff, beq_iff_eq, beq_eq_false_iff_ne, ne_eq] at h3)
   refine .br [.r [(5, Xv 1 (x.ref != 0) X0), (6, Xv 1 (x.ref != 0) X0), (7, Xv 1 (x.ref != 0) X0), (9, Xv 1 ((x.ref != 0) && !(decide (x.ref < 1))) X0), (10, Xv 1 ((x.ref != 0) && !(decide (x.ref < 1))) X0), (11, Xko (x.ref != 0) (decide (x.ref < 1))), (12, X (Xk (x.ref != 0)))]] ((x.ref != 0) && (decide (x.ref < 1) || decide (x.ref > 1073741824))) (fun h4 => ?_) (fun h4 => ?_)
   ·
    (try simp only [decide_eq_true_eq, decide_eq_false_iff_not, Int.not_lt, Int.not_le, gt_iff_lt, Bool.and_eq_true, Bool.and_eq_false_iff, Bool.not_eq_true', Bool.not_eq_false', Bool.or_eq_true, Bool.or_eq_false_iff, bne_iff_ne, bne_eq_false_iff_eq, ne_eq] at h4)
    have e4 : ((elemE x) : Int) = 2 := by
     first | exact elemE_4 (nz_iff.1 h1) | exact elemE_2 (fun h => h1 (nz_iff.2 h)) (.inl h3) | exact elemE_2 (fun h => h1 (nz_iff.2 h)) (.inr h4) | exact elemE_c (fun h => h1 (nz_iff.2 h)) h3 h4 | (exfalso; simp_all; done)
    exact .finE [.r []] [] (fun z0 => (VI z0, [])) (2 : Int) ((elemE x) : Int) e4
   ·
    (try simp only [decide_eq_true_eq, decide_eq_false_iff_not, Int.not_lt, Int.not_le, gt_iff_lt, Bool.and_eq_true, Bool.and_eq_false_iff, Bool.not_eq_true', Bool.not_eq_false', Bool.or_eq_true, Bool.or_eq_false_iff, bne_iff_ne, bne_eq_false_iff_eq, ne_eq] at h4)
    have e5 : ((elemE x) : Int) = (chkA false x.attrs 0) := by
     first | exact elemE_4 (nz_iff.1 h1) | exact elemE_2 (fun h => h1 (nz_iff.2 h)) (.inl h3) | exact elemE_2 (fun h => h1 (nz_iff.2 h)) (.inr h4) | exact elemE_c (fun h => h1 (nz_iff.2 h)) h3 h4 | (exfalso; simp_all; done)
    exact .finE [.r [(2, X (Xc0 (fc_acheck x.attrs) X0))]] [] (fun z0 => (VI z0, [])) ((chkA false x.attrs 0) : Int) ((elemE x) : Int) e5

theorem fc_checkPart (l : List Elem) : FC Try.prog 115 [VL 3 elemT l] (app emp []) (VI (partE l 0)) (app emp []) := by
 refine .go Try.f115 ?_
 refine .len 0 (fun hl0 => ?_)
 refine .loop (α := Nat) [.r [], .r [(1, X (Xl elemT l))]] 32 (fun i => ([(6, VL 3 elemT l), (7, VI (l.length : Int)), (8, VI (i : Int))], [])) (fun i => i ≤ l.length ∧ partE l 0 = partE l i) (fun i => l.length - i) (0 : Nat) ?_ ?_
 ·
  exact ⟨by omega, rfl⟩
 rintro i I2 ih2
 try dsimp only at I2
 refine .br [.r []] (decide ((i : Int) < (l.length : Int))) (fun h2 => ?_) (fun h2 => ?_)
 ·
  (try simp only [decide_eq_true_eq, decide_eq_false_iff_not, Int.not_lt, Int.not_le] at h2)
  refine .br [.r [(0, X (Xi elemT l (i : Int)))], .r [(1, X (Xc0 (fc_elem ((l.getD i default))) X0))], .r []] ((elemE ((l.getD i default))) != 0) (fun h5 => ?_) (fun h5 => ?_)
  ·
   (try simp only [bne_iff_ne, bne_eq_false_iff_eq, ne_eq] at h5)
   have e1 : ((partE l 0) : Int) = (elemE ((l.getD i default))) := by
    rw [I2.2, partE]; ((repeat' split) <;> first | rfl | omega | (simp_all; done) | (simp_all; omega))
   exact .finE [.r []] [] (fun z0 => (VI z0, [])) ((elemE ((l.getD i default))) : Int) ((partE l 0) : Int) e1
  ·
   (try simp only [bne_iff_ne, bne_eq_false_iff_eq, ne_eq] at h5)
   refine .back [.r [(0, X (Xn ((i : Int) + 1)))]] [] (ih2 ((i + 1) : Nat) ?_ ?_)
   ·
    refine ⟨by omega, ?_⟩; rw [I2.2, partE, if_pos (by omega), if_pos (by omega)]
   ·
    ((try dsimp only); omega)
 ·
  (try simp only [decide_eq_true_eq, decide_eq_false_iff_not, Int.not_lt, Int.not_le] at h2)
  have e2 : ((partE l 0) : Int) = 0 := by
   rw [I2.2, partE]; ((repeat' split) <;> first | rfl | omega | (simp_all; done) | (simp_all; omega))
  exact .finE [.r []] [] (fun z0 => (VI z0, [])) (0 : Int) ((partE l 0) : Int) e2

theorem fc_attrSame (a b : List Attr) : FC Try.prog 136 [VL 2 attrT a, VL 2 attrT b] (app emp []) (VB (sameL a b)) (app emp []) := by
 refine .go Try.f136 ?_
 refine .len 0 (fun hl0 => ?_)
 refine .len 1 (fun hl1 => ?_)
 refine .br [.r [], .r [(1, X (Xl attrT a)), (3, X (Xl attrT b))]] ((a.length : Int) != (b.length : Int)) (fun h1 => ?_) (fun h1 => ?_)
 ·
  (try simp only [bne_iff_ne, bne_eq_false_iff_eq, ne_eq] at h1)
  have e1 : ((sameL a b) : Bool) = false := by
   unfold sameL; rw [decide_eq_false (by omega)]; rfl
  exact .finE [.r []] [] (fun z0 => (VB z0, [])) (false : Bool) ((sameL a b) : Bool) e1
 ·
  (try simp only [bne_iff_ne, bne_eq_false_iff_eq, ne_eq] at h1)
  refine .loop (α := Nat) [.r [(1, X (Xl attrT a))]] 72 (fun i => ([(0, VL 2 attrT a), (1, VL 2 attrT b), (12, VI (a.length : Int)), (13, VI (i : Int))], [])) (fun i => i ≤ a.length ∧ sameA a b 0 = sameA a b i) (fun i => a.length - i) (0 : Nat) ?_ ?_
  ·
   exact ⟨by omega, rfl⟩
  rintro i I4 ih4
  try dsimp only at I4
  refine .br [.r []] (decide ((i : Int) < (a.length : Int))) (fun h4 => ?_) (fun h4 => ?_)
  ·
   (try simp only [decide_eq_true_eq, decide_eq_false_iff_not, Int.not_lt, Int.not_le] at h4)
   refine .br [.r [], .r [(2, X (Xi attrT a (i : Int))), (6, X (Xi attrT b (i : Int)))]] (!(seq (((a.getD i default)).name) (((b.getD i default)).name) && (seq (((a.getD i default)).val) (((b.getD i default)).val) && true))) (fun h6 => ?_) (fun h6 => ?_)
   ·
    (try simp only [Bool.not_eq_true', Bool.not_eq_false', Bool.and_eq_true, Bool.and_eq_false_iff] at h6)
    have e2 : ((sameL a b) : Bool) = false := by
     unfold sameL; rw [I4.2, sameA, if_pos (by omega), if_neg (by clear ih4; simp only [seq_no, seq_iff] at h6; rintro ⟨x, y⟩; simp_all)]; simp
    exact .finE [.r []] [] (fun z0 => (VB z0, [])) (false : Bool) ((sameL a b) : Bool) e2
   ·
    (try simp only [Bool.not_eq_true', Bool.not_eq_false', Bool.and_eq_true, Bool.and_eq_false_iff] at h6)
    refine .back [.r [(0, X (Xn ((i : Int) + 1)))]] [] (ih4 ((i + 1) : Nat) ?_ ?_)
    ·
     refine ⟨by omega, ?_⟩; rw [I4.2, sameA, if_pos (by omega), if_pos (by clear ih4; simp only [seq_no, seq_iff] at h6; simp_all)]
    ·
     ((try dsimp only); omega)
  ·
   (try simp only [decide_eq_true_eq, decide_eq_false_iff_not, Int.not_lt, Int.not_le] at h4)
   have e3 : ((sameL a b) : Bool) = true := by
    unfold sameL; rw [I4.2, sameA, if_neg (by omega), decide_eq_true (by omega)]; rfl
   exact .finE [.r []] [] (fun z0 => (VB z0, [])) (true : Bool) ((sameL a b) : Bool) e3

theorem fc_sameElem (x y : Elem) : FC Try.prog 73 [.t (elemT x), .t (elemT y)] (app emp []) (VB (sameE x y)) (app emp []) := by
 refine .go Try.f73 ?_
 have e1 : ((sameE x y) : Bool) = (((x.char == y.char) && (x.ref == y.ref)) && (sameL x.attrs y.attrs)) := by
  rfl
 exact .finE [.r [], .r [(7, Xv 1 (x.char == y.char) X0), (9, Xv 1 (x.char == y.char) X0), (10, Xv 2 (x.char == y.char) X0), (11, X (Xk (x.char == y.char))), (14, Xv 1 ((x.char == y.char) && (x.ref == y.ref)) X0), (16, Xv 1 ((x.char == y.char) && (x.ref == y.ref)) X0), (17, Xv 2 ((x.char == y.char) && (x.ref == y.ref)) (Xc0 (fc_sameAttrs x.attrs y.attrs) X0)), (18, X (Xk ((x.char == y.char) && (x.ref == y.ref))))]] [] (fun z0 => (VB z0, [])) ((((x.char == y.char) && (x.ref == y.ref)) && (sameL x.attrs y.attrs)) : Bool) ((sameE x y) : Bool) e1

theorem fc_sameFlow (a b : List Elem) : FC Try.prog 55 [VL 3 elemT a, VL 3 elemT b] (app emp []) (VB (sameF a b)) (app emp []) := by
 refine .go Try.f55 ?_
 refine .len 0 (fun hl0 => ?_)
 refine .len 1 (fun hl1 => ?_)
 refine .br [.r [], .r [(1, X (Xl elemT a)), (3, X (Xl elemT b))]] ((a.length : Int) != (b.length : Int)) (fun h1 => ?_) (fun h1 => ?_)
 ·
  (try simp only [bne_iff_ne, bne_eq_false_iff_eq, ne_eq] at h1)
  have e1 : ((sameF a b) : Bool) = false := by
   unfold sameF; rw [decide_eq_false (by omega)]; rfl
  exact .finE [.r []] [] (fun z0 => (VB z0, [])) (false : Bool) ((sameF a b) : Bool) e1
 ·
  (try simp only [bne_iff_ne, bne_eq_false_iff_eq, ne_eq] at h1)
  refine .loop (α := Nat) [.r [(1, X (Xl elemT a))]] 72 (fun i => ([(0, VL 3 elemT a), (1, VL 3 elemT b), (12, VI (a.length : Int)), (13, VI (i : Int))], [])) (fun i => i ≤ a.length ∧ sameFi a b 0 = sameFi a b i) (fun i => a.length - i) (0 : Nat) ?_ ?_
  ·
   exact ⟨by omega, rfl⟩
  rintro i I4 ih4
  try dsimp only at I4
  refine .br [.r []] (decide ((i : Int) < (a.length : Int))) (fun h4 => ?_) (fun h4 => ?_)
  ·
   (try simp only [decide_eq_true_eq, decide_eq_false_iff_not, Int.not_lt, Int.not_le] at h4)
   refine .br [.r [], .r [(2, X (Xi elemT a (i : Int))), (6, X (Xi elemT b (i : Int))), (8, X (Xc0 (fc_sameElem ((a.getD i default)) ((b.getD i default))) X0))]] (!(sameE ((a.getD i default)) ((b.getD i default)))) (fun h6 => ?_) (fun h6 => ?_)
   ·
    (try simp only [Bool.not_eq_true', Bool.not_eq_false'] at h6)
    have e2 : ((sameF a b) : Bool) = false := by
     unfold sameF; rw [I4.2, sameFi, if_pos (by omega), if_neg (by rw [h6]; decide)]; simp
    exact .finE [.r []] [] (fun z0 => (VB z0, [])) (false : Bool) ((sameF a b) : Bool) e2
   ·
    (try simp only [Bool.not_eq_true', Bool.not_eq_false'] at h6)
    refine .back [.r [(0, X (Xn ((i : Int) + 1)))]] [] (ih4 ((i + 1) : Nat) ?_ ?_)
    ·
     refine ⟨by omega, ?_⟩; rw [I4.2, sameFi, if_pos (by omega), if_pos h6]
    ·
     ((try dsimp only); omega)
  ·
   (try simp only [decide_eq_true_eq, decide_eq_false_iff_not, Int.not_lt, Int.not_le] at h4)
   have e3 : ((sameF a b) : Bool) = true := by
    unfold sameF; rw [I4.2, sameFi, if_neg (by omega), decide_eq_true (by omega)]; rfl
   exact .finE [.r []] [] (fun z0 => (VB z0, [])) (true : Bool) ((sameF a b) : Bool) e3
end Go.Ch
end
section
set_option linter.unusedVariables false
set_option linter.unusedSimpArgs false
set_option maxRecDepth 100000
set_option maxHeartbeats 4000000
open Go Go.Proofs Go.Ab
namespace Go.Ch
theorem set_fill {α : Type} [Inhabited α] {l : List α} {i n : Nat} {z x : α} (hn : n = l.length) (hi : i < n) (hx : x = l.getD i default) : (l.take i ++ List.replicate (n - i) z).set i x = l.take (i + 1) ++ List.replicate (n - (i + 1)) z := by
  subst hn
  have h1 : (l.take i).length = i := by simp; omega
  rw [List.set_append, if_neg (by omega), h1, Nat.sub_self, show l.length - i = (l.length - (i + 1)) + 1 by omega, List.replicate_succ, List.set_cons_zero, List.take_succ_eq_append_getElem hi, hx, List.append_assoc]
  simp only [List.getD, List.getElem?_eq_getElem hi, Option.getD_some]
  rfl

theorem fc_copy (l : List Elem) (hn : l.length ≤ 1000000000000) (hs : AN 400000000000 l) : FC Try.prog 137 [VL 3 elemT l] (app emp []) (VL 3 elemT l) (app emp []) := by
 refine .go Try.f137 ?_
 refine .len 0 (fun hl0 => ?_)
 refine .loop (α := Nat × (List Elem)) [.r [], .r [(1, X (Xl elemT l)), (2, X (Xmz 3 elemT 24 (l.length : Int) (l.length : Int) ({ char := 0, ref := 0, attrs := [] } : Elem) [TI 0, TI 0, TN] ⟨.inl rfl, ⟨.inl rfl, ⟨tw_nil (by decide), trivial⟩⟩⟩))], .r [(1, X (Xl elemT l))]] 64 (fun (i, o) => ([(3, .row 24 l.length), (9, VL 3 elemT l), (10, VI (l.length : Int)), (11, VI (i : Int))], [(24, OR 3 elemT o)])) (fun (i, o) => i ≤ l.length ∧ o = l.take i ++ List.replicate (l.length - i) ({ char := 0, ref := 0, attrs := [] } : Elem)) (fun (i, o) => l.length - i) (0, (List.replicate l.length ({ char := 0, ref := 0, attrs := [] } : Elem))) ?_ ?_
 ·
  exact ⟨by omega, by simp⟩
 rintro ⟨i, o⟩ I3 ih3
 try dsimp only at I3
 have ol : o.length = l.length := by rw [I3.2]; simp; omega
 refine .br [.r []] (decide ((i : Int) < (l.length : Int))) (fun h3 => ?_) (fun h3 => ?_)
 ·
  (try simp only [decide_eq_true_eq, decide_eq_false_iff_not, Int.not_lt, Int.not_le] at h3)
  have hx := hs _ (getDE_mem (l := l) (k := i) (by omega))
  refine .back [.r [(1, X (Xi elemT l (i : Int)))], .r [(8, X (Xan attrT 184 (((l.getD i default)).attrs))), (10, X (Xpn l.length elemT o (i : Int))), (11, X (rowC attrT (((l.getD i default)).attrs) (Xsn l.length 3 elemT 24 o i ((l.getD i default)) [(184, OF 2 attrT (((l.getD i default)).attrs))])))], .r [(0, X (Xn ((i : Int) + 1)))]] [(24, 24)] (ih3 ((i + 1), (o.set i ((l.getD i default)))) ?_ ?_)
  ·
   refine ⟨by omega, ?_⟩
   rw [I3.2]
   exact set_fill rfl (by omega) rfl
  ·
   ((try dsimp only); omega)
 ·
  (try simp only [decide_eq_true_eq, decide_eq_false_iff_not, Int.not_lt, Int.not_le] at h3)
  have e1 : (l : List Elem) = o := by
   rw [I3.2, List.take_of_length_le (by omega), show l.length - i = 0 by omega]; simp
  exact .finE [.r [], .le (.fr 2 [(l.length : Nat) = (List.map elemT o).length] ⟨lm, trivial⟩)] [] (fun z0 => (VL 3 elemT z0, [])) (o : List Elem) (l : List Elem) e1

theorem map_fill {l : List Elem} {i : Nat} {z : Elem} {f : Elem → Elem} (hi : i < l.length) {y : Elem} (hy : y = f (l.getD i default)) : ((l.take i).map f ++ List.replicate (l.length - i) z).set i y = (l.take (i + 1)).map f ++ List.replicate (l.length - (i + 1)) z := by
  have h1 : ((l.take i).map f).length = i := by simp; omega
  rw [List.set_append, if_neg (by omega), h1, Nat.sub_self, show l.length - i = (l.length - (i + 1)) + 1 by omega, List.replicate_succ, List.set_cons_zero, List.take_succ_eq_append_getElem hi, hy, List.map_append, List.append_assoc]
  simp only [List.getD, List.getElem?_eq_getElem hi, Option.getD_some]
  rfl

theorem fc_changed (l : List Elem) (c : List Attr) (hn : l.length ≤ 1000000000000) (hs : ∀ x ∈ l, x.attrs.length + c.length < 1099511627776) : FC Try.prog 114 [VL 3 elemT l, VL 2 attrT c] (app emp []) (VL 3 elemT (List.map (chgE c) l)) (app emp []) := by
 refine .go Try.f114 ?_
 refine .len 0 (fun hl0 => ?_)
 refine .len 1 (fun hl1 => ?_)
 refine .loop (α := Nat × (List Elem)) [.r [], .r [(1, X (Xl elemT l)), (2, X (Xmz 3 elemT 24 (l.length : Int) (l.length : Int) ({ char := 0, ref := 0, attrs := [] } : Elem) [TI 0, TI 0, TN] ⟨.inl rfl, ⟨.inl rfl, ⟨tw_nil (by decide), trivial⟩⟩⟩))], .r [(1, X (Xl elemT l))]] 64 (fun (i, o) => ([(1, VL 2 attrT c), (5, .row 24 l.length), (11, VL 3 elemT l), (12, VI (l.length : Int)), (13, VI (i : Int))], [(24, OR 3 elemT o)])) (fun (i, o) => i ≤ l.length ∧ o = (l.take i).map (chgE c) ++ List.replicate (l.length - i) ({ char := 0, ref := 0, attrs := [] } : Elem)) (fun (i, o) => l.length - i) (0, (List.replicate l.length ({ char := 0, ref := 0, attrs := [] } : Elem))) ?_ ?_
 ·
  exact ⟨by omega, by simp⟩
 rintro ⟨i, o⟩ I3 ih3
 try dsimp only at I3
 have ol : o.length = l.length := by rw [I3.2]; simp; omega
 refine .br [.r []] (decide ((i : Int) < (l.length : Int))) (fun h3 => ?_) (fun h3 => ?_)
 ·
  (try simp only [decide_eq_true_eq, decide_eq_false_iff_not, Int.not_lt, Int.not_le] at h3)
  have hx := hs _ (getDE_mem (l := l) (k := i) (by omega))
  refine .back [.r [(1, X (Xi elemT l (i : Int)))], .r [(3, X (Xc1 144 (fc_raw (((l.getD i default)).attrs) c (by omega)) X0))], .r [(3, X (Xpn l.length elemT o (i : Int))), (4, X (Xsn l.length 3 elemT 24 o i ({ char := ((l.getD i default)).char, ref := ((l.getD i default)).ref, attrs := (fm rawG (((l.getD i default)).attrs) c) } : Elem)))], .r [(0, X (Xn ((i : Int) + 1)))]] [(24, 24)] (ih3 ((i + 1), (o.set i ({ char := ((l.getD i default)).char, ref := ((l.getD i default)).ref, attrs := (fm rawG (((l.getD i default)).attrs) c) } : Elem))) ?_ ?_)
  ·
   refine ⟨by omega, ?_⟩
   rw [I3.2]
   exact map_fill (by omega) rfl
  ·
   ((try dsimp only); omega)
 ·
  (try simp only [decide_eq_true_eq, decide_eq_false_iff_not, Int.not_lt, Int.not_le] at h3)
  have e1 : ((List.map (chgE c) l) : List Elem) = o := by
   rw [I3.2, List.take_of_length_le (by omega), show l.length - i = 0 by omega]; simp
  exact .finE [.r [], .le (.fr 4 [(l.length : Nat) = (List.map elemT o).length] ⟨lm, trivial⟩)] [] (fun z0 => (VL 3 elemT z0, [])) (o : List Elem) ((List.map (chgE c) l) : List Elem) e1

def ltr (s : ByteArray) (i : Nat) : Elem := ⟨(byt s i : Int), 0, []⟩
def lettersL (s : ByteArray) : List Elem := (List.range s.size).map (ltr s)

theorem fc_letters (s : ByteArray) (hs : s.size ≤ 1000000000) : FC Try.prog 98 [VS s] (app emp []) (VL 3 elemT (lettersL s)) (app emp []) := by
 refine .go Try.f98 ?_
 refine .loop (α := Nat × (List Elem)) [.r [], .r [], .r [], .le (.nR 3 3)] 41 (fun (i, o) => ([(0, VS s), (3, .row 40 o.length), (6, VI (s.size : Int)), (7, VI (i : Int))], [(40, OR 3 elemT o)])) (fun (i, o) => i ≤ s.size ∧ o = (List.range i).map (ltr s)) (fun (i, o) => s.size - i) (0, []) ?_ ?_
 ·
  exact ⟨by omega, rfl⟩
 rintro ⟨i, o⟩ I3 ih3
 try dsimp only at I3
 have ol : o.length = i := by rw [I3.2]; simp
 refine .br [.r []] (decide ((i : Int) < (s.size : Int))) (fun h3 => ?_) (fun h3 => ?_)
 ·
  (try simp only [decide_eq_true_eq, decide_eq_false_iff_not, Int.not_lt, Int.not_le] at h3)
  refine .back [.r [], .r [(3, X (Xb s (i : Int))), (4, X (Xn ((((s[i]?).getD 0).toNat : Nat) : Int)) (by have := UInt8.toNat_lt ((s[i]?).getD 0); omega)), (5, X (Xf [(2, 2)])), (7, X (rowC elemT [({ char := ((((s[i]?).getD 0).toNat : Nat) : Int), ref := 0, attrs := [] } : Elem)] (Xap 3 elemT 40 o [({ char := ((((s[i]?).getD 0).toNat : Nat) : Int), ref := 0, attrs := [] } : Elem)])))], .r [(0, X (Xn ((i : Int) + 1)))]] [(40, 40)] (ih3 ((i + 1), (o ++ [({ char := ((((s[i]?).getD 0).toNat : Nat) : Int), ref := 0, attrs := [] } : Elem)])) ?_ ?_)
  ·
   refine ⟨by omega, ?_⟩
   rw [I3.2, List.range_succ, List.map_append]
   rfl
  ·
   ((try dsimp only); omega)
 ·
  (try simp only [decide_eq_true_eq, decide_eq_false_iff_not, Int.not_lt, Int.not_le] at h3)
  have e1 : ((lettersL s) : List Elem) = o := by
   rw [I3.2, show i = s.size by omega]; rfl
  exact .finE [.r [], .le (.fr 2 [(o.length : Nat) = (List.map elemT o).length] ⟨lm, trivial⟩)] [] (fun z0 => (VL 3 elemT z0, [])) (o : List Elem) ((lettersL s) : List Elem) e1

theorem fc_on (s : ByteArray) : FC Try.prog 100 [VS s] (app emp []) (VL 2 attrT [({ name := s, val := { data := #[111, 110] } } : Attr)]) (app emp []) := by
 refine .go Try.f100 ?_
 exact .fin [.r [], .r [], .le (.fr 2 [(1 : Nat) = (List.map attrT [({ name := s, val := { data := #[111, 110] } } : Attr)]).length] ⟨lm, trivial⟩)] []
end Go.Ch
end
section
set_option linter.unusedVariables false
set_option linter.unusedSimpArgs false
set_option maxRecDepth 100000
set_option maxHeartbeats 4000000
open Go Go.Proofs Go.Ab
namespace Go.Ch
theorem fc_step (x : DStep) : FC Try.prog 102 [.t (dstepT x)] (app emp []) (VI (stepD x)) (app emp []) := by
 refine .go Try.f102 ?_
 refine .br [.r [], .r [], .r []] (x.kind == 0) (fun h2 => ?_) (fun h2 => ?_)
 ·
  (try simp only [beq_iff_eq, beq_eq_false_iff_ne, ne_eq] at h2)
  refine .br [] (x.kind == 0) (fun h2 => ?_) (fun h2 => ?_)
  ·
   (try simp only [beq_iff_eq, beq_eq_false_iff_ne, ne_eq] at h2)
   refine .br [.r [(2, X (Xl elemT x.elems)), (6, Xv 1 (!(decide ((x.elems.length : Int) > 0))) X0), (7, Xv 1 (!(decide ((x.elems.length : Int) > 0))) X0), (8, Xv 1 (!(decide ((x.elems.length : Int) > 0))) X0), (10, Xv 1 ((!(decide ((x.elems.length : Int) > 0))) && (x.kind == 2)) X0), (11, Xv 1 ((!(decide ((x.elems.length : Int) > 0))) && (x.kind == 2)) (Xl attrT x.attrs)), (12, Xv 1 ((!(decide ((x.elems.length : Int) > 0))) && (x.kind == 2)) X0), (13, Xka (!(decide ((x.elems.length : Int) > 0))) (x.kind == 2)), (14, X (Xk' (decide ((x.elems.length : Int) > 0))))]] (decide ((x.elems.length : Int) > 0) || ((x.kind == 2) && decide ((x.attrs.length : Int) > 0))) (fun h4 => ?_) (fun h4 => ?_)
   ·
    (try simp only [decide_eq_true_eq, decide_eq_false_iff_not, Int.not_lt, Int.not_le, gt_iff_lt, Bool.and_eq_true, Bool.and_eq_false_iff, Bool.not_eq_true', Bool.not_eq_false', Bool.or_eq_true, Bool.or_eq_false_iff, beq_iff_eq, beq_eq_false_iff_ne, ne_eq] at h4)
    have e1 : ((stepD x) : Int) = 4 := by
     unfold stepD; ((repeat' split) <;> first | rfl | omega | (simp_all; done) | (simp_all; omega))
    exact .finE [.r []] [] (fun z0 => (VI z0, [])) (4 : Int) ((stepD x) : Int) e1
   ·
    (try simp only [decide_eq_true_eq, decide_eq_false_iff_not, Int.not_lt, Int.not_le, gt_iff_lt, Bool.and_eq_true, Bool.and_eq_false_iff, Bool.not_eq_true', Bool.not_eq_false', Bool.or_eq_true, Bool.or_eq_false_iff, beq_iff_eq, beq_eq_false_iff_ne, ne_eq] at h4)
    refine .br [.r [(5, Xv 1 (!(decide (x.n < 1))) X0), (6, Xv 1 (!(decide (x.n < 1))) X0), (7, X (Xk' (decide (x.n < 1))))]] (decide (x.n < 1) || decide (x.n > 2147483647)) (fun h6 => ?_) (fun h6 => ?_)
    ·
     (try simp only [decide_eq_true_eq, decide_eq_false_iff_not, Int.not_lt, Int.not_le, gt_iff_lt, Bool.or_eq_true, Bool.or_eq_false_iff] at h6)
     have e2 : ((stepD x) : Int) = 2 := by
      unfold stepD; ((repeat' split) <;> first | rfl | omega | (simp_all; done) | (simp_all; omega))
     exact .finE [.r []] [] (fun z0 => (VI z0, [])) (2 : Int) ((stepD x) : Int) e2
    ·
     (try simp only [decide_eq_true_eq, decide_eq_false_iff_not, Int.not_lt, Int.not_le, gt_iff_lt, Bool.or_eq_true, Bool.or_eq_false_iff] at h6)
     have e3 : ((stepD x) : Int) = (chkA true x.attrs 0) := by
      unfold stepD; ((repeat' split) <;> first | rfl | omega | (simp_all; done) | (simp_all; omega))
     exact .finE [.r [(2, X (Xc0 (fc_acheckChange x.attrs) X0))]] [] (fun z0 => (VI z0, [])) ((chkA true x.attrs 0) : Int) ((stepD x) : Int) e3
  ·
   (try simp only [beq_iff_eq, beq_eq_false_iff_ne, ne_eq] at h2)
   refine .br [.r []] (x.kind == 1) (fun h9 => ?_) (fun h9 => ?_)
   ·
    (try simp only [beq_iff_eq, beq_eq_false_iff_ne, ne_eq] at h9)
    refine .br [.r [(5, Xv 1 (!(x.n != 0)) X0), (6, Xv 1 (!(x.n != 0)) (Xl attrT x.attrs)), (7, Xv 1 (!(x.n != 0)) X0), (8, X (Xk' (x.n != 0)))]] ((x.n != 0) || decide ((x.attrs.length : Int) > 0)) (fun h10 => ?_) (fun h10 => ?_)
    ·
     (try simp only [decide_eq_true_eq, decide_eq_false_iff_not, Int.not_lt, Int.not_le, gt_iff_lt, Bool.or_eq_true, Bool.or_eq_false_iff, bne_iff_ne, bne_eq_false_iff_eq, ne_eq] at h10)
     have e4 : ((stepD x) : Int) = 4 := by
      unfold stepD; ((repeat' split) <;> first | rfl | omega | (simp_all; done) | (simp_all; omega))
     exact .finE [.r []] [] (fun z0 => (VI z0, [])) (4 : Int) ((stepD x) : Int) e4
    ·
     (try simp only [decide_eq_true_eq, decide_eq_false_iff_not, Int.not_lt, Int.not_le, gt_iff_lt, Bool.or_eq_true, Bool.or_eq_false_iff, bne_iff_ne, bne_eq_false_iff_eq, ne_eq] at h10)
     refine .br [.r [(2, X (Xl elemT x.elems))]] ((x.elems.length : Int) == 0) (fun h12 => ?_) (fun h12 => ?_)
     ·
      (try simp only [beq_iff_eq, beq_eq_false_iff_ne, ne_eq] at h12)
      have e5 : ((stepD x) : Int) = 11 := by
       unfold stepD; ((repeat' split) <;> first | rfl | omega | (simp_all; done) | (simp_all; omega))
      exact .finE [.r []] [] (fun z0 => (VI z0, [])) (11 : Int) ((stepD x) : Int) e5
     ·
      (try simp only [beq_iff_eq, beq_eq_false_iff_ne, ne_eq] at h12)
      have e6 : ((stepD x) : Int) = (partE x.elems 0) := by
       unfold stepD; ((repeat' split) <;> first | rfl | omega | (simp_all; done) | (simp_all; omega))
      exact .finE [.r [(2, X (Xc0 (fc_checkPart x.elems) X0))]] [] (fun z0 => (VI z0, [])) ((partE x.elems 0) : Int) ((stepD x) : Int) e6
   ·
    (try simp only [beq_iff_eq, beq_eq_false_iff_ne, ne_eq] at h9)
    have e7 : ((stepD x) : Int) = 8 := by
     unfold stepD; ((repeat' split) <;> first | rfl | omega | (simp_all; done) | (simp_all; omega))
    exact .finE [.r []] [] (fun z0 => (VI z0, [])) (8 : Int) ((stepD x) : Int) e7
 ·
  (try simp only [beq_iff_eq, beq_eq_false_iff_ne, ne_eq] at h2)
  refine .br [.r []] (x.kind == 2) (fun h3 => ?_) (fun h3 => ?_)
  ·
   (try simp only [beq_iff_eq, beq_eq_false_iff_ne, ne_eq] at h3)
   refine .br [.r [(2, X (Xl elemT x.elems)), (6, Xv 1 (!(decide ((x.elems.length : Int) > 0))) X0), (7, Xv 1 (!(decide ((x.elems.length : Int) > 0))) X0), (8, Xv 1 (!(decide ((x.elems.length : Int) > 0))) X0), (10, Xv 1 ((!(decide ((x.elems.length : Int) > 0))) && (x.kind == 2)) X0), (11, Xv 1 ((!(decide ((x.elems.length : Int) > 0))) && (x.kind == 2)) (Xl attrT x.attrs)), (12, Xv 1 ((!(decide ((x.elems.length : Int) > 0))) && (x.kind == 2)) X0), (13, Xka (!(decide ((x.elems.length : Int) > 0))) (x.kind == 2)), (14, X (Xk' (decide ((x.elems.length : Int) > 0))))]] (decide ((x.elems.length : Int) > 0) || ((x.kind == 2) && decide ((x.attrs.length : Int) > 0))) (fun h4 => ?_) (fun h4 => ?_)
   ·
    (try simp only [decide_eq_true_eq, decide_eq_false_iff_not, Int.not_lt, Int.not_le, gt_iff_lt, Bool.and_eq_true, Bool.and_eq_false_iff, Bool.not_eq_true', Bool.not_eq_false', Bool.or_eq_true, Bool.or_eq_false_iff, beq_iff_eq, beq_eq_false_iff_ne, ne_eq] at h4)
    have e8 : ((stepD x) : Int) = 4 := by
     unfold stepD; ((repeat' split) <;> first | rfl | omega | (simp_all; done) | (simp_all; omega))
    exact .finE [.r []] [] (fun z0 => (VI z0, [])) (4 : Int) ((stepD x) : Int) e8
   ·
    (try simp only [decide_eq_true_eq, decide_eq_false_iff_not, Int.not_lt, Int.not_le, gt_iff_lt, Bool.and_eq_true, Bool.and_eq_false_iff, Bool.not_eq_true', Bool.not_eq_false', Bool.or_eq_true, Bool.or_eq_false_iff, beq_iff_eq, beq_eq_false_iff_ne, ne_eq] at h4)
    refine .br [.r [(5, Xv 1 (!(decide (x.n < 1))) X0), (6, Xv 1 (!(decide (x.n < 1))) X0), (7, X (Xk' (decide (x.n < 1))))]] (decide (x.n < 1) || decide (x.n > 2147483647)) (fun h6 => ?_) (fun h6 => ?_)
    ·
     (try simp only [decide_eq_true_eq, decide_eq_false_iff_not, Int.not_lt, Int.not_le, gt_iff_lt, Bool.or_eq_true, Bool.or_eq_false_iff] at h6)
     have e9 : ((stepD x) : Int) = 2 := by
      unfold stepD; ((repeat' split) <;> first | rfl | omega | (simp_all; done) | (simp_all; omega))
     exact .finE [.r []] [] (fun z0 => (VI z0, [])) (2 : Int) ((stepD x) : Int) e9
    ·
     (try simp only [decide_eq_true_eq, decide_eq_false_iff_not, Int.not_lt, Int.not_le, gt_iff_lt, Bool.or_eq_true, Bool.or_eq_false_iff] at h6)
     have e10 : ((stepD x) : Int) = (chkA true x.attrs 0) := by
      unfold stepD; ((repeat' split) <;> first | rfl | omega | (simp_all; done) | (simp_all; omega))
     exact .finE [.r [(2, X (Xc0 (fc_acheckChange x.attrs) X0))]] [] (fun z0 => (VI z0, [])) ((chkA true x.attrs 0) : Int) ((stepD x) : Int) e10
  ·
   (try simp only [beq_iff_eq, beq_eq_false_iff_ne, ne_eq] at h3)
   refine .br [.r []] (x.kind == 1) (fun h9 => ?_) (fun h9 => ?_)
   ·
    (try simp only [beq_iff_eq, beq_eq_false_iff_ne, ne_eq] at h9)
    refine .br [.r [(5, Xv 1 (!(x.n != 0)) X0), (6, Xv 1 (!(x.n != 0)) (Xl attrT x.attrs)), (7, Xv 1 (!(x.n != 0)) X0), (8, X (Xk' (x.n != 0)))]] ((x.n != 0) || decide ((x.attrs.length : Int) > 0)) (fun h10 => ?_) (fun h10 => ?_)
    ·
     (try simp only [decide_eq_true_eq, decide_eq_false_iff_not, Int.not_lt, Int.not_le, gt_iff_lt, Bool.or_eq_true, Bool.or_eq_false_iff, bne_iff_ne, bne_eq_false_iff_eq, ne_eq] at h10)
     have e11 : ((stepD x) : Int) = 4 := by
      unfold stepD; ((repeat' split) <;> first | rfl | omega | (simp_all; done) | (simp_all; omega))
     exact .finE [.r []] [] (fun z0 => (VI z0, [])) (4 : Int) ((stepD x) : Int) e11
    ·
     (try simp only [decide_eq_true_eq, decide_eq_false_iff_not, Int.not_lt, Int.not_le, gt_iff_lt, Bool.or_eq_true, Bool.or_eq_false_iff, bne_iff_ne, bne_eq_false_iff_eq, ne_eq] at h10)
     refine .br [.r [(2, X (Xl elemT x.elems))]] ((x.elems.length : Int) == 0) (fun h12 => ?_) (fun h12 => ?_)
     ·
      (try simp only [beq_iff_eq, beq_eq_false_iff_ne, ne_eq] at h12)
      have e12 : ((stepD x) : Int) = 11 := by
       unfold stepD; ((repeat' split) <;> first | rfl | omega | (simp_all; done) | (simp_all; omega))
      exact .finE [.r []] [] (fun z0 => (VI z0, [])) (11 : Int) ((stepD x) : Int) e12
     ·
      (try simp only [beq_iff_eq, beq_eq_false_iff_ne, ne_eq] at h12)
      have e13 : ((stepD x) : Int) = (partE x.elems 0) := by
       unfold stepD; ((repeat' split) <;> first | rfl | omega | (simp_all; done) | (simp_all; omega))
      exact .finE [.r [(2, X (Xc0 (fc_checkPart x.elems) X0))]] [] (fun z0 => (VI z0, [])) ((partE x.elems 0) : Int) ((stepD x) : Int) e13
   ·
    (try simp only [beq_iff_eq, beq_eq_false_iff_ne, ne_eq] at h9)
    have e14 : ((stepD x) : Int) = 8 := by
     unfold stepD; ((repeat' split) <;> first | rfl | omega | (simp_all; done) | (simp_all; omega))
    exact .finE [.r []] [] (fun z0 => (VI z0, [])) (8 : Int) ((stepD x) : Int) e14

theorem fc_size (x : DStep) : FC Try.prog 125 [.t (dstepT x)] (app emp []) (VI (szD x)) (app emp []) := by
 refine .go Try.f125 ?_
 refine .br [.r [], .r []] (x.kind == 1) (fun h1 => ?_) (fun h1 => ?_)
 ·
  (try simp only [beq_iff_eq, beq_eq_false_iff_ne, ne_eq] at h1)
  have e1 : ((szD x) : Int) = (x.elems.length : Int) := by
   unfold szD; ((repeat' split) <;> first | rfl | omega | (simp_all; done) | (simp_all; omega))
  exact .finE [.r [(2, X (Xl elemT x.elems))]] [] (fun z0 => (VI z0, [])) ((x.elems.length : Int) : Int) ((szD x) : Int) e1
 ·
  (try simp only [beq_iff_eq, beq_eq_false_iff_ne, ne_eq] at h1)
  have e2 : ((szD x) : Int) = x.n := by
   unfold szD; ((repeat' split) <;> first | rfl | omega | (simp_all; done) | (simp_all; omega))
  exact .finE [.r []] [] (fun z0 => (VI z0, [])) (x.n : Int) ((szD x) : Int) e2

theorem fc_dCheck (l : List DStep) (hd : DN 400000000000 l) : FC Try.prog 109 [VL 4 dstepT l] (app emp []) (VI (checkD l)) (app emp []) := by
 refine .go Try.f109 ?_
 refine .len 0 (fun hl0 => ?_)
 refine .loop (α := Int × Int × Nat) [.r [], .r [], .r [(1, X (Xl dstepT l))]] 48 (fun (b, a, i) => ([(0, VL 4 dstepT l), (3, VI b), (4, VI a), (9, VL 4 dstepT l), (10, VI (l.length : Int)), (11, VI (i : Int))], [])) (fun (b, a, i) => i ≤ l.length ∧ 0 ≤ b ∧ b ≤ 2147483648 ∧ 0 ≤ a ∧ a ≤ 2147483648 ∧ checkD l = chkD l i b a) (fun (b, a, i) => l.length - i) (0, 0, 0) ?_ ?_
 ·
  exact ⟨by omega, by decide, by decide, by decide, by decide, rfl⟩
 rintro ⟨b, a, i⟩ I3 ih3
 try dsimp only at I3
 refine .br [.r []] (decide ((i : Int) < (l.length : Int))) (fun h3 => ?_) (fun h3 => ?_)
 ·
  (try simp only [decide_eq_true_eq, decide_eq_false_iff_not, Int.not_lt, Int.not_le] at h3)
  refine .br [.r [(1, X (Xi dstepT l (i : Int)))], .r [(1, X (Xc0 (fc_step ((l.getD i default))) X0))], .r []] ((stepD ((l.getD i default))) != 0) (fun h6 => ?_) (fun h6 => ?_)
  ·
   (try simp only [bne_iff_ne, bne_eq_false_iff_eq, ne_eq] at h6)
   have e1 : ((checkD l) : Int) = (stepD ((l.getD i default))) := by
    rw [I3.2.2.2.2.2, chkD]; ((repeat' split) <;> first | rfl | omega | (simp_all; done) | (simp_all; omega))
   exact .finE [.r []] [] (fun z0 => (VI z0, [])) ((stepD ((l.getD i default))) : Int) ((checkD l) : Int) e1
  ·
   (try simp only [bne_iff_ne, bne_eq_false_iff_eq, ne_eq] at h6)
   have hz := stepD_sz (s := l.getD i default) (by omega)
   obtain ⟨hx, _, _⟩ := hd.at_ (k := i) (by omega)
   refine .br [.r []] (decide ((i : Int) > 0)) (fun h8 => ?_) (fun h8 => ?_)
   ·
    (try simp only [decide_eq_true_eq, decide_eq_false_iff_not, Int.not_lt, Int.not_le, gt_iff_lt] at h8)
    refine .br [.r [(2, X (Xn ((i : Int) - 1))), (3, X (Xi' dstepT l ((i : Int) - 1) (i - 1)))], .r [(7, Xv 1 ((((l.getD (i - 1) default)).kind) == (((l.getD i default)).kind)) X0), (8, Xv 1 ((((l.getD (i - 1) default)).kind) == (((l.getD i default)).kind)) X0), (9, Xv 1 ((((l.getD (i - 1) default)).kind) == (((l.getD i default)).kind)) X0), (11, Xv 1 (((((l.getD (i - 1) default)).kind) == (((l.getD i default)).kind)) && !((((l.getD i default)).kind) != 0)) X0), (13, Xv 1 (((((l.getD (i - 1) default)).kind) == (((l.getD i default)).kind)) && !((((l.getD i default)).kind) != 0)) X0), (14, Xv 2 (((((l.getD (i - 1) default)).kind) == (((l.getD i default)).kind)) && !((((l.getD i default)).kind) != 0)) (Xc0 (fc_attrSame (((l.getD (i - 1) default)).attrs) (((l.getD i default)).attrs)) X0)), (15, Xko ((((l.getD (i - 1) default)).kind) == (((l.getD i default)).kind)) ((((l.getD i default)).kind) != 0)), (16, X (Xk ((((l.getD (i - 1) default)).kind) == (((l.getD i default)).kind)))), (19, Xv 1 (!(((((l.getD (i - 1) default)).kind) == (((l.getD i default)).kind)) && (((((l.getD i default)).kind) != 0) || (sameL (((l.getD (i - 1) default)).attrs) (((l.getD i default)).attrs))))) X0), (20, Xv 1 (!(((((l.getD (i - 1) default)).kind) == (((l.getD i default)).kind)) && (((((l.getD i default)).kind) != 0) || (sameL (((l.getD (i - 1) default)).attrs) (((l.getD i default)).attrs))))) X0), (21, Xv 1 (!(((((l.getD (i - 1) default)).kind) == (((l.getD i default)).kind)) && (((((l.getD i default)).kind) != 0) || (sameL (((l.getD (i - 1) default)).attrs) (((l.getD i default)).attrs))))) X0), (23, Xv 1 ((!(((((l.getD (i - 1) default)).kind) == (((l.getD i default)).kind)) && (((((l.getD i default)).kind) != 0) || (sameL (((l.getD (i - 1) default)).attrs) (((l.getD i default)).attrs))))) && ((((l.getD (i - 1) default)).kind) == 2)) X0), (24, Xv 1 ((!(((((l.getD (i - 1) default)).kind) == (((l.getD i default)).kind)) && (((((l.getD i default)).kind) != 0) || (sameL (((l.getD (i - 1) default)).attrs) (((l.getD i default)).attrs))))) && ((((l.getD (i - 1) default)).kind) == 2)) X0), (25, Xka (!(((((l.getD (i - 1) default)).kind) == (((l.getD i default)).kind)) && (((((l.getD i default)).kind) != 0) || (sameL (((l.getD (i - 1) default)).attrs) (((l.getD i default)).attrs))))) ((((l.getD (i - 1) default)).kind) == 2)), (26, X (Xk' (((((l.getD (i - 1) default)).kind) == (((l.getD i default)).kind)) && (((((l.getD i default)).kind) != 0) || (sameL (((l.getD (i - 1) default)).attrs) (((l.getD i default)).attrs))))))]] ((((((l.getD (i - 1) default)).kind) == (((l.getD i default)).kind)) && (((((l.getD i default)).kind) != 0) || (sameL (((l.getD (i - 1) default)).attrs) (((l.getD i default)).attrs)))) || (((((l.getD (i - 1) default)).kind) == 2) && ((((l.getD i default)).kind) == 1))) (fun h10 => ?_) (fun h10 => ?_)
    ·
     (try simp only [Bool.and_eq_true, Bool.and_eq_false_iff, Bool.not_eq_true', Bool.not_eq_false', Bool.or_eq_true, Bool.or_eq_false_iff, beq_iff_eq, beq_eq_false_iff_ne, ne_eq, bne_iff_ne, bne_eq_false_iff_eq] at h10)
     have e2 : ((checkD l) : Int) = 5 := by
      rw [I3.2.2.2.2.2, chkD, if_pos (by omega), if_neg (by omega), if_pos ⟨by omega, adjD_yes.2 h10⟩]
     exact .finE [.r []] [] (fun z0 => (VI z0, [])) (5 : Int) ((checkD l) : Int) e2
    ·
     (try simp only [Bool.and_eq_true, Bool.and_eq_false_iff, Bool.not_eq_true', Bool.not_eq_false', Bool.or_eq_true, Bool.or_eq_false_iff, beq_iff_eq, beq_eq_false_iff_ne, ne_eq, bne_iff_ne, bne_eq_false_iff_eq] at h10)
     refine .br [.r []] ((((l.getD i default)).kind) != 1) (fun h12 => ?_) (fun h12 => ?_)
     ·
      (try simp only [bne_iff_ne, bne_eq_false_iff_eq, ne_eq] at h12)
      refine .br [.r [(3, X (Xn (b + (((l.getD i default)).n)))), (4, X (Xmin (b + (((l.getD i default)).n)) 2147483648))], .r []] ((((l.getD i default)).kind) != 2) (fun h14 => ?_) (fun h14 => ?_)
      ·
       (try simp only [bne_iff_ne, bne_eq_false_iff_eq, ne_eq] at h14)
       refine .at 528 [(80, 80)] ([(0, VL 4 dstepT l), (3, VI (min (b + (((l.getD i default)).n)) 2147483648)), (4, VI a), (6, .ptr 80 0), (9, VL 4 dstepT l), (10, VI (l.length : Int)), (11, VI (i : Int)), (65, VB ((((l.getD i default)).kind) != 2))], [(80, .box [VI (((l.getD i default)).kind), VI (((l.getD i default)).n), VL 2 attrT (((l.getD i default)).attrs), VL 3 elemT (((l.getD i default)).elems)])]) ?_
       refine .back [.r [(2, X (Xc0 (fc_size ((l.getD i default))) X0)), (3, X (Xn (a + (szD ((l.getD i default)))))), (4, X (Xmin (a + (szD ((l.getD i default)))) 2147483648))], .r [(0, X (Xn ((i : Int) + 1)))]] [] (ih3 ((min (b + (((l.getD i default)).n)) 2147483648), (min (a + (szD ((l.getD i default)))) 2147483648), (i + 1)) ?_ ?_)
       ·
        refine ⟨by omega, by omega, by omega, by omega, by omega, ?_⟩
        rw [I3.2.2.2.2.2, chkD, if_pos (by omega), if_neg (by omega), if_neg (by first | omega | exact fun hh => adjD_no h10 hh.2)]
        ((repeat' split) <;> first | rfl | omega | (simp_all; done) | (simp_all; omega))
       ·
        ((try dsimp only); omega)
      ·
       (try simp only [bne_iff_ne, bne_eq_false_iff_eq, ne_eq] at h14)
       refine .at 528 [(80, 80)] ([(0, VL 4 dstepT l), (3, VI (min (b + (((l.getD i default)).n)) 2147483648)), (4, VI a), (6, .ptr 80 0), (9, VL 4 dstepT l), (10, VI (l.length : Int)), (11, VI (i : Int)), (65, VB ((((l.getD i default)).kind) != 2))], [(80, .box [VI (((l.getD i default)).kind), VI (((l.getD i default)).n), VL 2 attrT (((l.getD i default)).attrs), VL 3 elemT (((l.getD i default)).elems)])]) ?_
       refine .back [.r [(0, X (Xn ((i : Int) + 1)))]] [] (ih3 ((min (b + (((l.getD i default)).n)) 2147483648), a, (i + 1)) ?_ ?_)
       ·
        refine ⟨by omega, by omega, by omega, by omega, by omega, ?_⟩
        rw [I3.2.2.2.2.2, chkD, if_pos (by omega), if_neg (by omega), if_neg (by first | omega | exact fun hh => adjD_no h10 hh.2)]
        ((repeat' split) <;> first | rfl | omega | (simp_all; done) | (simp_all; omega))
       ·
        ((try dsimp only); omega)
     ·
      (try simp only [bne_iff_ne, bne_eq_false_iff_eq, ne_eq] at h12)
      refine .br [.r []] ((((l.getD i default)).kind) != 2) (fun h14 => ?_) (fun h14 => ?_)
      ·
       (try simp only [bne_iff_ne, bne_eq_false_iff_eq, ne_eq] at h14)
       refine .at 480 [(80, 80)] ([(0, VL 4 dstepT l), (3, VI b), (4, VI a), (6, .ptr 80 0), (9, VL 4 dstepT l), (10, VI (l.length : Int)), (11, VI (i : Int)), (65, VB ((((l.getD i default)).kind) != 2))], [(80, .box [VI (((l.getD i default)).kind), VI (((l.getD i default)).n), VL 2 attrT (((l.getD i default)).attrs), VL 3 elemT (((l.getD i default)).elems)])]) ?_
       refine .back [.r [(2, X (Xc0 (fc_size ((l.getD i default))) X0)), (3, X (Xn (a + (szD ((l.getD i default)))))), (4, X (Xmin (a + (szD ((l.getD i default)))) 2147483648))], .r [(0, X (Xn ((i : Int) + 1)))]] [] (ih3 (b, (min (a + (szD ((l.getD i default)))) 2147483648), (i + 1)) ?_ ?_)
       ·
        refine ⟨by omega, by omega, by omega, by omega, by omega, ?_⟩
        rw [I3.2.2.2.2.2, chkD, if_pos (by omega), if_neg (by omega), if_neg (by first | omega | exact fun hh => adjD_no h10 hh.2)]
        ((repeat' split) <;> first | rfl | omega | (simp_all; done) | (simp_all; omega))
       ·
        ((try dsimp only); omega)
      ·
       (try simp only [bne_iff_ne, bne_eq_false_iff_eq, ne_eq] at h14)
       refine .at 480 [(80, 80)] ([(0, VL 4 dstepT l), (3, VI b), (4, VI a), (6, .ptr 80 0), (9, VL 4 dstepT l), (10, VI (l.length : Int)), (11, VI (i : Int)), (65, VB ((((l.getD i default)).kind) != 2))], [(80, .box [VI (((l.getD i default)).kind), VI (((l.getD i default)).n), VL 2 attrT (((l.getD i default)).attrs), VL 3 elemT (((l.getD i default)).elems)])]) ?_
       refine .back [.r [(0, X (Xn ((i : Int) + 1)))]] [] (ih3 (b, a, (i + 1)) ?_ ?_)
       ·
        refine ⟨by omega, by omega, by omega, by omega, by omega, ?_⟩
        rw [I3.2.2.2.2.2, chkD, if_pos (by omega), if_neg (by omega), if_neg (by first | omega | exact fun hh => adjD_no h10 hh.2)]
        ((repeat' split) <;> first | rfl | omega | (simp_all; done) | (simp_all; omega))
       ·
        ((try dsimp only); omega)
   ·
    (try simp only [decide_eq_true_eq, decide_eq_false_iff_not, Int.not_lt, Int.not_le, gt_iff_lt] at h8)
    refine .br [.r []] ((((l.getD i default)).kind) != 1) (fun h12 => ?_) (fun h12 => ?_)
    ·
     (try simp only [bne_iff_ne, bne_eq_false_iff_eq, ne_eq] at h12)
     refine .br [.r [(3, X (Xn (b + (((l.getD i default)).n)))), (4, X (Xmin (b + (((l.getD i default)).n)) 2147483648))], .r []] ((((l.getD i default)).kind) != 2) (fun h14 => ?_) (fun h14 => ?_)
     ·
      (try simp only [bne_iff_ne, bne_eq_false_iff_eq, ne_eq] at h14)
      refine .back [.r [(2, X (Xc0 (fc_size ((l.getD i default))) X0)), (3, X (Xn (a + (szD ((l.getD i default)))))), (4, X (Xmin (a + (szD ((l.getD i default)))) 2147483648))], .r [(0, X (Xn ((i : Int) + 1)))]] [] (ih3 ((min (b + (((l.getD i default)).n)) 2147483648), (min (a + (szD ((l.getD i default)))) 2147483648), (i + 1)) ?_ ?_)
      ·
       refine ⟨by omega, by omega, by omega, by omega, by omega, ?_⟩
       rw [I3.2.2.2.2.2, chkD, if_pos (by omega), if_neg (by omega), if_neg (by first | omega | exact fun hh => adjD_no h10 hh.2)]
       ((repeat' split) <;> first | rfl | omega | (simp_all; done) | (simp_all; omega))
      ·
       ((try dsimp only); omega)
     ·
      (try simp only [bne_iff_ne, bne_eq_false_iff_eq, ne_eq] at h14)
      refine .back [.r [(0, X (Xn ((i : Int) + 1)))]] [] (ih3 ((min (b + (((l.getD i default)).n)) 2147483648), a, (i + 1)) ?_ ?_)
      ·
       refine ⟨by omega, by omega, by omega, by omega, by omega, ?_⟩
       rw [I3.2.2.2.2.2, chkD, if_pos (by omega), if_neg (by omega), if_neg (by first | omega | exact fun hh => adjD_no h10 hh.2)]
       ((repeat' split) <;> first | rfl | omega | (simp_all; done) | (simp_all; omega))
      ·
       ((try dsimp only); omega)
    ·
     (try simp only [bne_iff_ne, bne_eq_false_iff_eq, ne_eq] at h12)
     refine .br [.r []] ((((l.getD i default)).kind) != 2) (fun h14 => ?_) (fun h14 => ?_)
     ·
      (try simp only [bne_iff_ne, bne_eq_false_iff_eq, ne_eq] at h14)
      refine .back [.r [(2, X (Xc0 (fc_size ((l.getD i default))) X0)), (3, X (Xn (a + (szD ((l.getD i default)))))), (4, X (Xmin (a + (szD ((l.getD i default)))) 2147483648))], .r [(0, X (Xn ((i : Int) + 1)))]] [] (ih3 (b, (min (a + (szD ((l.getD i default)))) 2147483648), (i + 1)) ?_ ?_)
      ·
       refine ⟨by omega, by omega, by omega, by omega, by omega, ?_⟩
       rw [I3.2.2.2.2.2, chkD, if_pos (by omega), if_neg (by omega), if_neg (by first | omega | exact fun hh => adjD_no h10 hh.2)]
       ((repeat' split) <;> first | rfl | omega | (simp_all; done) | (simp_all; omega))
      ·
       ((try dsimp only); omega)
     ·
      (try simp only [bne_iff_ne, bne_eq_false_iff_eq, ne_eq] at h14)
      refine .back [.r [(0, X (Xn ((i : Int) + 1)))]] [] (ih3 (b, a, (i + 1)) ?_ ?_)
      ·
       refine ⟨by omega, by omega, by omega, by omega, by omega, ?_⟩
       rw [I3.2.2.2.2.2, chkD, if_pos (by omega), if_neg (by omega), if_neg (by first | omega | exact fun hh => adjD_no h10 hh.2)]
       ((repeat' split) <;> first | rfl | omega | (simp_all; done) | (simp_all; omega))
      ·
       ((try dsimp only); omega)
 ·
  (try simp only [decide_eq_true_eq, decide_eq_false_iff_not, Int.not_lt, Int.not_le] at h3)
  refine .br [.r [(4, Xv 1 (!(decide (b > 2147483647))) X0), (5, X (Xk' (decide (b > 2147483647))))]] (decide (b > 2147483647) || decide (a > 2147483647)) (fun h17 => ?_) (fun h17 => ?_)
  ·
   (try simp only [decide_eq_true_eq, decide_eq_false_iff_not, Int.not_lt, Int.not_le, gt_iff_lt, Bool.or_eq_true, Bool.or_eq_false_iff] at h17)
   have e3 : ((checkD l) : Int) = 3 := by
    rw [I3.2.2.2.2.2, chkD]; ((repeat' split) <;> first | rfl | omega | (simp_all; done) | (simp_all; omega))
   exact .finE [.r []] [] (fun z0 => (VI z0, [])) (3 : Int) ((checkD l) : Int) e3
  ·
   (try simp only [decide_eq_true_eq, decide_eq_false_iff_not, Int.not_lt, Int.not_le, gt_iff_lt, Bool.or_eq_true, Bool.or_eq_false_iff] at h17)
   have e4 : ((checkD l) : Int) = 0 := by
    rw [I3.2.2.2.2.2, chkD]; ((repeat' split) <;> first | rfl | omega | (simp_all; done) | (simp_all; omega))
   exact .finE [.r []] [] (fun z0 => (VI z0, [])) (0 : Int) ((checkD l) : Int) e4

theorem fc_dLens (l : List DStep) (hv : DValid l) : FC Try.prog 110 [VL 4 dstepT l] (app emp []) (.tup [VI (oldD l), VI (newD l)]) (app emp []) := by
 refine .go Try.f110 ?_
 refine .len 0 (fun hl0 => ?_)
 refine .loop (α := Int × Int × Nat) [.r [], .r [], .r [(1, X (Xl dstepT l))]] 56 (fun (b, a, i) => ([(4, VI b), (5, VI a), (8, VL 4 dstepT l), (9, VI (l.length : Int)), (10, VI (i : Int))], [])) (fun (b, a, i) => i ≤ l.length ∧ 0 ≤ b ∧ 0 ≤ a ∧ oldD l = b + oldD (l.drop i) ∧ newD l = a + newD (l.drop i)) (fun (b, a, i) => l.length - i) (0, 0, 0) ?_ ?_
 ·
  exact ⟨by omega, by decide, by decide, by simp, by simp⟩
 rintro ⟨b, a, i⟩ I3 ih3
 try dsimp only at I3
 have hv1 := hv.2.1
 have hv2 := hv.2.2
 refine .br [.r []] (decide ((i : Int) < (l.length : Int))) (fun h3 => ?_) (fun h3 => ?_)
 ·
  (try simp only [decide_eq_true_eq, decide_eq_false_iff_not, Int.not_lt, Int.not_le] at h3)
  have hst := dlens_step (l := l) (i := i) (by omega) hv.1
  refine .br [.r [(0, X (Xi dstepT l (i : Int)))], .r []] ((((l.getD i default)).kind) != 1) (fun h5 => ?_) (fun h5 => ?_)
  ·
   (try simp only [bne_iff_ne, bne_eq_false_iff_eq, ne_eq] at h5)
   have s1 := hst.1
   rw [if_neg (by omega)] at s1
   refine .br [.r [(3, X (Xn (b + (((l.getD i default)).n))))], .r []] ((((l.getD i default)).kind) != 2) (fun h7 => ?_) (fun h7 => ?_)
   ·
    (try simp only [bne_iff_ne, bne_eq_false_iff_eq, ne_eq] at h7)
    have s2 := hst.2.1
    rw [if_neg (by omega)] at s2
    refine .back [.r [(2, X (Xc0 (fc_size ((l.getD i default))) X0)), (3, X (Xn (a + (szD ((l.getD i default))))))], .r [(0, X (Xn ((i : Int) + 1)))]] [] (ih3 ((b + (((l.getD i default)).n)), (a + (szD ((l.getD i default)))), (i + 1)) ?_ ?_)
    ·
     obtain ⟨s1, s2, s3, s4, s5, s6, s7, s8⟩ := hst
     first | rw [if_pos (by omega)] at s1 | rw [if_neg (by omega)] at s1
     first | rw [if_pos (by omega)] at s2 | rw [if_neg (by omega)] at s2
     refine ⟨by omega, by omega, by omega, by omega, by omega⟩
    ·
     ((try dsimp only); omega)
   ·
    (try simp only [bne_iff_ne, bne_eq_false_iff_eq, ne_eq] at h7)
    refine .back [.r [(0, X (Xn ((i : Int) + 1)))]] [] (ih3 ((b + (((l.getD i default)).n)), a, (i + 1)) ?_ ?_)
    ·
     obtain ⟨s1, s2, s3, s4, s5, s6, s7, s8⟩ := hst
     first | rw [if_pos (by omega)] at s1 | rw [if_neg (by omega)] at s1
     first | rw [if_pos (by omega)] at s2 | rw [if_neg (by omega)] at s2
     refine ⟨by omega, by omega, by omega, by omega, by omega⟩
    ·
     ((try dsimp only); omega)
  ·
   (try simp only [bne_iff_ne, bne_eq_false_iff_eq, ne_eq] at h5)
   refine .br [.r []] ((((l.getD i default)).kind) != 2) (fun h7 => ?_) (fun h7 => ?_)
   ·
    (try simp only [bne_iff_ne, bne_eq_false_iff_eq, ne_eq] at h7)
    have s2 := hst.2.1
    rw [if_neg (by omega)] at s2
    refine .back [.r [(2, X (Xc0 (fc_size ((l.getD i default))) X0)), (3, X (Xn (a + (szD ((l.getD i default))))))], .r [(0, X (Xn ((i : Int) + 1)))]] [] (ih3 (b, (a + (szD ((l.getD i default)))), (i + 1)) ?_ ?_)
    ·
     obtain ⟨s1, s2, s3, s4, s5, s6, s7, s8⟩ := hst
     first | rw [if_pos (by omega)] at s1 | rw [if_neg (by omega)] at s1
     first | rw [if_pos (by omega)] at s2 | rw [if_neg (by omega)] at s2
     refine ⟨by omega, by omega, by omega, by omega, by omega⟩
    ·
     ((try dsimp only); omega)
   ·
    (try simp only [bne_iff_ne, bne_eq_false_iff_eq, ne_eq] at h7)
    refine .back [.r [(0, X (Xn ((i : Int) + 1)))]] [] (ih3 (b, a, (i + 1)) ?_ ?_)
    ·
     obtain ⟨s1, s2, s3, s4, s5, s6, s7, s8⟩ := hst
     first | rw [if_pos (by omega)] at s1 | rw [if_neg (by omega)] at s1
     first | rw [if_pos (by omega)] at s2 | rw [if_neg (by omega)] at s2
     refine ⟨by omega, by omega, by omega, by omega, by omega⟩
    ·
     ((try dsimp only); omega)
 ·
  (try simp only [decide_eq_true_eq, decide_eq_false_iff_not, Int.not_lt, Int.not_le] at h3)
  have e1 : ((oldD l) : Int) = b := by
   have hE := dend (l := l) (i := i) (by omega)
   omega
  have e2 : ((newD l) : Int) = a := by
   have hE := dend (l := l) (i := i) (by omega)
   omega
  exact .finE [.r []] [] (fun (z0, z1) => (.tup [VI z0, VI z1], [])) ((b : Int), (a : Int)) (((oldD l) : Int), ((newD l) : Int)) (pr e1 e2)
end Go.Ch
end
section
set_option linter.unusedVariables false
set_option linter.unusedSimpArgs false
set_option maxRecDepth 100000
set_option maxHeartbeats 4000000
open Go Go.Proofs Go.Ab
namespace Go.Ch
theorem fc_dRaw (f : List Elem) (l : List DStep) (hv : DValid l) (hd : DN 400000000000 l) (ha : AN 400000000000 f) (hlen : oldD l = f.length) : FC Try.prog 108 [VL 3 elemT f, VL 4 dstepT l] (app emp []) (VL 3 elemT (rawD f l)) (app emp []) := by
 refine .go Try.f108 ?_
 refine .len 0 (fun hl0 => ?_)
 refine .len 1 (fun hl1 => ?_)
 refine .loop (α := (List Elem) × Nat × (List Elem)) [.r [], .r [], .r [(1, X (Xl dstepT l))], .le (.nR 5 3)] 41 (fun (r, i, o) => ([(0, VL 3 elemT r), (5, .row 40 o.length), (8, VL 4 dstepT l), (9, VI (l.length : Int)), (10, VI (i : Int))], [(40, OR 3 elemT o)])) (fun (r, i, o) => i ≤ l.length ∧ AN 400000000000 r ∧ oldD (l.drop i) = r.length ∧ o.length + newD (l.drop i) = newD l ∧ rawD f l = o ++ applyU (exD (l.drop i)) r) (fun (r, i, o) => l.length - i) (f, 0, []) ?_ ?_
 ·
  exact ⟨by omega, ha, by simpa using hlen, by simp, by simp [rawD]⟩
 rintro ⟨r, i, o⟩ I3 ih3
 try dsimp only at I3
 have hv1 := hv.2.1
 have hv2 := hv.2.2
 refine .br [.r []] (decide ((i : Int) < (l.length : Int))) (fun h3 => ?_) (fun h3 => ?_)
 ·
  (try simp only [decide_eq_true_eq, decide_eq_false_iff_not, Int.not_lt, Int.not_le] at h3)
  have hst := dlens_step (l := l) (i := i) (by omega) hv.1
  obtain ⟨hx, hx2, hx3⟩ := hd.at_ (k := i) (by omega)
  have hr := raw_at (d := l) (i := i) (by omega) r
  refine .br [.r [(0, X (Xi dstepT l (i : Int)))], .r [], .r []] ((((l.getD i default)).kind) == 0) (fun h7 => ?_) (fun h7 => ?_)
  ·
   (try simp only [beq_iff_eq, beq_eq_false_iff_ne, ne_eq] at h7)
   obtain ⟨s1, s2, s3, s4, s5, s6, s7, s8⟩ := hst
   rw [if_neg (by omega)] at s1 s2
   have hz : szD (l.getD i default) = (l.getD i default).n := by unfold szD; rw [if_neg (by omega)]
   have hl8 : (r.take (l.getD i default).n.toNat).length = (l.getD i default).n.toNat := by rw [List.length_take]; omega
   have hs8 : ∀ x ∈ r.take (l.getD i default).n.toNat, x.attrs.length + (l.getD i default).attrs.length < 1099511627776 := fun x hx => by have := I3.2.1 x (List.mem_of_mem_take hx); omega
   refine .back [.r [(4, X (Xst elemT 3 r (((l.getD i default)).n))), (7, X (Xc1 169 (fc_changed (r.take (Int.toNat (((l.getD i default)).n))) (((l.getD i default)).attrs) (by omega) (by assumption)) X0)), (8, X (Xap 3 elemT 40 o (List.map (chgE (((l.getD i default)).attrs)) (r.take (Int.toNat (((l.getD i default)).n))))))], .r [(3, X (Xsd elemT 3 r (((l.getD i default)).n)))], .r [(0, X (Xn ((i : Int) + 1)))]] [(40, 40)] (ih3 ((r.drop (Int.toNat (((l.getD i default)).n))), (i + 1), (o ++ (List.map (chgE (((l.getD i default)).attrs)) (r.take (Int.toNat (((l.getD i default)).n)))))) ?_ ?_)
   ·
    refine ⟨by omega, fun x hx => I3.2.1 x (List.mem_of_mem_drop hx), by (rw [List.length_drop]; omega), by (simp only [List.length_append, List.length_map]; omega), ?_⟩
    rw [I3.2.2.2.2, hr, if_neg (by omega), if_neg (by omega), List.append_assoc]
   ·
    show l.length - (i + 1) < l.length - i; omega
  ·
   (try simp only [beq_iff_eq, beq_eq_false_iff_ne, ne_eq] at h7)
   refine .br [.r []] ((((l.getD i default)).kind) == 1) (fun h10 => ?_) (fun h10 => ?_)
   ·
    (try simp only [beq_iff_eq, beq_eq_false_iff_ne, ne_eq] at h10)
    obtain ⟨s1, s2, s3, s4, s5, s6, s7, s8⟩ := hst
    rw [if_pos (by omega)] at s1
    rw [if_neg (by omega)] at s2
    have hz : szD (l.getD i default) = (l.getD i default).elems.length := by unfold szD; rw [if_pos (by omega)]
    refine .back [.r [(3, X (Xc1 153 (fc_copy (((l.getD i default)).elems) (by omega) (by assumption)) X0)), (4, X (Xap 3 elemT 40 o (((l.getD i default)).elems)))], .r [(0, X (Xn ((i : Int) + 1)))]] [(40, 40)] (ih3 (r, (i + 1), (o ++ (((l.getD i default)).elems))) ?_ ?_)
    ·
     refine ⟨by omega, I3.2.1, by omega, by (simp only [List.length_append]; omega), ?_⟩
     rw [I3.2.2.2.2, hr, if_pos (by omega), List.append_assoc]
    ·
     show l.length - (i + 1) < l.length - i; omega
   ·
    (try simp only [beq_iff_eq, beq_eq_false_iff_ne, ne_eq] at h10)
    obtain ⟨s1, s2, s3, s4, s5, s6, s7, s8⟩ := hst
    rw [if_neg (by omega)] at s1
    rw [if_pos (by omega)] at s2
    refine .back [.r [(3, X (Xsd elemT 3 r (((l.getD i default)).n)))], .r [(0, X (Xn ((i : Int) + 1)))]] [(40, 40)] (ih3 ((r.drop (Int.toNat (((l.getD i default)).n))), (i + 1), o) ?_ ?_)
    ·
     refine ⟨by omega, fun x hx => I3.2.1 x (List.mem_of_mem_drop hx), by (rw [List.length_drop]; omega), by omega, ?_⟩
     rw [I3.2.2.2.2, hr, if_neg (by omega), if_pos (by omega)]
    ·
     show l.length - (i + 1) < l.length - i; omega
 ·
  (try simp only [decide_eq_true_eq, decide_eq_false_iff_not, Int.not_lt, Int.not_le] at h3)
  have e1 : ((rawD f l) : List Elem) = o := by
   rw [I3.2.2.2.2, List.drop_eq_nil_of_le (by omega)]; simp [exD, applyU]
  exact .finE [.r [], .le (.fr 4 [(o.length : Nat) = (List.map elemT o).length] ⟨lm, trivial⟩)] [] (fun z0 => (VL 3 elemT z0, [])) (o : List Elem) ((rawD f l) : List Elem) e1

theorem fc_dFits (f : List Elem) (l : List DStep) (hp : partE f 0 = 0) (hv : DValid l) (hd : DN 400000000000 l) (hlen : oldD l = f.length) : FC Try.prog 107 [VL 3 elemT f, VL 4 dstepT l] (app emp []) (VI 0) (app emp []) := by
 refine .go Try.f107 ?_
 refine .len 0 (fun hl0 => ?_)
 refine .len 1 (fun hl1 => ?_)
 have hc := checkD_iff.2 hv
 refine .br [.r [], .r [(1, X (Xc0 (fc_checkPart f) X0))], .r []] ((partE f 0) != 0) (fun h2 => ?_) (fun h2 => ?_)
 ·
  (try simp only [bne_iff_ne, bne_eq_false_iff_eq, ne_eq] at h2)
  exfalso
  omega
 ·
  (try simp only [bne_iff_ne, bne_eq_false_iff_eq, ne_eq] at h2)
  refine .br [.r [(1, X (Xc0 (fc_dCheck l (by assumption)) X0))], .r []] ((checkD l) != 0) (fun h5 => ?_) (fun h5 => ?_)
  ·
   (try simp only [bne_iff_ne, bne_eq_false_iff_eq, ne_eq] at h5)
   exfalso
   omega
  ·
   (try simp only [bne_iff_ne, bne_eq_false_iff_eq, ne_eq] at h5)
   refine .br [.r [(1, X (Xc0 (fc_dLens l (by assumption)) X0))], .r [(2, X (Xl elemT f))]] ((oldD l) != (f.length : Int)) (fun h8 => ?_) (fun h8 => ?_)
   ·
    (try simp only [bne_iff_ne, bne_eq_false_iff_eq, ne_eq] at h8)
    exfalso
    omega
   ·
    (try simp only [bne_iff_ne, bne_eq_false_iff_eq, ne_eq] at h8)
    exact .fin [.r []] []

theorem fc_dApply (f : List Elem) (l : List DStep) (hp : partE f 0 = 0) (hv : DValid l) (hd : DN 400000000000 l) (ha : AN 400000000000 f) (hlen : oldD l = f.length) : FC Try.prog 53 [VL 3 elemT f, VL 4 dstepT l] (app emp []) (.tup [VL 3 elemT (rawD f l), VI 0]) (app emp []) := by
 refine .go Try.f53 ?_
 refine .len 0 (fun hl0 => ?_)
 refine .len 1 (fun hl1 => ?_)
 exact .fin [.r [], .r [(2, X (Xc0 (fc_dFits f l (by assumption) (by assumption) (by assumption) (by omega)) X0))], .r [], .f, .r [(2, X (Xc1 80 (fc_dRaw f l (by assumption) (by assumption) (by assumption) (by omega)) X0))]] []

def DSz (l : List DStep) : Prop := ∀ s ∈ l, Szd s.attrs ∧ SzE s.elems
theorem DSz.at_ {l : List DStep} (h : DSz l) {k : Nat} (hk : k < l.length) : Szd (l.getD k default).attrs ∧ SzE (l.getD k default).elems := by
  refine h _ ?_
  rw [show l.getD k default = l[k] by simp [List.getD, List.getElem?_eq_getElem hk]]
  exact List.getElem_mem hk

end Go.Ch
end
section
set_option linter.unusedVariables false
set_option linter.unusedSimpArgs false
set_option maxRecDepth 100000
set_option maxHeartbeats 4000000
open Go Go.Proofs Go.Ab
namespace Go.Ch
end Go.Ch
end
section
set_option linter.unusedVariables false
set_option linter.unusedSimpArgs false
set_option maxRecDepth 100000
set_option maxHeartbeats 4000000
open Go Go.Proofs Go.Ab
namespace Go.Ch
end Go.Ch
end
section
set_option linter.unusedVariables false
set_option linter.unusedSimpArgs false
set_option maxRecDepth 100000
set_option maxHeartbeats 4000000
open Go Go.Proofs Go.Ab
namespace Go.Ch
end Go.Ch
end
