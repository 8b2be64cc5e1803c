/- Parts of the proof: ChAxis, ChAxis2, ChAxis3, AxisJoin, ChAxis4, ChAxis5, AxisFacts, AxisPlace, ChAxis6. -/
import Derived.Test.YthpcjddcgdlilaaDoorM1
import Derived.Test.YthpcjddcgdlilaaDoorM2
import Derived.Test.YthpcjddcgdlilaaDoorM3
import Derived.Test.YthpcjddcgdlilaaDoorM4
import Derived.Test.YthpcjddcgdlilaaDoorProg
section
set_option linter.unusedVariables false
set_option linter.unusedSimpArgs false
set_option maxRecDepth 100000
set_option maxHeartbeats 4000000
open Go Go.Proofs Go.Ab
namespace Go.Ch
def intT (z : Int) : Tree := .sc (.int .i64 z)
def withinI (x lo hi : Int) : Int := lo + ((x.tmod (hi - lo + 1)) + (hi - lo + 1)).tmod (hi - lo + 1)
theorem tmod_bd (x : Int) {n : Int} (hn : 0 < n) : -n < x.tmod n ∧ x.tmod n < n := by
  have h1 := Int.tmod_lt_of_pos x hn
  have h2 : -n < x.tmod n := by
    rcases Int.le_total 0 x with h | h
    · have := Int.tmod_nonneg n h; omega
    · have h3 := Int.tmod_lt_of_pos (-x) hn
      rw [Int.neg_tmod] at h3; omega
  exact ⟨h2, h1⟩
theorem withinI_bd (x : Int) {lo hi : Int} (h : lo ≤ hi) : lo ≤ withinI x lo hi ∧ withinI x lo hi ≤ hi := by
  unfold withinI
  have h1 := tmod_bd x (n := hi - lo + 1) (by omega)
  have h2 := Int.tmod_nonneg (hi - lo + 1) (a := (x.tmod (hi - lo + 1)) + (hi - lo + 1)) (by omega)
  have h3 := Int.tmod_lt_of_pos ((x.tmod (hi - lo + 1)) + (hi - lo + 1)) (b := hi - lo + 1) (by omega)
  omega
def rollV (raw : List Int) (used n : Int) : Int := if raw.length = 0 then 0 else withinI (IntKind.i64.wrap (raw.getD ((used + 1 - 1) % (raw.length : Int)).toNat default + (used + 1) / (raw.length : Int))) 0 (n - 1)
def rollU (raw : List Int) (used : Int) : Int := if raw.length = 0 then used else used + 1
theorem rollV_bd (raw : List Int) (used : Int) {n : Int} (h : 1 ≤ n) : 0 ≤ rollV raw used n ∧ rollV raw used n < n := by
  unfold rollV
  split
  · omega
  · have := withinI_bd (IntKind.i64.wrap (raw.getD ((used + 1 - 1) % (raw.length : Int)).toNat default + (used + 1) / (raw.length : Int))) (lo := 0) (hi := n - 1) (by omega)
    omega
theorem idx_bd {u : Int} {l : List Int} (h : 0 < l.length) (hu : 0 ≤ u) : 0 ≤ u % (l.length : Int) ∧ u % (l.length : Int) < l.length := by
  exact ⟨Int.emod_nonneg _ (by omega), Int.emod_lt_of_pos _ (by omega)⟩

theorem fc_within (x lo hi : Int) (hl : -1000000000000 ≤ lo ∧ lo ≤ hi ∧ hi ≤ 1000000000000) : FC Tryd.prog 13 [VI x, VI lo, VI hi] (app emp []) (VI (withinI x lo hi)) (app emp []) := by
 refine .go Tryd.f13 ?_
 have e1 : ((withinI x lo hi) : Int) = (lo + (((x.tmod ((hi - lo) + 1)) + ((hi - lo) + 1)).tmod ((hi - lo) + 1))) := by
  rfl
 exact .finE [.r [], .r [(2, X (Xn (hi - lo))), (3, X (Xn ((hi - lo) + 1)))], .r [(3, X (Xc ((((hi - lo) + 1) : Int) ≠ 0))), (5, X (Xn ((x.tmod ((hi - lo) + 1)) + ((hi - lo) + 1))) (by have h1 := tmod_bd x (n := hi - lo + 1) (by omega); omega)), (7, X (Xc ((((hi - lo) + 1) : Int) ≠ 0))), (8, X (Xn (lo + (((x.tmod ((hi - lo) + 1)) + ((hi - lo) + 1)).tmod ((hi - lo) + 1)))) (by have h1 := withinI_bd x (lo := lo) (hi := hi) (by omega); unfold withinI at h1; omega))]] [] (fun z0 => (VI z0, [])) ((lo + (((x.tmod ((hi - lo) + 1)) + ((hi - lo) + 1)).tmod ((hi - lo) + 1))) : Int) ((withinI x lo hi) : Int) e1

theorem fc_roll (raw : List Int) (used n : Int) (hu : 0 ≤ used ∧ used ≤ 1000000000000) (hn : 1 ≤ n ∧ n ≤ 1000000000000) (hll : raw.length ≤ 9223372036854775807) : FC Tryd.prog 40 [.ptr 0 0, VI n] (app emp [(0, .box [VL 1 intT raw, VI used])]) (VI (rollV raw used n)) (app emp [(0, .box [VL 1 intT raw, VI (rollU raw used)])]) := by
 refine .go Tryd.f40 ?_
 refine .br [.r [], .r [(4, X (Xl intT raw))]] ((raw.length : Int) == 0) (fun h1 => ?_) (fun h1 => ?_)
 ·
  (try simp only [beq_iff_eq, beq_eq_false_iff_ne, ne_eq] at h1)
  have e1 : ((rollU raw used) : Int) = used := by
   unfold rollU; ((repeat' split) <;> first | rfl | omega | (simp_all; done) | (simp_all; omega))
  have e2 : ((rollV raw used n) : Int) = 0 := by
   unfold rollV; ((repeat' split) <;> first | rfl | omega | (simp_all; done) | (simp_all; omega))
  exact .finE [.r []] [(0, 0)] (fun (z0, z1) => (VI z1, [(0, .box [VL 1 intT raw, VI z0])])) ((used : Int), (0 : Int)) (((rollU raw used) : Int), ((rollV raw used n) : Int)) (pr e1 e2)
 ·
  (try simp only [beq_iff_eq, beq_eq_false_iff_ne, ne_eq] at h1)
  have hr := idx_bd (l := raw) (u := used + 1 - 1) (by omega) (by omega)
  have e3 : ((rollU raw used) : Int) = (used + 1) := by
   unfold rollU; ((repeat' split) <;> first | rfl | omega | (simp_all; done) | (simp_all; omega))
  have e4 : ((rollV raw used n) : Int) = (withinI (IntKind.i64.wrap ((raw.getD (Int.toNat (((used + 1) - 1) % (raw.length : Int))) default) + ((used + 1) / (raw.length : Int)))) 0 (n - 1)) := by
   unfold rollV; ((repeat' split) <;> first | rfl | omega | (simp_all; done) | (simp_all; omega))
  exact .finE [.r [(4, X (Xn (used + 1)))], .r [(8, X (Xn ((used + 1) - 1))), (13, X (Xl intT raw)), (14, X (Xrem ((used + 1) - 1) (raw.length : Int))), (15, X (Xi intT raw (((used + 1) - 1) % (raw.length : Int)))), (25, X (Xl intT raw)), (26, X (Xquo (used + 1) (raw.length : Int)) (by refine ⟨by omega, by omega, by omega⟩)), (29, X (Xn (n - 1))), (30, X (Xc0 (fc_within (IntKind.i64.wrap ((raw.getD (Int.toNat (((used + 1) - 1) % (raw.length : Int))) default) + ((used + 1) / (raw.length : Int)))) 0 (n - 1) (by omega)) X0))]] [(0, 0)] (fun (z0, z1) => (VI z1, [(0, .box [VL 1 intT raw, VI z0])])) (((used + 1) : Int), ((withinI (IntKind.i64.wrap ((raw.getD (Int.toNat (((used + 1) - 1) % (raw.length : Int))) default) + ((used + 1) / (raw.length : Int)))) 0 (n - 1)) : Int)) (((rollU raw used) : Int), ((rollV raw used n) : Int)) (pr e3 e4)

def segE (u : List Int) (i k : Nat) : Nat := if k < u.length ∧ (u.getD k default = 0 ↔ u.getD i default = 0) then segE u i (k + 1) else k
termination_by u.length - k
def cntX (u : List Int) (i k : Nat) (x : Int) : Nat := ((u.drop i).take (k - i)).countP (fun y => decide (y = x))
def o1 (k : Int) (n : Nat) : List AxStep := if 0 < n then [⟨k, (n : Int)⟩] else []
def o3 (a b c : Nat) : List AxStep := o1 0 a ++ (o1 1 b ++ o1 2 c)
theorem segE_ge (u : List Int) (i k : Nat) : k ≤ segE u i k := by
  induction k using segE.induct (u := u) (i := i) with
  | case1 k h ih => rw [segE, if_pos h]; omega
  | case2 k h => rw [segE, if_neg h]; omega
theorem segE_le (u : List Int) (i k : Nat) (h : k ≤ u.length) : segE u i k ≤ u.length := by
  induction k using segE.induct (u := u) (i := i) with
  | case1 k hc ih => rw [segE, if_pos hc]; exact ih (by omega)
  | case2 k hc => rw [segE, if_neg hc]; omega
theorem segE_gt (u : List Int) (i : Nat) (h : i < u.length) : i < segE u i i := by
  rw [segE, if_pos ⟨h, Iff.rfl⟩]; exact segE_ge _ _ _
def stepsL (u : List Int) (i : Nat) (out : List AxStep) : List AxStep :=
  if h : i < u.length then stepsL u (segE u i i) (out ++ o3 (cntX u i (segE u i i) 0) (cntX u i (segE u i i) 1) (cntX u i (segE u i i) 2)) else out
termination_by u.length - i
decreasing_by have := segE_gt u i h; omega
theorem take_one {u : List Int} {i k : Nat} (hi : i ≤ k) (hk : k < u.length) : (u.drop i).take (k + 1 - i) = (u.drop i).take (k - i) ++ [u.getD k default] := by
  rw [show k + 1 - i = (k - i) + 1 by omega, List.take_succ_eq_append_getElem (by simp; omega)]
  congr 2
  rw [List.getElem_drop]
  simp [List.getD, List.getElem?_eq_getElem hk, show i + (k - i) = k by omega]
theorem cntX_step {u : List Int} {i k : Nat} (hi : i ≤ k) (hk : k < u.length) (x : Int) : cntX u i (k + 1) x = cntX u i k x + (if u.getD k default = x then 1 else 0) := by
  unfold cntX
  rw [take_one hi hk, List.countP_append, List.countP_singleton]
  simp only [decide_eq_true_eq]
theorem cntX_le (u : List Int) (i k : Nat) (x : Int) : cntX u i k x ≤ k - i := by
  unfold cntX
  refine Nat.le_trans List.countP_le_length ?_
  rw [List.length_take]; omega
theorem hu3_of {u : List Int} (h : ∀ x ∈ u, 0 ≤ x ∧ x ≤ 2) {k : Nat} (hk : k < u.length) : u.getD k default = 0 ∨ u.getD k default = 1 ∨ u.getD k default = 2 := by
  have := h (u.getD k default) (by rw [show u.getD k default = u[k] by simp [List.getD, List.getElem?_eq_getElem hk]]; exact List.getElem_mem hk)
  omega
theorem beq_cls {a b : Int} (h : (a == 0) = (b == 0)) : a = 0 ↔ b = 0 := by
  rw [Bool.eq_iff_iff] at h; simpa using h
theorem beq_cls' {a b : Int} (h : ¬ (a == 0) = (b == 0)) : ¬ (a = 0 ↔ b = 0) := by
  intro hh
  exact h (by rw [Bool.eq_iff_iff]; simpa using hh)
theorem cntX_self (u : List Int) (i : Nat) (x : Int) : cntX u i i x = 0 := by unfold cntX; simp
end Go.Ch
end
section
set_option linter.unusedVariables false
set_option linter.unusedSimpArgs false
set_option maxRecDepth 100000
set_option maxHeartbeats 4000000
open Go Go.Proofs Go.Ab
namespace Go.Ch
theorem fc_steps (u : List Int) (hu : ∀ x ∈ u, 0 ≤ x ∧ x ≤ 2) (hlen : u.length ≤ 1000000000) : FC Tryd.prog 41 [VL 1 intT u] (app emp []) (VL 2 stepT (stepsL u 0 [])) (app emp []) := by
 refine .go Tryd.f41 ?_
 refine .len 0 (fun hl0 => ?_)
 refine .loop (α := Nat × (List AxStep)) [.r [], .r [], .r [], .le (.nR 3 2)] 25 (fun (i, out) => ([(0, VL 1 intT u), (3, .row 24 out.length), (4, VI (i : Int))], [(24, OR 2 stepT out)])) (fun (i, out) => i ≤ u.length ∧ out.length ≤ 3 * i ∧ stepsL u 0 [] = stepsL u i out) (fun (i, out) => u.length - i) (0, []) ?_ ?_
 ·
  exact ⟨by omega, by simp, rfl⟩
 rintro ⟨i, out⟩ I3 ih3
 try dsimp only at I3
 refine .br [.r [(2, X (Xl intT u))]] (decide ((i : Int) < (u.length : Int))) (fun h3 => ?_) (fun h3 => ?_)
 ·
  (try simp only [decide_eq_true_eq, decide_eq_false_iff_not, Int.not_lt, Int.not_le] at h3)
  refine .loop (α := Nat × Int × Int × Int) [.r [], .r []] 81 (fun (k, o57c0, o57c1, o57c2) => ([(0, VL 1 intT u), (3, .row 24 out.length), (4, VI (i : Int)), (5, .ptr 57 0), (6, VI (k : Int))], [(24, OR 2 stepT out), (57, .box [VI o57c0, VI o57c1, VI o57c2])])) (fun (k, o57c0, o57c1, o57c2) => i ≤ k ∧ k ≤ u.length ∧ segE u i i = segE u i k ∧ o57c0 = (cntX u i k 0 : Int) ∧ o57c1 = (cntX u i k 1 : Int) ∧ o57c2 = (cntX u i k 2 : Int)) (fun (k, o57c0, o57c1, o57c2) => u.length - k) (i, 0, 0, 0) ?_ ?_
  ·
   exact ⟨by omega, by omega, rfl, by simp [cntX_self]⟩
  rintro ⟨k, o57c0, o57c1, o57c2⟩ I6 ih6
  try dsimp only at I6
  refine .br [.r [(2, X (Xl intT u)), (7, Xv 2 (decide ((k : Int) < (u.length : Int))) (Xi intT u (k : Int))), (8, Xv 1 (decide ((k : Int) < (u.length : Int))) X0), (9, Xv 1 (decide ((k : Int) < (u.length : Int))) X0), (12, Xv 2 (decide ((k : Int) < (u.length : Int))) (Xi intT u (i : Int))), (13, Xv 1 (decide ((k : Int) < (u.length : Int))) X0), (14, Xv 1 (decide ((k : Int) < (u.length : Int))) X0), (15, Xv 2 (decide ((k : Int) < (u.length : Int))) X0), (16, X (Xk (decide ((k : Int) < (u.length : Int)))))]] (decide ((k : Int) < (u.length : Int)) && (((u.getD k default) == 0) == ((u.getD i default) == 0))) (fun h6 => ?_) (fun h6 => ?_)
  ·
   (try simp only [decide_eq_true_eq, decide_eq_false_iff_not, Int.not_lt, Int.not_le, Bool.and_eq_true, Bool.and_eq_false_iff, Bool.not_eq_true', Bool.not_eq_false', beq_iff_eq, beq_eq_false_iff_ne, ne_eq] at h6)
   have hu3 := hu3_of hu (k := k) (by omega)
   have q0 := cntX_le u i k 0
   have q1 := cntX_le u i k 1
   have q2 := cntX_le u i k 2
   rcases hu3 with hk | hk | hk
   ·
    refine .back [.r [(2, X (Xi intT u (k : Int))), (4, X (Xlit 57 0 1 3 (u.getD k default) 0) ⟨hk, (by first | omega | (simp; omega) | (simp; done) | assumption)⟩), (6, X (Xn (o57c0 + 1))), (7, X (Xlit 57 0 1 3 (u.getD k default) 0) ⟨hk, (by first | omega | (simp; omega) | (simp; done) | assumption)⟩)], .r [(1, X (Xn ((k : Int) + 1)))]] [(24, 24), (57, 57)] (ih6 ((k + 1), (o57c0 + 1), o57c1, o57c2) ?_ ?_)
    ·
     have s0 := cntX_step (u := u) (i := i) (k := k) (by omega) (by omega) 0
     have s1 := cntX_step (u := u) (i := i) (k := k) (by omega) (by omega) 1
     have s2 := cntX_step (u := u) (i := i) (k := k) (by omega) (by omega) 2
     rw [hk] at s0 s1 s2
     simp at s0 s1 s2
     refine ⟨by omega, by omega, ?_, by omega, by omega, by omega⟩
     rw [I6.2.2.1, segE, if_pos ⟨by omega, beq_cls h6.2⟩]
    ·
     ((try dsimp only); omega)
   ·
    refine .back [.r [(2, X (Xi intT u (k : Int))), (4, X (Xlit 57 0 1 3 (u.getD k default) 1) ⟨hk, (by first | omega | (simp; omega) | (simp; done) | assumption)⟩), (6, X (Xn (o57c1 + 1))), (7, X (Xlit 57 0 1 3 (u.getD k default) 1) ⟨hk, (by first | omega | (simp; omega) | (simp; done) | assumption)⟩)], .r [(1, X (Xn ((k : Int) + 1)))]] [(24, 24), (57, 57)] (ih6 ((k + 1), o57c0, (o57c1 + 1), o57c2) ?_ ?_)
    ·
     have s0 := cntX_step (u := u) (i := i) (k := k) (by omega) (by omega) 0
     have s1 := cntX_step (u := u) (i := i) (k := k) (by omega) (by omega) 1
     have s2 := cntX_step (u := u) (i := i) (k := k) (by omega) (by omega) 2
     rw [hk] at s0 s1 s2
     simp at s0 s1 s2
     refine ⟨by omega, by omega, ?_, by omega, by omega, by omega⟩
     rw [I6.2.2.1, segE, if_pos ⟨by omega, beq_cls h6.2⟩]
    ·
     ((try dsimp only); omega)
   ·
    refine .back [.r [(2, X (Xi intT u (k : Int))), (4, X (Xlit 57 0 1 3 (u.getD k default) 2) ⟨hk, (by first | omega | (simp; omega) | (simp; done) | assumption)⟩), (6, X (Xn (o57c2 + 1))), (7, X (Xlit 57 0 1 3 (u.getD k default) 2) ⟨hk, (by first | omega | (simp; omega) | (simp; done) | assumption)⟩)], .r [(1, X (Xn ((k : Int) + 1)))]] [(24, 24), (57, 57)] (ih6 ((k + 1), o57c0, o57c1, (o57c2 + 1)) ?_ ?_)
    ·
     have s0 := cntX_step (u := u) (i := i) (k := k) (by omega) (by omega) 0
     have s1 := cntX_step (u := u) (i := i) (k := k) (by omega) (by omega) 1
     have s2 := cntX_step (u := u) (i := i) (k := k) (by omega) (by omega) 2
     rw [hk] at s0 s1 s2
     simp at s0 s1 s2
     refine ⟨by omega, by omega, ?_, by omega, by omega, by omega⟩
     rw [I6.2.2.1, segE, if_pos ⟨by omega, beq_cls h6.2⟩]
    ·
     ((try dsimp only); omega)
  ·
   (try simp only [decide_eq_true_eq, decide_eq_false_iff_not, Int.not_lt, Int.not_le, Bool.and_eq_true, Bool.and_eq_false_iff, Bool.not_eq_true', Bool.not_eq_false', beq_iff_eq, beq_eq_false_iff_ne, ne_eq] at h6)
   refine .br [.r [], .u, .r [], .t, .r [], .r [(1, X (Xa (Xc ((0:Int) ≤ 0)) (Xc (0 < ((3 : Nat) : Int)))))]] (decide (o57c0 > 0)) (fun h12 => ?_) (fun h12 => ?_)
   ·
    (try simp only [decide_eq_true_eq, decide_eq_false_iff_not, Int.not_lt, Int.not_le, gt_iff_lt] at h12)
    refine .br [.r [(3, X (Xa (Xc ((0:Int) ≤ 0)) (Xc (0 < ((3 : Nat) : Int))))), (7, X (rowC stepT [({ kind := 0, n := o57c0 } : AxStep)] (Xap 2 stepT 24 out [({ kind := 0, n := o57c0 } : AxStep)])))], .r [], .u, .r [], .t, .r [], .r [(1, X (Xa (Xc ((0:Int) ≤ 1)) (Xc (1 < ((3 : Nat) : Int)))))]] (decide (o57c1 > 0)) (fun h12 => ?_) (fun h12 => ?_)
    ·
     (try simp only [decide_eq_true_eq, decide_eq_false_iff_not, Int.not_lt, Int.not_le, gt_iff_lt] at h12)
     refine .br [.r [(3, X (Xa (Xc ((0:Int) ≤ 1)) (Xc (1 < ((3 : Nat) : Int))))), (7, X (rowC stepT [({ kind := 1, n := o57c1 } : AxStep)] (Xap 2 stepT 24 (out ++ [({ kind := 0, n := o57c0 } : AxStep)]) [({ kind := 1, n := o57c1 } : AxStep)])))], .r [], .u, .r [], .t, .r [], .r [(1, X (Xa (Xc ((0:Int) ≤ 2)) (Xc (2 < ((3 : Nat) : Int)))))]] (decide (o57c2 > 0)) (fun h12 => ?_) (fun h12 => ?_)
     ·
      (try simp only [decide_eq_true_eq, decide_eq_false_iff_not, Int.not_lt, Int.not_le, gt_iff_lt] at h12)
      have hE : segE u i k = k := by rw [segE, if_neg (by rcases h6 with h | h; omega; exact fun hh => beq_cls' h hh.2)]
      have hG := segE_gt u i (by omega)
      rw [I6.2.2.1, hE] at hG
      refine .back [.r [(3, X (Xa (Xc ((0:Int) ≤ 2)) (Xc (2 < ((3 : Nat) : Int))))), (7, X (rowC stepT [({ kind := 2, n := o57c2 } : AxStep)] (Xap 2 stepT 24 ((out ++ [({ kind := 0, n := o57c0 } : AxStep)]) ++ [({ kind := 1, n := o57c1 } : AxStep)]) [({ kind := 2, n := o57c2 } : AxStep)])))], .r [], .u, .r [], .f, .r []] [(24, 24)] (ih3 (k, (((out ++ [({ kind := 0, n := o57c0 } : AxStep)]) ++ [({ kind := 1, n := o57c1 } : AxStep)]) ++ [({ kind := 2, n := o57c2 } : AxStep)])) ?_ ?_)
      ·
       refine ⟨by omega, by ((try simp only [List.length_append, List.length_cons, List.length_nil]); omega), ?_⟩
       rw [I3.2.2, stepsL, dif_pos (by omega), I6.2.2.1, hE]
       try simp only [I6.2.2.2.1, I6.2.2.2.2.1, I6.2.2.2.2.2]
       congr 1
       simp only [o3, o1]
       (repeat (first | rw [if_pos (by omega)] | rw [if_neg (by omega)]))
       simp
      ·
       show u.length - k < u.length - i; omega
     ·
      (try simp only [decide_eq_true_eq, decide_eq_false_iff_not, Int.not_lt, Int.not_le, gt_iff_lt] at h12)
      have hE : segE u i k = k := by rw [segE, if_neg (by rcases h6 with h | h; omega; exact fun hh => beq_cls' h hh.2)]
      have hG := segE_gt u i (by omega)
      rw [I6.2.2.1, hE] at hG
      refine .back [.r [], .u, .r [], .f, .r []] [(24, 24)] (ih3 (k, ((out ++ [({ kind := 0, n := o57c0 } : AxStep)]) ++ [({ kind := 1, n := o57c1 } : AxStep)])) ?_ ?_)
      ·
       refine ⟨by omega, by ((try simp only [List.length_append, List.length_cons, List.length_nil]); omega), ?_⟩
       rw [I3.2.2, stepsL, dif_pos (by omega), I6.2.2.1, hE]
       try simp only [I6.2.2.2.1, I6.2.2.2.2.1, I6.2.2.2.2.2]
       congr 1
       simp only [o3, o1]
       (repeat (first | rw [if_pos (by omega)] | rw [if_neg (by omega)]))
       simp
      ·
       show u.length - k < u.length - i; omega
    ·
     (try simp only [decide_eq_true_eq, decide_eq_false_iff_not, Int.not_lt, Int.not_le, gt_iff_lt] at h12)
     refine .br [.r [], .u, .r [], .t, .r [], .r [(1, X (Xa (Xc ((0:Int) ≤ 2)) (Xc (2 < ((3 : Nat) : Int)))))]] (decide (o57c2 > 0)) (fun h12 => ?_) (fun h12 => ?_)
     ·
      (try simp only [decide_eq_true_eq, decide_eq_false_iff_not, Int.not_lt, Int.not_le, gt_iff_lt] at h12)
      have hE : segE u i k = k := by rw [segE, if_neg (by rcases h6 with h | h; omega; exact fun hh => beq_cls' h hh.2)]
      have hG := segE_gt u i (by omega)
      rw [I6.2.2.1, hE] at hG
      refine .back [.r [(3, X (Xa (Xc ((0:Int) ≤ 2)) (Xc (2 < ((3 : Nat) : Int))))), (7, X (rowC stepT [({ kind := 2, n := o57c2 } : AxStep)] (Xap 2 stepT 24 (out ++ [({ kind := 0, n := o57c0 } : AxStep)]) [({ kind := 2, n := o57c2 } : AxStep)])))], .r [], .u, .r [], .f, .r []] [(24, 24)] (ih3 (k, ((out ++ [({ kind := 0, n := o57c0 } : AxStep)]) ++ [({ kind := 2, n := o57c2 } : AxStep)])) ?_ ?_)
      ·
       refine ⟨by omega, by ((try simp only [List.length_append, List.length_cons, List.length_nil]); omega), ?_⟩
       rw [I3.2.2, stepsL, dif_pos (by omega), I6.2.2.1, hE]
       try simp only [I6.2.2.2.1, I6.2.2.2.2.1, I6.2.2.2.2.2]
       congr 1
       simp only [o3, o1]
       (repeat (first | rw [if_pos (by omega)] | rw [if_neg (by omega)]))
       simp
      ·
       show u.length - k < u.length - i; omega
     ·
      (try simp only [decide_eq_true_eq, decide_eq_false_iff_not, Int.not_lt, Int.not_le, gt_iff_lt] at h12)
      have hE : segE u i k = k := by rw [segE, if_neg (by rcases h6 with h | h; omega; exact fun hh => beq_cls' h hh.2)]
      have hG := segE_gt u i (by omega)
      rw [I6.2.2.1, hE] at hG
      refine .back [.r [], .u, .r [], .f, .r []] [(24, 24)] (ih3 (k, (out ++ [({ kind := 0, n := o57c0 } : AxStep)])) ?_ ?_)
      ·
       refine ⟨by omega, by ((try simp only [List.length_append, List.length_cons, List.length_nil]); omega), ?_⟩
       rw [I3.2.2, stepsL, dif_pos (by omega), I6.2.2.1, hE]
       try simp only [I6.2.2.2.1, I6.2.2.2.2.1, I6.2.2.2.2.2]
       congr 1
       simp only [o3, o1]
       (repeat (first | rw [if_pos (by omega)] | rw [if_neg (by omega)]))
       simp
      ·
       show u.length - k < u.length - i; omega
   ·
    (try simp only [decide_eq_true_eq, decide_eq_false_iff_not, Int.not_lt, Int.not_le, gt_iff_lt] at h12)
    refine .br [.r [], .u, .r [], .t, .r [], .r [(1, X (Xa (Xc ((0:Int) ≤ 1)) (Xc (1 < ((3 : Nat) : Int)))))]] (decide (o57c1 > 0)) (fun h12 => ?_) (fun h12 => ?_)
    ·
     (try simp only [decide_eq_true_eq, decide_eq_false_iff_not, Int.not_lt, Int.not_le, gt_iff_lt] at h12)
     refine .br [.r [(3, X (Xa (Xc ((0:Int) ≤ 1)) (Xc (1 < ((3 : Nat) : Int))))), (7, X (rowC stepT [({ kind := 1, n := o57c1 } : AxStep)] (Xap 2 stepT 24 out [({ kind := 1, n := o57c1 } : AxStep)])))], .r [], .u, .r [], .t, .r [], .r [(1, X (Xa (Xc ((0:Int) ≤ 2)) (Xc (2 < ((3 : Nat) : Int)))))]] (decide (o57c2 > 0)) (fun h12 => ?_) (fun h12 => ?_)
     ·
      (try simp only [decide_eq_true_eq, decide_eq_false_iff_not, Int.not_lt, Int.not_le, gt_iff_lt] at h12)
      have hE : segE u i k = k := by rw [segE, if_neg (by rcases h6 with h | h; omega; exact fun hh => beq_cls' h hh.2)]
      have hG := segE_gt u i (by omega)
      rw [I6.2.2.1, hE] at hG
      refine .back [.r [(3, X (Xa (Xc ((0:Int) ≤ 2)) (Xc (2 < ((3 : Nat) : Int))))), (7, X (rowC stepT [({ kind := 2, n := o57c2 } : AxStep)] (Xap 2 stepT 24 (out ++ [({ kind := 1, n := o57c1 } : AxStep)]) [({ kind := 2, n := o57c2 } : AxStep)])))], .r [], .u, .r [], .f, .r []] [(24, 24)] (ih3 (k, ((out ++ [({ kind := 1, n := o57c1 } : AxStep)]) ++ [({ kind := 2, n := o57c2 } : AxStep)])) ?_ ?_)
      ·
       refine ⟨by omega, by ((try simp only [List.length_append, List.length_cons, List.length_nil]); omega), ?_⟩
       rw [I3.2.2, stepsL, dif_pos (by omega), I6.2.2.1, hE]
       try simp only [I6.2.2.2.1, I6.2.2.2.2.1, I6.2.2.2.2.2]
       congr 1
       simp only [o3, o1]
       (repeat (first | rw [if_pos (by omega)] | rw [if_neg (by omega)]))
       simp
      ·
       show u.length - k < u.length - i; omega
     ·
      (try simp only [decide_eq_true_eq, decide_eq_false_iff_not, Int.not_lt, Int.not_le, gt_iff_lt] at h12)
      have hE : segE u i k = k := by rw [segE, if_neg (by rcases h6 with h | h; omega; exact fun hh => beq_cls' h hh.2)]
      have hG := segE_gt u i (by omega)
      rw [I6.2.2.1, hE] at hG
      refine .back [.r [], .u, .r [], .f, .r []] [(24, 24)] (ih3 (k, (out ++ [({ kind := 1, n := o57c1 } : AxStep)])) ?_ ?_)
      ·
       refine ⟨by omega, by ((try simp only [List.length_append, List.length_cons, List.length_nil]); omega), ?_⟩
       rw [I3.2.2, stepsL, dif_pos (by omega), I6.2.2.1, hE]
       try simp only [I6.2.2.2.1, I6.2.2.2.2.1, I6.2.2.2.2.2]
       congr 1
       simp only [o3, o1]
       (repeat (first | rw [if_pos (by omega)] | rw [if_neg (by omega)]))
       simp
      ·
       show u.length - k < u.length - i; omega
    ·
     (try simp only [decide_eq_true_eq, decide_eq_false_iff_not, Int.not_lt, Int.not_le, gt_iff_lt] at h12)
     refine .br [.r [], .u, .r [], .t, .r [], .r [(1, X (Xa (Xc ((0:Int) ≤ 2)) (Xc (2 < ((3 : Nat) : Int)))))]] (decide (o57c2 > 0)) (fun h12 => ?_) (fun h12 => ?_)
     ·
      (try simp only [decide_eq_true_eq, decide_eq_false_iff_not, Int.not_lt, Int.not_le, gt_iff_lt] at h12)
      have hE : segE u i k = k := by rw [segE, if_neg (by rcases h6 with h | h; omega; exact fun hh => beq_cls' h hh.2)]
      have hG := segE_gt u i (by omega)
      rw [I6.2.2.1, hE] at hG
      refine .back [.r [(3, X (Xa (Xc ((0:Int) ≤ 2)) (Xc (2 < ((3 : Nat) : Int))))), (7, X (rowC stepT [({ kind := 2, n := o57c2 } : AxStep)] (Xap 2 stepT 24 out [({ kind := 2, n := o57c2 } : AxStep)])))], .r [], .u, .r [], .f, .r []] [(24, 24)] (ih3 (k, (out ++ [({ kind := 2, n := o57c2 } : AxStep)])) ?_ ?_)
      ·
       refine ⟨by omega, by ((try simp only [List.length_append, List.length_cons, List.length_nil]); omega), ?_⟩
       rw [I3.2.2, stepsL, dif_pos (by omega), I6.2.2.1, hE]
       try simp only [I6.2.2.2.1, I6.2.2.2.2.1, I6.2.2.2.2.2]
       congr 1
       simp only [o3, o1]
       (repeat (first | rw [if_pos (by omega)] | rw [if_neg (by omega)]))
       simp
      ·
       show u.length - k < u.length - i; omega
     ·
      (try simp only [decide_eq_true_eq, decide_eq_false_iff_not, Int.not_lt, Int.not_le, gt_iff_lt] at h12)
      have hE : segE u i k = k := by rw [segE, if_neg (by rcases h6 with h | h; omega; exact fun hh => beq_cls' h hh.2)]
      have hG := segE_gt u i (by omega)
      rw [I6.2.2.1, hE] at hG
      refine .back [.r [], .u, .r [], .f, .r []] [(24, 24)] (ih3 (k, out) ?_ ?_)
      ·
       refine ⟨by omega, by ((try simp only [List.length_append, List.length_cons, List.length_nil]); omega), ?_⟩
       rw [I3.2.2, stepsL, dif_pos (by omega), I6.2.2.1, hE]
       try simp only [I6.2.2.2.1, I6.2.2.2.2.1, I6.2.2.2.2.2]
       congr 1
       simp only [o3, o1]
       (repeat (first | rw [if_pos (by omega)] | rw [if_neg (by omega)]))
       simp
      ·
       show u.length - k < u.length - i; omega
 ·
  (try simp only [decide_eq_true_eq, decide_eq_false_iff_not, Int.not_lt, Int.not_le] at h3)
  have e1 : ((stepsL u 0 []) : List AxStep) = out := by
   rw [I3.2.2, stepsL, dif_neg (by omega)]
  exact .finE [.r [], .le (.fr 2 [(out.length : Nat) = (List.map stepT out).length] ⟨lm, trivial⟩)] [] (fun z0 => (VL 2 stepT z0, [])) (out : List AxStep) ((stepsL u 0 []) : List AxStep) e1

theorem rollU_bd (raw : List Int) (used : Int) : used ≤ rollU raw used ∧ rollU raw used ≤ used + 1 := by unfold rollU; split <;> omega
def fitA (u : List Int) (v : Int) : List Int := u ++ List.replicate (max 0 (v - 3)).toNat 1
def fitL (raw : List Int) : Nat → Int → List Int → List Int × Int
  | 0, used, u => (u, used)
  | r + 1, used, u => fitL raw r (rollU raw (rollU raw used)) (fitA u (rollV raw used 6) ++ [if rollV raw (rollU raw used) 6 = 0 then 2 else 0])
def fitU (raw : List Int) (n : Nat) : List Int := fitA (fitL raw n 0 []).1 (rollV raw (fitL raw n 0 []).2 6)
def U3 (u : List Int) : Prop := ∀ x ∈ u, 0 ≤ x ∧ x ≤ 2
theorem U3.app {u v : List Int} (h : U3 u) (k : U3 v) : U3 (u ++ v) := fun x hx => by
  rcases List.mem_append.1 hx with hx | hx
  · exact h x hx
  · exact k x hx
theorem U3.one {x : Int} (h : 0 ≤ x ∧ x ≤ 2) : U3 [x] := fun y hy => by rw [List.mem_singleton] at hy; subst hy; exact h
theorem U3.reps (j : Nat) : U3 (List.replicate j 1) := fun y hy => by rw [List.eq_of_mem_replicate hy]; decide
theorem fitA_at {u w : List Int} {v : Int} {j : Nat} (hw : w = u ++ List.replicate j 1) (h1 : (j : Int) ≤ max 0 (v - 3)) (h2 : max 0 (v - 3) ≤ (j : Int)) : fitA u v = w := by
  unfold fitA; rw [hw]; congr 2; omega

theorem fc_fitting (n : Int) (raw : List Int) (hn : 0 ≤ n ∧ n ≤ 100000000) : FC Tryd.prog 22 [VI n, VL 1 intT raw] (app emp []) (VL 2 stepT (stepsL (fitU raw n.toNat) 0 [])) (app emp []) := by
 refine .go Tryd.f22 ?_
 refine .len 1 (fun hl1 => ?_)
 refine .loop (α := Nat × Int × (List Int)) [.r [], .r [], .r [], .r [], .le (.nR 5 1)] 65 (fun (i, o32c1, u) => ([(5, .row 64 u.length), (6, .ptr 32 0), (10, VI n), (11, VI (i : Int))], [(32, .box [VL 1 intT raw, VI o32c1]), (64, OR 1 intT u)])) (fun (i, o32c1, u) => (i : Int) ≤ n ∧ 0 ≤ o32c1 ∧ o32c1 ≤ 2 * i ∧ u.length ≤ 3 * i ∧ U3 u ∧ fitL raw n.toNat 0 [] = fitL raw (n.toNat - i) o32c1 u) (fun (i, o32c1, u) => n.toNat - i) (0, 0, []) ?_ ?_
 ·
  exact ⟨by omega, by decide, by omega, by simp, fun x hx => (by cases hx), rfl⟩
 rintro ⟨i, o32c1, u⟩ I4 ih4
 try dsimp only at I4
 have r1 := rollU_bd raw o32c1
 have r2 := rollU_bd raw (rollU raw o32c1)
 have v1 := rollV_bd raw o32c1 (n := 6) (by decide)
 have v2 := rollV_bd raw (rollU raw o32c1) (n := 6) (by decide)
 refine .br [.r []] (decide ((i : Int) < n)) (fun h4 => ?_) (fun h4 => ?_)
 ·
  (try simp only [decide_eq_true_eq, decide_eq_false_iff_not, Int.not_lt, Int.not_le] at h4)
  refine .loop (α := Nat × (List Int)) [.r [(1, X (Xc3 81 [(0, 32)] (fc_roll raw o32c1 6 (by omega) (by omega) (by omega)) X0)), (2, X (Xn ((rollV raw o32c1 6) - 3))), (3, X (Xmax 0 ((rollV raw o32c1 6) - 3)))]] 113 (fun (j, w) => ([(5, .row 64 w.length), (6, .ptr 32 0), (10, VI n), (11, VI (i : Int)), (16, VI (max 0 ((rollV raw o32c1 6) - 3))), (17, VI (j : Int))], [(32, .box [VL 1 intT raw, VI (rollU raw o32c1)]), (64, OR 1 intT w)])) (fun (j, w) => (j : Int) ≤ (max 0 ((rollV raw o32c1 6) - 3)) ∧ w = u ++ List.replicate j 1) (fun (j, w) => ((max 0 ((rollV raw o32c1 6) - 3))).toNat - j) (0, u) ?_ ?_
  ·
   exact ⟨by omega, by simp⟩
  rintro ⟨j, w⟩ I6 ih6
  try dsimp only at I6
  have wl : w.length = u.length + j := by rw [I6.2]; simp
  refine .br [.r []] (decide ((j : Int) < (max 0 ((rollV raw o32c1 6) - 3)))) (fun h6 => ?_) (fun h6 => ?_)
  ·
   (try simp only [decide_eq_true_eq, decide_eq_false_iff_not, Int.not_lt, Int.not_le] at h6)
   refine .back [.r [(2, X (rowC intT [1] (Xap 1 intT 64 w [1])))], .r [(0, X (Xn ((j : Int) + 1)))]] [(32, 32), (64, 64)] (ih6 ((j + 1), (w ++ [1])) ?_ ?_)
   ·
    exact ⟨by omega, by rw [I6.2, List.append_assoc, ← List.replicate_succ']⟩
   ·
    ((try dsimp only); omega)
  ·
   (try simp only [decide_eq_true_eq, decide_eq_false_iff_not, Int.not_lt, Int.not_le] at h6)
   refine .br [.r [(1, X (Xc3 129 [(0, 32)] (fc_roll raw (rollU raw o32c1) 6 (by omega) (by omega) (by omega)) X0))]] ((rollV raw (rollU raw o32c1) 6) == 0) (fun h9 => ?_) (fun h9 => ?_)
   ·
    (try simp only [beq_iff_eq, beq_eq_false_iff_ne, ne_eq] at h9)
    refine .back [.r [(2, X (rowC intT [2] (Xap 1 intT 64 w [2])))], .r [(0, X (Xn ((i : Int) + 1)))]] [(32, 32), (64, 64)] (ih4 ((i + 1), (rollU raw (rollU raw o32c1)), (w ++ [2])) ?_ ?_)
    ·
     have fa := fitA_at (v := rollV raw o32c1 6) I6.2 I6.1 (by omega)
     refine ⟨by omega, by omega, by omega, by (simp only [List.length_append, List.length_cons, List.length_nil]; omega), ?_, ?_⟩
     · exact U3.app (by rw [I6.2]; exact U3.app I4.2.2.2.2.1 (U3.reps _)) (U3.one (by decide))
     · rw [I4.2.2.2.2.2, show n.toNat - i = (n.toNat - (i + 1)) + 1 by omega, fitL, fa]
       first | rw [if_pos h9] | rw [if_neg h9]
    ·
     ((try dsimp only); omega)
   ·
    (try simp only [beq_iff_eq, beq_eq_false_iff_ne, ne_eq] at h9)
    refine .back [.r [(2, X (rowC intT [0] (Xap 1 intT 64 w [0])))], .r [(0, X (Xn ((i : Int) + 1)))]] [(32, 32), (64, 64)] (ih4 ((i + 1), (rollU raw (rollU raw o32c1)), (w ++ [0])) ?_ ?_)
    ·
     have fa := fitA_at (v := rollV raw o32c1 6) I6.2 I6.1 (by omega)
     refine ⟨by omega, by omega, by omega, by (simp only [List.length_append, List.length_cons, List.length_nil]; omega), ?_, ?_⟩
     · exact U3.app (by rw [I6.2]; exact U3.app I4.2.2.2.2.1 (U3.reps _)) (U3.one (by decide))
     · rw [I4.2.2.2.2.2, show n.toNat - i = (n.toNat - (i + 1)) + 1 by omega, fitL, fa]
       first | rw [if_pos h9] | rw [if_neg h9]
    ·
     ((try dsimp only); omega)
 ·
  (try simp only [decide_eq_true_eq, decide_eq_false_iff_not, Int.not_lt, Int.not_le] at h4)
  refine .loop (α := Nat × (List Int)) [.r [(1, X (Xc3 81 [(0, 32)] (fc_roll raw o32c1 6 (by omega) (by omega) (by omega)) X0)), (2, X (Xn ((rollV raw o32c1 6) - 3))), (3, X (Xmax 0 ((rollV raw o32c1 6) - 3)))]] 113 (fun (j, w) => ([(5, .row 64 w.length), (36, VI (max 0 ((rollV raw o32c1 6) - 3))), (37, VI (j : Int))], [(64, OR 1 intT w)])) (fun (j, w) => (j : Int) ≤ (max 0 ((rollV raw o32c1 6) - 3)) ∧ w = u ++ List.replicate j 1) (fun (j, w) => ((max 0 ((rollV raw o32c1 6) - 3))).toNat - j) (0, u) ?_ ?_
  ·
   exact ⟨by omega, by simp⟩
  rintro ⟨j, w⟩ I14 ih14
  try dsimp only at I14
  have wl : w.length = u.length + j := by rw [I14.2]; simp
  refine .br [.r []] (decide ((j : Int) < (max 0 ((rollV raw o32c1 6) - 3)))) (fun h14 => ?_) (fun h14 => ?_)
  ·
   (try simp only [decide_eq_true_eq, decide_eq_false_iff_not, Int.not_lt, Int.not_le] at h14)
   refine .back [.r [(2, X (rowC intT [1] (Xap 1 intT 64 w [1])))], .r [(0, X (Xn ((j : Int) + 1)))]] [(64, 64)] (ih14 ((j + 1), (w ++ [1])) ?_ ?_)
   ·
    exact ⟨by omega, by rw [I14.2, List.append_assoc, ← List.replicate_succ']⟩
   ·
    ((try dsimp only); omega)
  ·
   (try simp only [decide_eq_true_eq, decide_eq_false_iff_not, Int.not_lt, Int.not_le] at h14)
   have hw : ∀ x ∈ w, 0 ≤ x ∧ x ≤ 2 := by rw [I14.2]; exact U3.app I4.2.2.2.2.1 (U3.reps _)
   have fe := I4.2.2.2.2.2
   rw [show n.toNat - i = 0 by omega, fitL] at fe
   have fa := fitA_at (v := rollV raw o32c1 6) I14.2 I14.1 (by omega)
   have fu : fitU raw n.toNat = w := by unfold fitU; rw [fe]; exact fa
   have e1 : ((stepsL (fitU raw n.toNat) 0 []) : List AxStep) = (stepsL w 0 []) := by
    rw [fu]
   exact .finE [.r [(1, X (Xc1 129 (fc_steps w (by assumption) (by omega)) (rowC intT w X0)))]] [] (fun z0 => (VL 2 stepT z0, [])) ((stepsL w 0 []) : List AxStep) ((stepsL (fitU raw n.toNat) 0 []) : List AxStep) e1
end Go.Ch
end
section
set_option linter.unusedVariables false
set_option linter.unusedSimpArgs false
set_option maxRecDepth 100000
set_option maxHeartbeats 4000000
open Go Go.Proofs Go.Ab
namespace Go.Ch
theorem fc_axCheck (l : List AxStep) : FC Tryd.prog 42 [VL 2 stepT l] (app emp []) (VI (checkX l)) (app emp []) := by
 refine .go Tryd.f42 ?_
 refine .len 0 (fun hl0 => ?_)
 refine .loop (α := Int × Int × Nat) [.r [], .r [], .r [(1, X (Xl stepT l))]] 48 (fun (b, a, i) => ([(0, VL 2 stepT l), (3, VI b), (4, VI a), (7, VL 2 stepT l), (8, VI (l.length : Int)), (9, VI (i : Int))], [])) (fun (b, a, i) => i ≤ l.length ∧ 0 ≤ b ∧ b ≤ 2147483648 ∧ 0 ≤ a ∧ a ≤ 2147483648 ∧ checkX l = chkX l i b a) (fun (b, a, i) => l.length - i) (0, 0, 0) ?_ ?_
 ·
  exact ⟨by omega, by decide, by decide, by decide, by decide, rfl⟩
 rintro ⟨b, a, i⟩ I3 ih3
 try dsimp only at I3
 refine .br [.r []] (decide ((i : Int) < (l.length : Int))) (fun h3 => ?_) (fun h3 => ?_)
 ·
  (try simp only [decide_eq_true_eq, decide_eq_false_iff_not, Int.not_lt, Int.not_le] at h3)
  refine .br [.r [(1, X (Xi stepT l (i : Int)))], .r [(5, Xv 1 (!(decide ((((l.getD i default)).kind) < 0))) X0), (6, Xv 1 (!(decide ((((l.getD i default)).kind) < 0))) X0), (7, X (Xk' (decide ((((l.getD i default)).kind) < 0))))]] (decide ((((l.getD i default)).kind) < 0) || decide ((((l.getD i default)).kind) > 2)) (fun h5 => ?_) (fun h5 => ?_)
  ·
   (try simp only [decide_eq_true_eq, decide_eq_false_iff_not, Int.not_lt, Int.not_le, gt_iff_lt, Bool.or_eq_true, Bool.or_eq_false_iff] at h5)
   have e1 : ((checkX l) : Int) = 8 := by
    rw [I3.2.2.2.2.2, chkX]; ((repeat' split) <;> first | rfl | omega | (simp_all; done) | (simp_all; omega))
   exact .finE [.r []] [] (fun z0 => (VI z0, [])) (8 : Int) ((checkX l) : Int) e1
  ·
   (try simp only [decide_eq_true_eq, decide_eq_false_iff_not, Int.not_lt, Int.not_le, gt_iff_lt, Bool.or_eq_true, Bool.or_eq_false_iff] at h5)
   refine .br [.r [(5, Xv 1 (!(decide ((((l.getD i default)).n) < 1))) X0), (6, Xv 1 (!(decide ((((l.getD i default)).n) < 1))) X0), (7, X (Xk' (decide ((((l.getD i default)).n) < 1))))]] (decide ((((l.getD i default)).n) < 1) || decide ((((l.getD i default)).n) > 2147483647)) (fun h7 => ?_) (fun h7 => ?_)
   ·
    (try simp only [decide_eq_true_eq, decide_eq_false_iff_not, Int.not_lt, Int.not_le, gt_iff_lt, Bool.or_eq_true, Bool.or_eq_false_iff] at h7)
    have e2 : ((checkX l) : Int) = 2 := by
     rw [I3.2.2.2.2.2, chkX]; ((repeat' split) <;> first | rfl | omega | (simp_all; done) | (simp_all; omega))
    exact .finE [.r []] [] (fun z0 => (VI z0, [])) (2 : Int) ((checkX l) : Int) e2
   ·
    (try simp only [decide_eq_true_eq, decide_eq_false_iff_not, Int.not_lt, Int.not_le, gt_iff_lt, Bool.or_eq_true, Bool.or_eq_false_iff] at h7)
    refine .br [.r [(5, Xv 1 (decide ((i : Int) > 0)) (Xn ((i : Int) - 1))), (6, Xv 2 (decide ((i : Int) > 0)) (Xi' stepT l ((i : Int) - 1) (i - 1))), (7, Xv 1 (decide ((i : Int) > 0)) X0), (8, Xv 1 (decide ((i : Int) > 0)) X0), (10, Xv 1 (decide ((i : Int) > 0)) X0), (11, Xv 2 (decide ((i : Int) > 0)) X0), (12, Xv 1 (decide ((i : Int) > 0)) X0), (15, Xv 1 ((decide ((i : Int) > 0)) && !((((l.getD (i - 1) default)).kind) == (((l.getD i default)).kind))) (Xn ((i : Int) - 1))), (16, Xv 2 ((decide ((i : Int) > 0)) && !((((l.getD (i - 1) default)).kind) == (((l.getD i default)).kind))) (Xi' stepT l ((i : Int) - 1) (i - 1))), (17, Xv 1 ((decide ((i : Int) > 0)) && !((((l.getD (i - 1) default)).kind) == (((l.getD i default)).kind))) X0), (18, Xv 1 ((decide ((i : Int) > 0)) && !((((l.getD (i - 1) default)).kind) == (((l.getD i default)).kind))) X0), (19, Xv 1 ((decide ((i : Int) > 0)) && !((((l.getD (i - 1) default)).kind) == (((l.getD i default)).kind))) X0), (20, Xv 1 ((decide ((i : Int) > 0)) && !((((l.getD (i - 1) default)).kind) == (((l.getD i default)).kind))) X0), (22, Xv 1 (((decide ((i : Int) > 0)) && !((((l.getD (i - 1) default)).kind) == (((l.getD i default)).kind))) && ((((l.getD (i - 1) default)).kind) == 2)) X0), (23, Xv 1 (((decide ((i : Int) > 0)) && !((((l.getD (i - 1) default)).kind) == (((l.getD i default)).kind))) && ((((l.getD (i - 1) default)).kind) == 2)) X0), (24, Xka ((decide ((i : Int) > 0)) && !((((l.getD (i - 1) default)).kind) == (((l.getD i default)).kind))) ((((l.getD (i - 1) default)).kind) == 2)), (25, Xko (decide ((i : Int) > 0)) ((((l.getD (i - 1) default)).kind) == (((l.getD i default)).kind))), (26, X (Xk (decide ((i : Int) > 0))))]] (decide ((i : Int) > 0) && (((((l.getD (i - 1) default)).kind) == (((l.getD i default)).kind)) || (((((l.getD (i - 1) default)).kind) == 2) && ((((l.getD i default)).kind) == 1)))) (fun h9 => ?_) (fun h9 => ?_)
    ·
     (try simp only [decide_eq_true_eq, decide_eq_false_iff_not, Int.not_lt, Int.not_le, gt_iff_lt, Bool.and_eq_true, Bool.and_eq_false_iff, Bool.not_eq_true', Bool.not_eq_false', Bool.or_eq_true, Bool.or_eq_false_iff, beq_iff_eq, beq_eq_false_iff_ne, ne_eq] at h9)
     have e3 : ((checkX l) : Int) = 5 := by
      rw [I3.2.2.2.2.2, chkX]; ((repeat' split) <;> first | rfl | omega | (simp_all; done) | (simp_all; omega))
     exact .finE [.r []] [] (fun z0 => (VI z0, [])) (5 : Int) ((checkX l) : Int) e3
    ·
     (try simp only [decide_eq_true_eq, decide_eq_false_iff_not, Int.not_lt, Int.not_le, gt_iff_lt, Bool.and_eq_true, Bool.and_eq_false_iff, Bool.not_eq_true', Bool.not_eq_false', Bool.or_eq_true, Bool.or_eq_false_iff, beq_iff_eq, beq_eq_false_iff_ne, ne_eq] at h9)
     refine .br [.r []] ((((l.getD i default)).kind) != 1) (fun h11 => ?_) (fun h11 => ?_)
     ·
      (try simp only [bne_iff_ne, bne_eq_false_iff_eq, ne_eq] at h11)
      refine .br [.r [(3, X (Xn (b + (((l.getD i default)).n)))), (4, X (Xmin (b + (((l.getD i default)).n)) 2147483648))], .r []] ((((l.getD i default)).kind) != 2) (fun h13 => ?_) (fun h13 => ?_)
      ·
       (try simp only [bne_iff_ne, bne_eq_false_iff_eq, ne_eq] at h13)
       refine .at 568 [(80, 80)] ([(0, VL 2 stepT l), (3, VI (min (b + (((l.getD i default)).n)) 2147483648)), (4, VI a), (6, .ptr 80 0), (7, VL 2 stepT l), (8, VI (l.length : Int)), (9, VI (i : Int)), (70, VB ((((l.getD i default)).kind) != 2))], [(80, .box [VI (((l.getD i default)).kind), VI (((l.getD i default)).n)])]) ?_
       refine .back [.r [(3, X (Xn (a + (((l.getD i default)).n)))), (4, X (Xmin (a + (((l.getD i default)).n)) 2147483648))], .r [(0, X (Xn ((i : Int) + 1)))]] [] (ih3 ((min (b + (((l.getD i default)).n)) 2147483648), (min (a + (((l.getD i default)).n)) 2147483648), (i + 1)) ?_ ?_)
       ·
        refine ⟨by omega, by omega, by omega, by omega, by omega, ?_⟩; rw [I3.2.2.2.2.2, chkX]; ((repeat' split) <;> first | rfl | omega | (simp_all; done) | (simp_all; omega))
       ·
        ((try dsimp only); omega)
      ·
       (try simp only [bne_iff_ne, bne_eq_false_iff_eq, ne_eq] at h13)
       refine .at 568 [(80, 80)] ([(0, VL 2 stepT l), (3, VI (min (b + (((l.getD i default)).n)) 2147483648)), (4, VI a), (6, .ptr 80 0), (7, VL 2 stepT l), (8, VI (l.length : Int)), (9, VI (i : Int)), (70, VB ((((l.getD i default)).kind) != 2))], [(80, .box [VI (((l.getD i default)).kind), VI (((l.getD i default)).n)])]) ?_
       refine .back [.r [(0, X (Xn ((i : Int) + 1)))]] [] (ih3 ((min (b + (((l.getD i default)).n)) 2147483648), a, (i + 1)) ?_ ?_)
       ·
        refine ⟨by omega, by omega, by omega, by omega, by omega, ?_⟩; rw [I3.2.2.2.2.2, chkX]; ((repeat' split) <;> first | rfl | omega | (simp_all; done) | (simp_all; omega))
       ·
        ((try dsimp only); omega)
     ·
      (try simp only [bne_iff_ne, bne_eq_false_iff_eq, ne_eq] at h11)
      refine .br [.r []] ((((l.getD i default)).kind) != 2) (fun h13 => ?_) (fun h13 => ?_)
      ·
       (try simp only [bne_iff_ne, bne_eq_false_iff_eq, ne_eq] at h13)
       refine .at 520 [(80, 80)] ([(0, VL 2 stepT l), (3, VI b), (4, VI a), (6, .ptr 80 0), (7, VL 2 stepT l), (8, VI (l.length : Int)), (9, VI (i : Int)), (70, VB ((((l.getD i default)).kind) != 2))], [(80, .box [VI (((l.getD i default)).kind), VI (((l.getD i default)).n)])]) ?_
       refine .back [.r [(3, X (Xn (a + (((l.getD i default)).n)))), (4, X (Xmin (a + (((l.getD i default)).n)) 2147483648))], .r [(0, X (Xn ((i : Int) + 1)))]] [] (ih3 (b, (min (a + (((l.getD i default)).n)) 2147483648), (i + 1)) ?_ ?_)
       ·
        refine ⟨by omega, by omega, by omega, by omega, by omega, ?_⟩; rw [I3.2.2.2.2.2, chkX]; ((repeat' split) <;> first | rfl | omega | (simp_all; done) | (simp_all; omega))
       ·
        ((try dsimp only); omega)
      ·
       (try simp only [bne_iff_ne, bne_eq_false_iff_eq, ne_eq] at h13)
       refine .at 520 [(80, 80)] ([(0, VL 2 stepT l), (3, VI b), (4, VI a), (6, .ptr 80 0), (7, VL 2 stepT l), (8, VI (l.length : Int)), (9, VI (i : Int)), (70, VB ((((l.getD i default)).kind) != 2))], [(80, .box [VI (((l.getD i default)).kind), VI (((l.getD i default)).n)])]) ?_
       refine .back [.r [(0, X (Xn ((i : Int) + 1)))]] [] (ih3 (b, a, (i + 1)) ?_ ?_)
       ·
        refine ⟨by omega, by omega, by omega, by omega, by omega, ?_⟩; rw [I3.2.2.2.2.2, chkX]; ((repeat' split) <;> first | rfl | omega | (simp_all; done) | (simp_all; omega))
       ·
        ((try dsimp only); omega)
 ·
  (try simp only [decide_eq_true_eq, decide_eq_false_iff_not, Int.not_lt, Int.not_le] at h3)
  refine .br [.r [(4, Xv 1 (!(decide (b > 2147483647))) X0), (5, X (Xk' (decide (b > 2147483647))))]] (decide (b > 2147483647) || decide (a > 2147483647)) (fun h16 => ?_) (fun h16 => ?_)
  ·
   (try simp only [decide_eq_true_eq, decide_eq_false_iff_not, Int.not_lt, Int.not_le, gt_iff_lt, Bool.or_eq_true, Bool.or_eq_false_iff] at h16)
   have e4 : ((checkX l) : Int) = 3 := by
    rw [I3.2.2.2.2.2, chkX]; ((repeat' split) <;> first | rfl | omega | (simp_all; done) | (simp_all; omega))
   exact .finE [.r []] [] (fun z0 => (VI z0, [])) (3 : Int) ((checkX l) : Int) e4
  ·
   (try simp only [decide_eq_true_eq, decide_eq_false_iff_not, Int.not_lt, Int.not_le, gt_iff_lt, Bool.or_eq_true, Bool.or_eq_false_iff] at h16)
   have e5 : ((checkX l) : Int) = 0 := by
    rw [I3.2.2.2.2.2, chkX]; ((repeat' split) <;> first | rfl | omega | (simp_all; done) | (simp_all; omega))
   exact .finE [.r []] [] (fun z0 => (VI z0, [])) (0 : Int) ((checkX l) : Int) e5

theorem ex_at {l : List AxStep} {i : Nat} (h : i < l.length) : ex (l.drop i) = rep (l.getD i default).n.toNat (uOf (l.getD i default).kind) ++ ex (l.drop (i + 1)) := by rw [drop_ats h]; rfl
def oldI (l : List AxStep) : Int := (oldU (ex l) : Int)
def newI (l : List AxStep) : Int := (newU (ex l) : Int)
theorem lens_step {l : List AxStep} {i : Nat} (h : i < l.length) (hf : Form l) : (oldU (ex (l.drop i)) : Int) = (if (l.getD i default).kind = 1 then 0 else (l.getD i default).n) + oldU (ex (l.drop (i + 1))) ∧
    (newU (ex (l.drop i)) : Int) = (if (l.getD i default).kind = 2 then 0 else (l.getD i default).n) + newU (ex (l.drop (i + 1))) ∧ 1 ≤ (l.getD i default).n ∧ 0 ≤ (l.getD i default).kind ∧ (l.getD i default).kind ≤ 2 := by
  have h1 := ((at_of_form hf) i (Nat.zero_le _) h).1
  have hn : ((l.getD i default).n.toNat : Int) = (l.getD i default).n := Int.toNat_of_nonneg (by have := h1.2.2; omega)
  rw [ex_at h, old_rep, new_rep, hn]
  exact ⟨rfl, rfl, h1.2.2, h1.1, h1.2.1⟩
theorem ex_end {l : List AxStep} {i : Nat} (h : l.length ≤ i) : ex (l.drop i) = [] := by rw [List.drop_eq_nil_of_le h]; rfl

theorem fc_axLens (l : List AxStep) (hv : Valid l) : FC Tryd.prog 43 [VL 2 stepT l] (app emp []) (.tup [VI (oldI l), VI (newI l)]) (app emp []) := by
 refine .go Tryd.f43 ?_
 refine .len 0 (fun hl0 => ?_)
 refine .loop (α := Int × Int × Nat) [.r [], .r [], .r [(1, X (Xl stepT l))]] 56 (fun (b, a, i) => ([(4, VI b), (5, VI a), (8, VL 2 stepT l), (9, VI (l.length : Int)), (10, VI (i : Int))], [])) (fun (b, a, i) => i ≤ l.length ∧ 0 ≤ b ∧ 0 ≤ a ∧ oldI l = b + oldU (ex (l.drop i)) ∧ newI l = a + newU (ex (l.drop i))) (fun (b, a, i) => l.length - i) (0, 0, 0) ?_ ?_
 ·
  exact ⟨by omega, by decide, by decide, by simp [oldI], by simp [newI]⟩
 rintro ⟨b, a, i⟩ I3 ih3
 try dsimp only at I3
 have hv1 : oldI l ≤ 2147483647 := by have := hv.2.1; unfold oldI; omega
 have hv2 : newI l ≤ 2147483647 := by have := hv.2.2; unfold newI; omega
 refine .br [.r []] (decide ((i : Int) < (l.length : Int))) (fun h3 => ?_) (fun h3 => ?_)
 ·
  (try simp only [decide_eq_true_eq, decide_eq_false_iff_not, Int.not_lt, Int.not_le] at h3)
  have hst := lens_step (l := l) (i := i) (by omega) hv.1
  refine .br [.r [(0, X (Xi stepT l (i : Int)))], .r []] ((((l.getD i default)).kind) != 1) (fun h5 => ?_) (fun h5 => ?_)
  ·
   (try simp only [bne_iff_ne, bne_eq_false_iff_eq, ne_eq] at h5)
   refine .br [.r [(3, X (Xn (b + (((l.getD i default)).n))))], .r []] ((((l.getD i default)).kind) != 2) (fun h7 => ?_) (fun h7 => ?_)
   ·
    (try simp only [bne_iff_ne, bne_eq_false_iff_eq, ne_eq] at h7)
    refine .back [.r [(3, X (Xn (a + (((l.getD i default)).n))))], .r [(0, X (Xn ((i : Int) + 1)))]] [] (ih3 ((b + (((l.getD i default)).n)), (a + (((l.getD i default)).n)), (i + 1)) ?_ ?_)
    ·
     obtain ⟨s1, s2, s3, s4, s5⟩ := hst
     first | rw [if_pos (by omega)] at s1 | rw [if_neg (by omega)] at s1
     first | rw [if_pos (by omega)] at s2 | rw [if_neg (by omega)] at s2
     refine ⟨by omega, by omega, by omega, by omega, by omega⟩
    ·
     ((try dsimp only); omega)
   ·
    (try simp only [bne_iff_ne, bne_eq_false_iff_eq, ne_eq] at h7)
    refine .back [.r [(0, X (Xn ((i : Int) + 1)))]] [] (ih3 ((b + (((l.getD i default)).n)), a, (i + 1)) ?_ ?_)
    ·
     obtain ⟨s1, s2, s3, s4, s5⟩ := hst
     first | rw [if_pos (by omega)] at s1 | rw [if_neg (by omega)] at s1
     first | rw [if_pos (by omega)] at s2 | rw [if_neg (by omega)] at s2
     refine ⟨by omega, by omega, by omega, by omega, by omega⟩
    ·
     ((try dsimp only); omega)
  ·
   (try simp only [bne_iff_ne, bne_eq_false_iff_eq, ne_eq] at h5)
   refine .br [.r []] ((((l.getD i default)).kind) != 2) (fun h7 => ?_) (fun h7 => ?_)
   ·
    (try simp only [bne_iff_ne, bne_eq_false_iff_eq, ne_eq] at h7)
    refine .back [.r [(3, X (Xn (a + (((l.getD i default)).n))))], .r [(0, X (Xn ((i : Int) + 1)))]] [] (ih3 (b, (a + (((l.getD i default)).n)), (i + 1)) ?_ ?_)
    ·
     obtain ⟨s1, s2, s3, s4, s5⟩ := hst
     first | rw [if_pos (by omega)] at s1 | rw [if_neg (by omega)] at s1
     first | rw [if_pos (by omega)] at s2 | rw [if_neg (by omega)] at s2
     refine ⟨by omega, by omega, by omega, by omega, by omega⟩
    ·
     ((try dsimp only); omega)
   ·
    (try simp only [bne_iff_ne, bne_eq_false_iff_eq, ne_eq] at h7)
    refine .back [.r [(0, X (Xn ((i : Int) + 1)))]] [] (ih3 (b, a, (i + 1)) ?_ ?_)
    ·
     obtain ⟨s1, s2, s3, s4, s5⟩ := hst
     first | rw [if_pos (by omega)] at s1 | rw [if_neg (by omega)] at s1
     first | rw [if_pos (by omega)] at s2 | rw [if_neg (by omega)] at s2
     refine ⟨by omega, by omega, by omega, by omega, by omega⟩
    ·
     ((try dsimp only); omega)
 ·
  (try simp only [decide_eq_true_eq, decide_eq_false_iff_not, Int.not_lt, Int.not_le] at h3)
  have e1 : ((oldI l) : Int) = b := by
   have := ex_end (l := l) (i := i) (by omega)
   rw [this] at I3
   have i1 := I3.2.2.2.1
   have i2 := I3.2.2.2.2
   simp only [oldU, newU] at i1 i2
   omega
  have e2 : ((newI l) : Int) = a := by
   have := ex_end (l := l) (i := i) (by omega)
   rw [this] at I3
   have i1 := I3.2.2.2.1
   have i2 := I3.2.2.2.2
   simp only [oldU, newU] at i1 i2
   omega
  exact .finE [.r []] [] (fun (z0, z1) => (.tup [VI z0, VI z1], [])) ((b : Int), (a : Int)) (((oldI l) : Int), ((newI l) : Int)) (pr e1 e2)

theorem fc_axLengths (l : List AxStep) (hv : Valid l) : FC Tryd.prog 23 [VL 2 stepT l] (app emp []) (.tup [VI (oldI l), VI (newI l), VI 0]) (app emp []) := by
 refine .go Tryd.f23 ?_
 refine .len 0 (fun hl0 => ?_)
 have hc := check_iff.2 hv
 refine .br [.r [], .r [(1, X (Xc0 (fc_axCheck l) X0))], .r []] ((checkX l) != 0) (fun h2 => ?_) (fun h2 => ?_)
 ·
  (try simp only [bne_iff_ne, bne_eq_false_iff_eq, ne_eq] at h2)
  exfalso
  omega
 ·
  (try simp only [bne_iff_ne, bne_eq_false_iff_eq, ne_eq] at h2)
  exact .fin [.r [(1, X (Xc0 (fc_axLens l (by assumption)) X0))], .r []] []

def sameX (a b : List AxStep) (i : Nat) : Bool :=
  if i < a.length then (if (a.getD i default).kind = (b.getD i default).kind ∧ (a.getD i default).n = (b.getD i default).n then sameX a b (i + 1) else false) else true
termination_by a.length - i
def sameS (a b : List AxStep) : Bool := decide (a.length = b.length) && sameX a b 0
theorem fc_flush (o : List AxStep) (a c : Int) (ho : o.length ≤ 1000000000000) : FC Tryd.prog 101 [.ptr 0 0] (app emp [(0, .box [.row 1 o.length, VI a, VI c]), (1, OR 2 stepT o)]) (.tup []) (app emp [(0, .box [.row 1 ((flushW ⟨o, a, c⟩).length), VI 0, VI 0]), (1, OR 2 stepT (flushW ⟨o, a, c⟩))]) := by
 refine .go Tryd.f101 ?_
 refine .br [.r []] (decide (a > 0)) (fun h0 => ?_) (fun h0 => ?_)
 ·
  (try simp only [decide_eq_true_eq, decide_eq_false_iff_not, Int.not_lt, Int.not_le, gt_iff_lt] at h0)
  refine .br [.r [(11, X (rowC stepT [({ kind := 1, n := a } : AxStep)] (Xap 2 stepT 1 o [({ kind := 1, n := a } : AxStep)])))], .r []] (decide (c > 0)) (fun h2 => ?_) (fun h2 => ?_)
  ·
   (try simp only [decide_eq_true_eq, decide_eq_false_iff_not, Int.not_lt, Int.not_le, gt_iff_lt] at h2)
   have e1 : ((flushW ⟨o, a, c⟩).length : Nat) = ((o ++ [({ kind := 1, n := a } : AxStep)]) ++ [({ kind := 2, n := c } : AxStep)]).length := by
    unfold flushW; simp only; (repeat (first | rw [if_pos (by omega)] | rw [if_neg (by omega)])); try simp
   have e2 : ((flushW ⟨o, a, c⟩) : List AxStep) = ((o ++ [({ kind := 1, n := a } : AxStep)]) ++ [({ kind := 2, n := c } : AxStep)]) := by
    unfold flushW; simp only; (repeat (first | rw [if_pos (by omega)] | rw [if_neg (by omega)])); try simp
   exact .finE [.r [(11, X (rowC stepT [({ kind := 2, n := c } : AxStep)] (Xap 2 stepT 1 (o ++ [({ kind := 1, n := a } : AxStep)]) [({ kind := 2, n := c } : AxStep)])))], .r []] [(0, 0), (1, 1)] (fun (z0, z1) => (.tup [], [(0, .box [.row 1 z0, VI 0, VI 0]), (1, OR 2 stepT z1)])) ((((o ++ [({ kind := 1, n := a } : AxStep)]) ++ [({ kind := 2, n := c } : AxStep)]).length : Nat), (((o ++ [({ kind := 1, n := a } : AxStep)]) ++ [({ kind := 2, n := c } : AxStep)]) : List AxStep)) (((flushW ⟨o, a, c⟩).length : Nat), ((flushW ⟨o, a, c⟩) : List AxStep)) (pr e1 e2)
  ·
   (try simp only [decide_eq_true_eq, decide_eq_false_iff_not, Int.not_lt, Int.not_le, gt_iff_lt] at h2)
   have e3 : ((flushW ⟨o, a, c⟩).length : Nat) = (o ++ [({ kind := 1, n := a } : AxStep)]).length := by
    unfold flushW; simp only; (repeat (first | rw [if_pos (by omega)] | rw [if_neg (by omega)])); try simp
   have e4 : ((flushW ⟨o, a, c⟩) : List AxStep) = (o ++ [({ kind := 1, n := a } : AxStep)]) := by
    unfold flushW; simp only; (repeat (first | rw [if_pos (by omega)] | rw [if_neg (by omega)])); try simp
   exact .finE [.r []] [(0, 0), (1, 1)] (fun (z0, z1) => (.tup [], [(0, .box [.row 1 z0, VI 0, VI 0]), (1, OR 2 stepT z1)])) (((o ++ [({ kind := 1, n := a } : AxStep)]).length : Nat), ((o ++ [({ kind := 1, n := a } : AxStep)]) : List AxStep)) (((flushW ⟨o, a, c⟩).length : Nat), ((flushW ⟨o, a, c⟩) : List AxStep)) (pr e3 e4)
 ·
  (try simp only [decide_eq_true_eq, decide_eq_false_iff_not, Int.not_lt, Int.not_le, gt_iff_lt] at h0)
  refine .br [.r []] (decide (c > 0)) (fun h2 => ?_) (fun h2 => ?_)
  ·
   (try simp only [decide_eq_true_eq, decide_eq_false_iff_not, Int.not_lt, Int.not_le, gt_iff_lt] at h2)
   have e5 : ((flushW ⟨o, a, c⟩).length : Nat) = (o ++ [({ kind := 2, n := c } : AxStep)]).length := by
    unfold flushW; simp only; (repeat (first | rw [if_pos (by omega)] | rw [if_neg (by omega)])); try simp
   have e6 : ((flushW ⟨o, a, c⟩) : List AxStep) = (o ++ [({ kind := 2, n := c } : AxStep)]) := by
    unfold flushW; simp only; (repeat (first | rw [if_pos (by omega)] | rw [if_neg (by omega)])); try simp
   exact .finE [.r [(11, X (rowC stepT [({ kind := 2, n := c } : AxStep)] (Xap 2 stepT 1 o [({ kind := 2, n := c } : AxStep)])))], .r []] [(0, 0), (1, 1)] (fun (z0, z1) => (.tup [], [(0, .box [.row 1 z0, VI 0, VI 0]), (1, OR 2 stepT z1)])) (((o ++ [({ kind := 2, n := c } : AxStep)]).length : Nat), ((o ++ [({ kind := 2, n := c } : AxStep)]) : List AxStep)) (((flushW ⟨o, a, c⟩).length : Nat), ((flushW ⟨o, a, c⟩) : List AxStep)) (pr e5 e6)
  ·
   (try simp only [decide_eq_true_eq, decide_eq_false_iff_not, Int.not_lt, Int.not_le, gt_iff_lt] at h2)
   have e7 : ((flushW ⟨o, a, c⟩).length : Nat) = o.length := by
    unfold flushW; simp only; (repeat (first | rw [if_pos (by omega)] | rw [if_neg (by omega)])); try simp
   have e8 : ((flushW ⟨o, a, c⟩) : List AxStep) = o := by
    unfold flushW; simp only; (repeat (first | rw [if_pos (by omega)] | rw [if_neg (by omega)])); try simp
   exact .finE [.r []] [(0, 0), (1, 1)] (fun (z0, z1) => (.tup [], [(0, .box [.row 1 z0, VI 0, VI 0]), (1, OR 2 stepT z1)])) ((o.length : Nat), (o : List AxStep)) (((flushW ⟨o, a, c⟩).length : Nat), ((flushW ⟨o, a, c⟩) : List AxStep)) (pr e7 e8)

theorem flushW_len (w : Wr) : (flushW w).length ≤ w.out.length + 2 := by
  unfold flushW; simp only [List.length_append]; split <;> split <;> simp
theorem exW_bd {w : Wr} (h : GoodW w) : w.out.length ≤ (exW w).length ∧ w.add ≤ (exW w).length ∧ w.cut ≤ (exW w).length ∧ 0 ≤ w.add ∧ 0 ≤ w.cut := by
  have h1 := ex_len' h.form
  have h2 := h.add
  have h3 := h.cut
  unfold exW
  simp only [List.length_append, List.length_replicate]
  omega
theorem exW_n {w : Wr} (h : GoodW w) {s : AxStep} (hs : s ∈ flushW w) : s.n ≤ (exW w).length := by
  rw [← flushW_ex h]; exact n_le hs
theorem last_mem {l : List AxStep} (h : 0 < l.length) : l.getD (l.length - 1) default ∈ l := by
  rw [show l.getD (l.length - 1) default = l[l.length - 1] by simp [List.getD, List.getElem?_eq_getElem (show l.length - 1 < l.length by omega)]]
  exact List.getElem_mem _

theorem fc_put (o : List AxStep) (a c k n : Int) (hg : GoodW ⟨o, a, c⟩) (hk : 0 ≤ k ∧ k ≤ 2) (hn : 0 ≤ n) (hl : ((exW ⟨o, a, c⟩).length : Int) + n ≤ 100000000000) : FC Tryd.prog 82 [.ptr 0 0, VI k, VI n] (app emp [(0, .box [.row 1 o.length, VI a, VI c]), (1, OR 2 stepT o)]) (.tup []) (app emp [(0, .box [.row 1 (((putW ⟨o, a, c⟩ k n).out).length), VI ((putW ⟨o, a, c⟩ k n).add), VI ((putW ⟨o, a, c⟩ k n).cut)]), (1, OR 2 stepT ((putW ⟨o, a, c⟩ k n).out))]) := by
 refine .go Tryd.f82 ?_
 have hb := exW_bd hg
 have hfl := flushW_len ⟨o, a, c⟩
 simp only at hb hfl
 refine .br [.r []] (n == 0) (fun h5 => ?_) (fun h5 => ?_)
 ·
  (try simp only [beq_iff_eq, beq_eq_false_iff_ne, ne_eq] at h5)
  have e1 : (((putW ⟨o, a, c⟩ k n).out).length : Nat) = o.length := by
   (try unfold putW); (try unfold keepW); ((repeat' split) <;> first | rfl | omega | (simp_all; done) | (simp_all; omega))
  have e2 : ((putW ⟨o, a, c⟩ k n).add : Int) = a := by
   (try unfold putW); (try unfold keepW); ((repeat' split) <;> first | rfl | omega | (simp_all; done) | (simp_all; omega))
  have e3 : ((putW ⟨o, a, c⟩ k n).cut : Int) = c := by
   (try unfold putW); (try unfold keepW); ((repeat' split) <;> first | rfl | omega | (simp_all; done) | (simp_all; omega))
  have e4 : ((putW ⟨o, a, c⟩ k n).out : List AxStep) = o := by
   (try unfold putW); (try unfold keepW); ((repeat' split) <;> first | rfl | omega | (simp_all; done) | (simp_all; omega))
  exact .finE [] [(0, 0), (1, 1)] (fun (z0, z1, z2, z3) => (.tup [], [(0, .box [.row 1 z0, VI z1, VI z2]), (1, OR 2 stepT z3)])) ((o.length : Nat), (a : Int), (c : Int), (o : List AxStep)) ((((putW ⟨o, a, c⟩ k n).out).length : Nat), ((putW ⟨o, a, c⟩ k n).add : Int), ((putW ⟨o, a, c⟩ k n).cut : Int), ((putW ⟨o, a, c⟩ k n).out : List AxStep)) (pr e1 (pr e2 (pr e3 e4)))
 ·
  (try simp only [beq_iff_eq, beq_eq_false_iff_ne, ne_eq] at h5)
  refine .br [.r []] (k == 1) (fun h6 => ?_) (fun h6 => ?_)
  ·
   (try simp only [beq_iff_eq, beq_eq_false_iff_ne, ne_eq] at h6)
   have e5 : (((putW ⟨o, a, c⟩ k n).out).length : Nat) = o.length := by
    (try unfold putW); (try unfold keepW); ((repeat' split) <;> first | rfl | omega | (simp_all; done) | (simp_all; omega))
   have e6 : ((putW ⟨o, a, c⟩ k n).add : Int) = (a + n) := by
    (try unfold putW); (try unfold keepW); ((repeat' split) <;> first | rfl | omega | (simp_all; done) | (simp_all; omega))
   have e7 : ((putW ⟨o, a, c⟩ k n).cut : Int) = c := by
    (try unfold putW); (try unfold keepW); ((repeat' split) <;> first | rfl | omega | (simp_all; done) | (simp_all; omega))
   have e8 : ((putW ⟨o, a, c⟩ k n).out : List AxStep) = o := by
    (try unfold putW); (try unfold keepW); ((repeat' split) <;> first | rfl | omega | (simp_all; done) | (simp_all; omega))
   exact .finE [.r [(5, X (Xn (a + n)))]] [(0, 0), (1, 1)] (fun (z0, z1, z2, z3) => (.tup [], [(0, .box [.row 1 z0, VI z1, VI z2]), (1, OR 2 stepT z3)])) ((o.length : Nat), ((a + n) : Int), (c : Int), (o : List AxStep)) ((((putW ⟨o, a, c⟩ k n).out).length : Nat), ((putW ⟨o, a, c⟩ k n).add : Int), ((putW ⟨o, a, c⟩ k n).cut : Int), ((putW ⟨o, a, c⟩ k n).out : List AxStep)) (pr e5 (pr e6 (pr e7 e8)))
  ·
   (try simp only [beq_iff_eq, beq_eq_false_iff_ne, ne_eq] at h6)
   refine .br [.r []] (k == 2) (fun h8 => ?_) (fun h8 => ?_)
   ·
    (try simp only [beq_iff_eq, beq_eq_false_iff_ne, ne_eq] at h8)
    have e9 : (((putW ⟨o, a, c⟩ k n).out).length : Nat) = o.length := by
     (try unfold putW); (try unfold keepW); ((repeat' split) <;> first | rfl | omega | (simp_all; done) | (simp_all; omega))
    have e10 : ((putW ⟨o, a, c⟩ k n).add : Int) = a := by
     (try unfold putW); (try unfold keepW); ((repeat' split) <;> first | rfl | omega | (simp_all; done) | (simp_all; omega))
    have e11 : ((putW ⟨o, a, c⟩ k n).cut : Int) = (c + n) := by
     (try unfold putW); (try unfold keepW); ((repeat' split) <;> first | rfl | omega | (simp_all; done) | (simp_all; omega))
    have e12 : ((putW ⟨o, a, c⟩ k n).out : List AxStep) = o := by
     (try unfold putW); (try unfold keepW); ((repeat' split) <;> first | rfl | omega | (simp_all; done) | (simp_all; omega))
    exact .finE [.r [(5, X (Xn (c + n)))]] [(0, 0), (1, 1)] (fun (z0, z1, z2, z3) => (.tup [], [(0, .box [.row 1 z0, VI z1, VI z2]), (1, OR 2 stepT z3)])) ((o.length : Nat), (a : Int), ((c + n) : Int), (o : List AxStep)) ((((putW ⟨o, a, c⟩ k n).out).length : Nat), ((putW ⟨o, a, c⟩ k n).add : Int), ((putW ⟨o, a, c⟩ k n).cut : Int), ((putW ⟨o, a, c⟩ k n).out : List AxStep)) (pr e9 (pr e10 (pr e11 e12)))
   ·
    (try simp only [beq_iff_eq, beq_eq_false_iff_ne, ne_eq] at h8)
    have hlast : 0 < (flushW ⟨o, a, c⟩).length → _ := fun h => exW_n hg (last_mem h)
    have hok : 0 < (flushW ⟨o, a, c⟩).length → _ := fun h => (flushW_form hg).all _ (last_mem h)
    unfold Ok1 at hok
    refine .br [.r [(1, X (Xc3 82 [(0, 0), (1, 1)] (fc_flush o a c (by omega)) X0))], .r [(5, X (Xn (((flushW ⟨o, a, c⟩).length : Int) - 1)))], .r [(4, Xv 1 (decide ((((flushW ⟨o, a, c⟩).length : Int) - 1) ≥ 0)) X0), (5, Xv 1 (decide ((((flushW ⟨o, a, c⟩).length : Int) - 1) ≥ 0)) X0), (6, Xv 1 (decide ((((flushW ⟨o, a, c⟩).length : Int) - 1) ≥ 0)) X0), (8, Xv 2 (decide ((((flushW ⟨o, a, c⟩).length : Int) - 1) ≥ 0)) (Xp' stepT 1 (flushW ⟨o, a, c⟩) (((flushW ⟨o, a, c⟩).length : Int) - 1) (((flushW ⟨o, a, c⟩).length) - 1))), (9, Xv 1 (decide ((((flushW ⟨o, a, c⟩).length : Int) - 1) ≥ 0)) X0), (10, Xv 1 (decide ((((flushW ⟨o, a, c⟩).length : Int) - 1) ≥ 0)) (Xe stepT (flushW ⟨o, a, c⟩) (((flushW ⟨o, a, c⟩).length) - 1))), (11, Xv 1 (decide ((((flushW ⟨o, a, c⟩).length : Int) - 1) ≥ 0)) X0), (12, X (Xk (decide ((((flushW ⟨o, a, c⟩).length : Int) - 1) ≥ 0))))]] (decide ((((flushW ⟨o, a, c⟩).length : Int) - 1) ≥ 0) && (((((flushW ⟨o, a, c⟩).getD (((flushW ⟨o, a, c⟩).length) - 1) default)).kind) == 0)) (fun h2 => ?_) (fun h2 => ?_)
    ·
     (try simp only [decide_eq_true_eq, decide_eq_false_iff_not, Int.not_lt, Int.not_le, ge_iff_le, Bool.and_eq_true, Bool.and_eq_false_iff, Bool.not_eq_true', Bool.not_eq_false', beq_iff_eq, beq_eq_false_iff_ne, ne_eq] at h2)
     have e13 : (((putW ⟨o, a, c⟩ k n).out).length : Nat) = (flushW ⟨o, a, c⟩).length := by
      (try unfold putW); (try unfold keepW); ((repeat' split) <;> first | rfl | omega | (simp_all; done) | (simp_all; omega))
     have e14 : ((putW ⟨o, a, c⟩ k n).add : Int) = 0 := by
      (try unfold putW); (try unfold keepW); ((repeat' split) <;> first | rfl | omega | (simp_all; done) | (simp_all; omega))
     have e15 : ((putW ⟨o, a, c⟩ k n).cut : Int) = 0 := by
      (try unfold putW); (try unfold keepW); ((repeat' split) <;> first | rfl | omega | (simp_all; done) | (simp_all; omega))
     have e16 : ((putW ⟨o, a, c⟩ k n).out : List AxStep) = ((flushW ⟨o, a, c⟩).set (((flushW ⟨o, a, c⟩).length) - 1) ({ kind := (((flushW ⟨o, a, c⟩).getD (((flushW ⟨o, a, c⟩).length) - 1) default)).kind, n := (((((flushW ⟨o, a, c⟩).getD (((flushW ⟨o, a, c⟩).length) - 1) default)).n) + n) } : AxStep)) := by
      (try unfold putW); (try unfold keepW); ((repeat' split) <;> first | rfl | omega | (simp_all; done) | (simp_all; omega))
     exact .finE [.r [(5, X (Xp' stepT 1 (flushW ⟨o, a, c⟩) (((flushW ⟨o, a, c⟩).length : Int) - 1) (((flushW ⟨o, a, c⟩).length) - 1))), (7, X (Xe stepT (flushW ⟨o, a, c⟩) (((flushW ⟨o, a, c⟩).length) - 1))), (9, X (Xn (((((flushW ⟨o, a, c⟩).getD (((flushW ⟨o, a, c⟩).length) - 1) default)).n) + n))), (10, X (Xp' stepT 1 (flushW ⟨o, a, c⟩) (((flushW ⟨o, a, c⟩).length : Int) - 1) (((flushW ⟨o, a, c⟩).length) - 1))), (12, X (Xs 2 stepT 1 (flushW ⟨o, a, c⟩) (((flushW ⟨o, a, c⟩).length) - 1) ({ kind := (((flushW ⟨o, a, c⟩).getD (((flushW ⟨o, a, c⟩).length) - 1) default)).kind, n := (((((flushW ⟨o, a, c⟩).getD (((flushW ⟨o, a, c⟩).length) - 1) default)).n) + n) } : AxStep)))]] [(0, 0), (1, 1)] (fun (z0, z1, z2, z3) => (.tup [], [(0, .box [.row 1 z0, VI z1, VI z2]), (1, OR 2 stepT z3)])) (((flushW ⟨o, a, c⟩).length : Nat), (0 : Int), (0 : Int), (((flushW ⟨o, a, c⟩).set (((flushW ⟨o, a, c⟩).length) - 1) ({ kind := (((flushW ⟨o, a, c⟩).getD (((flushW ⟨o, a, c⟩).length) - 1) default)).kind, n := (((((flushW ⟨o, a, c⟩).getD (((flushW ⟨o, a, c⟩).length) - 1) default)).n) + n) } : AxStep)) : List AxStep)) ((((putW ⟨o, a, c⟩ k n).out).length : Nat), ((putW ⟨o, a, c⟩ k n).add : Int), ((putW ⟨o, a, c⟩ k n).cut : Int), ((putW ⟨o, a, c⟩ k n).out : List AxStep)) (pr e13 (pr e14 (pr e15 e16)))
    ·
     (try simp only [decide_eq_true_eq, decide_eq_false_iff_not, Int.not_lt, Int.not_le, ge_iff_le, Bool.and_eq_true, Bool.and_eq_false_iff, Bool.not_eq_true', Bool.not_eq_false', beq_iff_eq, beq_eq_false_iff_ne, ne_eq] at h2)
     have e17 : (((putW ⟨o, a, c⟩ k n).out).length : Nat) = ((flushW ⟨o, a, c⟩) ++ [({ kind := 0, n := n } : AxStep)]).length := by
      (try unfold putW); (try unfold keepW); ((repeat' split) <;> first | rfl | omega | (simp_all; done) | (simp_all; omega))
     have e18 : ((putW ⟨o, a, c⟩ k n).add : Int) = 0 := by
      (try unfold putW); (try unfold keepW); ((repeat' split) <;> first | rfl | omega | (simp_all; done) | (simp_all; omega))
     have e19 : ((putW ⟨o, a, c⟩ k n).cut : Int) = 0 := by
      (try unfold putW); (try unfold keepW); ((repeat' split) <;> first | rfl | omega | (simp_all; done) | (simp_all; omega))
     have e20 : ((putW ⟨o, a, c⟩ k n).out : List AxStep) = ((flushW ⟨o, a, c⟩) ++ [({ kind := 0, n := n } : AxStep)]) := by
      (try unfold putW); (try unfold keepW); ((repeat' split) <;> first | rfl | omega | (simp_all; done) | (simp_all; omega))
     exact .finE [.r [(8, X (rowC stepT [({ kind := 0, n := n } : AxStep)] (Xap 2 stepT 1 (flushW ⟨o, a, c⟩) [({ kind := 0, n := n } : AxStep)])))]] [(0, 0), (1, 1)] (fun (z0, z1, z2, z3) => (.tup [], [(0, .box [.row 1 z0, VI z1, VI z2]), (1, OR 2 stepT z3)])) ((((flushW ⟨o, a, c⟩) ++ [({ kind := 0, n := n } : AxStep)]).length : Nat), (0 : Int), (0 : Int), (((flushW ⟨o, a, c⟩) ++ [({ kind := 0, n := n } : AxStep)]) : List AxStep)) ((((putW ⟨o, a, c⟩ k n).out).length : Nat), ((putW ⟨o, a, c⟩ k n).add : Int), ((putW ⟨o, a, c⟩ k n).cut : Int), ((putW ⟨o, a, c⟩ k n).out : List AxStep)) (pr e17 (pr e18 (pr e19 e20)))

theorem fc_done (o : List AxStep) (a c : Int) (ho : o.length ≤ 1000000000000) (hc : checkX (flushW ⟨o, a, c⟩) = 0) : FC Tryd.prog 85 [.ptr 0 0] (app emp [(0, .box [.row 1 o.length, VI a, VI c]), (1, OR 2 stepT o)]) (.tup [.row 1 ((flushW ⟨o, a, c⟩).length), VI 0]) (app emp [(0, .box [.row 1 ((flushW ⟨o, a, c⟩).length), VI 0, VI 0]), (1, OR 2 stepT (flushW ⟨o, a, c⟩))]) := by
 refine .go Tryd.f85 ?_
 refine .br [.r [], .r [(1, X (Xc3 26 [(0, 0), (1, 1)] (fc_flush o a c (by omega)) X0))], .r [(4, X (Xc0 (fc_axCheck (flushW ⟨o, a, c⟩)) (rowC stepT (flushW ⟨o, a, c⟩) X0)))]] ((checkX (flushW ⟨o, a, c⟩)) != 0) (fun h2 => ?_) (fun h2 => ?_)
 ·
  (try simp only [bne_iff_ne, bne_eq_false_iff_eq, ne_eq] at h2)
  exfalso
  omega
 ·
  (try simp only [bne_iff_ne, bne_eq_false_iff_eq, ne_eq] at h2)
  exact .fin [.r []] [(0, 0), (1, 1)]

def kindR (l : List AxStep) : Int := if l.length = 0 then -1 else (l.getD 0 default).kind
def tkS (l : List AxStep) (u n : Int) : List AxStep := if u + n = (l.getD 0 default).n then l.drop 1 else l
def tkU (l : List AxStep) (u n : Int) : Int := if u + n = (l.getD 0 default).n then 0 else u + n

theorem fc_kind (l : List AxStep) (u : Int) : FC Tryd.prog 81 [.ptr 0 0] (app emp [(0, .box [VL 2 stepT l, VI u])]) (VI (kindR l)) (app emp [(0, .box [VL 2 stepT l, VI u])]) := by
 refine .go Tryd.f81 ?_
 refine .br [.r [], .r [(4, X (Xl stepT l))]] ((l.length : Int) == 0) (fun h1 => ?_) (fun h1 => ?_)
 ·
  (try simp only [beq_iff_eq, beq_eq_false_iff_ne, ne_eq] at h1)
  have e1 : ((kindR l) : Int) = -1 := by
   unfold kindR; ((repeat' split) <;> first | rfl | omega | (simp_all; done) | (simp_all; omega))
  exact .finE [.r []] [(0, 0)] (fun z0 => (VI z0, [(0, .box [VL 2 stepT l, VI u])])) (-1 : Int) ((kindR l) : Int) e1
 ·
  (try simp only [beq_iff_eq, beq_eq_false_iff_ne, ne_eq] at h1)
  have e2 : ((kindR l) : Int) = ((l.getD 0 default)).kind := by
   unfold kindR; ((repeat' split) <;> first | rfl | omega | (simp_all; done) | (simp_all; omega))
  exact .finE [.r [(4, X (Xi stepT l 0))]] [(0, 0)] (fun z0 => (VI z0, [(0, .box [VL 2 stepT l, VI u])])) (((l.getD 0 default)).kind : Int) ((kindR l) : Int) e2

theorem fc_left (l : List AxStep) (u : Int) (h0 : 0 < l.length) (hb : -9223372036854775808 ≤ (l.getD 0 default).n - u ∧ (l.getD 0 default).n - u ≤ 9223372036854775807) : FC Tryd.prog 83 [.ptr 0 0] (app emp [(0, .box [VL 2 stepT l, VI u])]) (VI ((l.getD 0 default).n - u)) (app emp [(0, .box [VL 2 stepT l, VI u])]) := by
 refine .go Tryd.f83 ?_
 have e1 : (((l.getD 0 default).n - u) : Int) = ((((l.getD 0 default)).n) - u) := by
  (first | omega | with_reducible exact fun h => h | (intro hq; rw [hq]; done) | (intro hq; rw [hq]; rfl) | (simp only [List.length_map]; done) | (simp only [List.length_map]; omega) | (simp; omega) | (simp; done))
 exact .finE [.r [], .r [(4, X (Xi stepT l 0)), (11, X (Xn ((((l.getD 0 default)).n) - u)))]] [(0, 0)] (fun z0 => (VI z0, [(0, .box [VL 2 stepT l, VI u])])) (((((l.getD 0 default)).n) - u) : Int) (((l.getD 0 default).n - u) : Int) e1

theorem fc_take (l : List AxStep) (u n : Int) (h0 : 0 < l.length) (hb : -9223372036854775808 ≤ u + n ∧ u + n ≤ 9223372036854775807) : FC Tryd.prog 84 [.ptr 0 0, VI n] (app emp [(0, .box [VL 2 stepT l, VI u])]) (.tup []) (app emp [(0, .box [VL 2 stepT (tkS l u n), VI (tkU l u n)])]) := by
 refine .go Tryd.f84 ?_
 refine .br [.r [(5, X (Xn (u + n)))], .r [(8, X (Xi stepT l 0))]] ((u + n) == (((l.getD 0 default)).n)) (fun h1 => ?_) (fun h1 => ?_)
 ·
  (try simp only [beq_iff_eq, beq_eq_false_iff_ne, ne_eq] at h1)
  have e1 : ((tkS l u n) : List AxStep) = (l.drop 1) := by
   simp only [tkS, tkU]; ((repeat' split) <;> first | rfl | omega | (simp_all; done) | (simp_all; omega))
  have e2 : ((tkU l u n) : Int) = 0 := by
   simp only [tkS, tkU]; ((repeat' split) <;> first | rfl | omega | (simp_all; done) | (simp_all; omega))
  exact .finE [.r [(6, X (Xsd stepT 2 l 1))]] [(0, 0)] (fun (z0, z1) => (.tup [], [(0, .box [VL 2 stepT z0, VI z1])])) (((l.drop 1) : List AxStep), (0 : Int)) (((tkS l u n) : List AxStep), ((tkU l u n) : Int)) (pr e1 e2)
 ·
  (try simp only [beq_iff_eq, beq_eq_false_iff_ne, ne_eq] at h1)
  have e3 : ((tkS l u n) : List AxStep) = l := by
   simp only [tkS, tkU]; ((repeat' split) <;> first | rfl | omega | (simp_all; done) | (simp_all; omega))
  have e4 : ((tkU l u n) : Int) = (u + n) := by
   simp only [tkS, tkU]; ((repeat' split) <;> first | rfl | omega | (simp_all; done) | (simp_all; omega))
  exact .finE [] [(0, 0)] (fun (z0, z1) => (.tup [], [(0, .box [VL 2 stepT z0, VI z1])])) ((l : List AxStep), ((u + n) : Int)) (((tkS l u n) : List AxStep), ((tkU l u n) : Int)) (pr e3 e4)
end Go.Ch
end
section
set_option linter.unusedVariables false
set_option linter.unusedSimpArgs false
namespace Go.Ch
open Go Go.Ab

theorem kindR_cases {l : List AxStep} {u : Int} (h : GoodR l u) : (kindR l = -1 ∧ l.length = 0) ∨ (0 < l.length ∧ kindR l = (l.getD 0 default).kind ∧ 0 ≤ (l.getD 0 default).kind ∧ (l.getD 0 default).kind ≤ 2 ∧
    1 ≤ (l.getD 0 default).n - u ∧ 0 ≤ u ∧ (l.getD 0 default).n - u ≤ (ru l u).length ∧ (l.getD 0 default).n ≤ (ex l).length) := by
  by_cases h0 : l.length = 0
  · left; exact ⟨by unfold kindR; rw [if_pos h0], h0⟩
  · right
    have hp : 0 < l.length := by omega
    have ok := h.ok hp
    have h1 := h.lt hp
    refine ⟨hp, by unfold kindR; rw [if_neg h0], ok.1, ok.2.1, by omega, h.pos, ?_, ?_⟩
    · rw [ru_cons h hp]
      simp only [List.length_append, List.length_replicate]
      omega
    · refine n_le ?_
      rw [show l.getD 0 default = l[0] by simp [List.getD, List.getElem?_eq_getElem hp]]
      exact List.getElem_mem _
theorem tk_len (l : List AxStep) (u n : Int) : (ex (tkS l u n)).length ≤ (ex l).length := by
  unfold tkS
  split
  · cases l with
    | nil => simp
    | cons s l => simp [ex]
  · exact Nat.le_refl _
theorem tk_ok {l : List AxStep} {u n : Int} (h : GoodR l u) (h0 : 0 < l.length) (hn : 0 ≤ n) (hl : n ≤ (l.getD 0 default).n - u) :
    GoodR (tkS l u n) (tkU l u n) ∧ rep n.toNat (uOf (l.getD 0 default).kind) ++ ru (tkS l u n) (tkU l u n) = ru l u := by
  obtain ⟨a, b⟩ := h.take h0 hn hl
  unfold tkS tkU
  by_cases e : u + n = (l.getD 0 default).n
  · rw [if_pos e, if_pos e]; exact a e
  · rw [if_neg e, if_neg e]; exact b e

structure JI (w : Wr) (ps : List AxStep) (pu : Int) (qs : List AxStep) (qu : Int) (T : Nat) (G : Wr) : Prop where
  gw : GoodW w
  gp : GoodR ps pu
  gq : GoodR qs qu
  eq : newU (ru ps pu) = oldU (ru qs qu)
  len : (exW w).length + (ru ps pu).length + (ru qs qu).length ≤ T
  fin : foldW w (joinU (ru ps pu) (ru qs qu)) = G
  lp : (ex ps).length ≤ T
  lq : (ex qs).length ≤ T
def jm (ps : List AxStep) (pu : Int) (qs : List AxStep) (qu : Int) : Nat := (ru ps pu).length + (ru qs qu).length
theorem len_rep {n : Int} {k : Int} {u v : List U} (hn : 0 ≤ n) (h : rep n.toNat (uOf k) ++ u = v) : (u.length : Int) + n = v.length := by
  have := congrArg List.length h
  simp only [List.length_append, List.length_replicate] at this
  omega
section
variable {w : Wr} {ps qs : List AxStep} {pu qu : Int} {T : Nat} {G : Wr}
theorem JI.cut (h : JI w ps pu qs qu T G) (h0 : 0 < ps.length) (hk : (ps.getD 0 default).kind = 2) :
    JI (putW w 2 ((ps.getD 0 default).n - pu)) (tkS ps pu ((ps.getD 0 default).n - pu)) (tkU ps pu ((ps.getD 0 default).n - pu)) qs qu T G ∧
    jm (tkS ps pu ((ps.getD 0 default).n - pu)) (tkU ps pu ((ps.getD 0 default).n - pu)) qs qu < jm ps pu qs qu := by
  have hl := h.gp.lt h0
  obtain ⟨g, e⟩ := tk_ok (n := (ps.getD 0 default).n - pu) h.gp h0 (by omega) (Int.le_refl _)
  have tl := tk_len ps pu ((ps.getD 0 default).n - pu)
  generalize hn : (ps.getD 0 default).n - pu = n at *
  generalize tkS ps pu n = ps' at *
  generalize tkU ps pu n = pu' at *
  rw [hk, uOf2] at e
  have e2 := len_rep (k := 2) (by omega) e
  obtain ⟨p1, p2, p3⟩ := putW_ok (k := 2) (n := n) h.gw (by decide) (by omega)
  have hlen := h.len
  refine ⟨⟨p1, g, h.gq, ?_, by omega, ?_, Nat.le_trans tl h.lp, h.lq⟩, by unfold jm; omega⟩
  · rw [← h.eq, ← e, new_C]
  · rw [← h.fin, ← e, jc_C, foldW_app, ← uOf2, putI (by decide) (by omega)]
theorem JI.add (h : JI w ps pu qs qu T G) (hp : 0 < ps.length → (ps.getD 0 default).kind ≠ 2) (h0 : 0 < qs.length) (hk : (qs.getD 0 default).kind = 1) :
    JI (putW w 1 ((qs.getD 0 default).n - qu)) ps pu (tkS qs qu ((qs.getD 0 default).n - qu)) (tkU qs qu ((qs.getD 0 default).n - qu)) T G ∧
    jm ps pu (tkS qs qu ((qs.getD 0 default).n - qu)) (tkU qs qu ((qs.getD 0 default).n - qu)) < jm ps pu qs qu := by
  have hl := h.gq.lt h0
  obtain ⟨g, e⟩ := tk_ok (n := (qs.getD 0 default).n - qu) h.gq h0 (by omega) (Int.le_refl _)
  have tl := tk_len qs qu ((qs.getD 0 default).n - qu)
  generalize hn : (qs.getD 0 default).n - qu = n at *
  generalize tkS qs qu n = qs' at *
  generalize tkU qs qu n = qu' at *
  rw [hk, uOf1] at e
  have e2 := len_rep (k := 1) (by omega) e
  obtain ⟨p1, p2, p3⟩ := putW_ok (k := 1) (n := n) h.gw (by decide) (by omega)
  have hlen := h.len
  refine ⟨⟨p1, h.gp, g, ?_, by omega, ?_, h.lp, Nat.le_trans tl h.lq⟩, by unfold jm; omega⟩
  · rw [h.eq, ← e, old_A]
  · rw [← h.fin, ← e, jc_A _ (noC_ru h.gp hp), foldW_app, ← uOf1, putI (by decide) (by omega)]
theorem JI.two (h : JI w ps pu qs qu T G) (hp : 0 < ps.length → (ps.getD 0 default).kind ≠ 2) (hq : 0 < qs.length → (qs.getD 0 default).kind ≠ 1) (h0 : 0 < ps.length ∨ 0 < qs.length) : 0 < ps.length ∧ 0 < qs.length := by
  have heq := h.eq
  by_cases a : 0 < ps.length
  · refine ⟨a, ?_⟩
    by_cases b : 0 < qs.length
    · exact b
    · exfalso
      rw [ru_nil (l := qs) (by omega), ru_cons h.gp a] at heq
      have := new_rep ((ps.getD 0 default).n - pu).toNat (ps.getD 0 default).kind (ex (ps.drop 1))
      rw [if_neg (hp a)] at this
      have := h.gp.lt a
      simp only [oldU] at heq
      omega
  · exfalso
    have b : 0 < qs.length := by omega
    rw [ru_nil (l := ps) (by omega), ru_cons h.gq b] at heq
    have := old_rep ((qs.getD 0 default).n - qu).toNat (qs.getD 0 default).kind (ex (qs.drop 1))
    rw [if_neg (hq b)] at this
    have := h.gq.lt b
    simp only [newU] at heq
    omega
theorem JI.both (h : JI w ps pu qs qu T G) (a : 0 < ps.length) (b : 0 < qs.length) (hp : (ps.getD 0 default).kind ≠ 2) (hq : (qs.getD 0 default).kind ≠ 1) {n : Int} (hn : n = min ((ps.getD 0 default).n - pu) ((qs.getD 0 default).n - qu)) :
    JI (if (ps.getD 0 default).kind = 0 then putW w (qs.getD 0 default).kind n else if (qs.getD 0 default).kind = 0 then putW w 1 n else w) (tkS ps pu n) (tkU ps pu n) (tkS qs qu n) (tkU qs qu n) T G ∧
    jm (tkS ps pu n) (tkU ps pu n) (tkS qs qu n) (tkU qs qu n) < jm ps pu qs qu := by
  have hl := h.gp.lt a
  have hl2 := h.gq.lt b
  have okp := h.gp.ok a
  have okq := h.gq.ok b
  obtain ⟨g1, e1⟩ := tk_ok (n := n) h.gp a (by omega) (by omega)
  obtain ⟨g2, e2⟩ := tk_ok (n := n) h.gq b (by omega) (by omega)
  have tl1 := tk_len ps pu n
  have tl2 := tk_len qs qu n
  have n0 : 1 ≤ n := by omega
  clear hn
  generalize tkS ps pu n = ps' at *
  generalize tkU ps pu n = pu' at *
  generalize tkS qs qu n = qs' at *
  generalize tkU qs qu n = qu' at *
  have l1 := len_rep (by omega) e1
  have l2 := len_rep (by omega) e2
  have hlen := h.len
  have heq := h.eq
  have hfin := h.fin
  rw [← e1, ← e2] at heq hfin
  have t1 := new_rep n.toNat (ps.getD 0 default).kind (ru ps' pu')
  have t2 := old_rep n.toNat (qs.getD 0 default).kind (ru qs' qu')
  rw [if_neg hp] at t1
  rw [if_neg hq] at t2
  have heq' : newU (ru ps' pu') = oldU (ru qs' qu') := by omega
  refine ⟨?_, by unfold jm; omega⟩
  by_cases kp : (ps.getD 0 default).kind = 0
  · rw [if_pos kp]
    obtain ⟨p1, p2, p3⟩ := putW_ok (k := (qs.getD 0 default).kind) (n := n) h.gw ⟨okq.1, okq.2.1⟩ (by omega)
    refine ⟨p1, g1, g2, heq', by omega, ?_, Nat.le_trans tl1 h.lp, Nat.le_trans tl2 h.lq⟩
    rw [kp, uOf0, jc_K _ _ hq, foldW_app, putI ⟨okq.1, okq.2.1⟩ (by omega)] at hfin
    exact hfin
  · rw [if_neg kp]
    have kp1 : (ps.getD 0 default).kind = 1 := by have := okp.1; have := okp.2.1; omega
    rw [kp1, uOf1] at hfin
    by_cases kq : (qs.getD 0 default).kind = 0
    · rw [if_pos kq]
      obtain ⟨p1, p2, p3⟩ := putW_ok (k := 1) (n := n) h.gw (by decide) (by omega)
      refine ⟨p1, g1, g2, heq', by omega, ?_, Nat.le_trans tl1 h.lp, Nat.le_trans tl2 h.lq⟩
      rw [kq, uOf0, jc_AK, foldW_app, ← uOf1, putI (by decide) (by omega)] at hfin
      exact hfin
    · rw [if_neg kq]
      have kq2 : (qs.getD 0 default).kind = 2 := by have := okq.1; have := okq.2.1; omega
      refine ⟨h.gw, g1, g2, heq', by omega, ?_, Nat.le_trans tl1 h.lp, Nat.le_trans tl2 h.lq⟩
      rw [kq2, uOf2, jc_AC] at hfin
      exact hfin
theorem JI.done (h : JI w ps pu qs qu T G) (a : ps.length = 0) (b : qs.length = 0) : w = G := by
  have := h.fin
  rw [ru_nil a, ru_nil b] at this
  simpa [joinU, foldW] using this
end
def joinX (a b : List AxStep) : List AxStep := doneW (joinU (ex a) (ex b))
theorem JI.start {a b : List AxStep} (va : Valid a) (vb : Valid b) (hm : newI a = oldI b) : JI ⟨[], 0, 0⟩ a 0 b 0 ((ex a).length + (ex b).length) (foldW ⟨[], 0, 0⟩ (joinU (ex a) (ex b))) ∧ (ex a).length + (ex b).length ≤ 8589934588 := by
  have h1 := ex_len a
  have h2 := ex_len b
  refine ⟨⟨good0, good_r va.1, good_r vb.1, ?_, by rw [ru0, ru0]; simp [exW, ex], by rw [ru0, ru0], by omega, by omega⟩, by have := va.2.1; have := va.2.2; have := vb.2.1; have := vb.2.2; omega⟩
  rw [ru0, ru0]; unfold newI oldI at hm; omega

/-! ### Two writers -/
structure PI (x y : Wr) (ps : List AxStep) (pu : Int) (qs : List AxStep) (qu : Int) (T : Nat) (G1 G2 : Wr) : Prop where
  gx : GoodW x
  gy : GoodW y
  gp : GoodR ps pu
  gq : GoodR qs qu
  eq : oldU (ru ps pu) = oldU (ru qs qu)
  len1 : (exW x).length + (ru ps pu).length + (ru qs qu).length ≤ T
  len2 : (exW y).length + (ru ps pu).length + (ru qs qu).length ≤ T
  fin1 : foldW x (pairU (ru ps pu) (ru qs qu)).1 = G1
  fin2 : foldW y (pairU (ru ps pu) (ru qs qu)).2 = G2
  lp : (ex ps).length ≤ T
  lq : (ex qs).length ≤ T
section
variable {x y : Wr} {ps qs : List AxStep} {pu qu : Int} {T : Nat} {G1 G2 : Wr}
theorem PI.addP (h : PI x y ps pu qs qu T G1 G2) (h0 : 0 < ps.length) (hk : (ps.getD 0 default).kind = 1) :
    PI (putW x 1 ((ps.getD 0 default).n - pu)) (putW y 0 ((ps.getD 0 default).n - pu)) (tkS ps pu ((ps.getD 0 default).n - pu)) (tkU ps pu ((ps.getD 0 default).n - pu)) qs qu T G1 G2 ∧
    jm (tkS ps pu ((ps.getD 0 default).n - pu)) (tkU ps pu ((ps.getD 0 default).n - pu)) qs qu < jm ps pu qs qu := by
  have hl := h.gp.lt h0
  obtain ⟨g, e⟩ := tk_ok (n := (ps.getD 0 default).n - pu) h.gp h0 (by omega) (Int.le_refl _)
  have tl := tk_len ps pu ((ps.getD 0 default).n - pu)
  generalize hn : (ps.getD 0 default).n - pu = n at *
  generalize tkS ps pu n = ps' at *
  generalize tkU ps pu n = pu' at *
  rw [hk, uOf1] at e
  have e2 := len_rep (k := 1) (by omega) e
  obtain ⟨p1, p2, p3⟩ := putW_ok (k := 1) (n := n) h.gx (by decide) (by omega)
  obtain ⟨r1, r2, r3⟩ := putW_ok (k := 0) (n := n) h.gy (by decide) (by omega)
  have hlen := h.len1
  have hlen2 := h.len2
  have f1 := h.fin1
  have f2 := h.fin2
  rw [← e, pc_A, foldW_app, ← uOf1, putI (by decide) (by omega)] at f1
  rw [← e, pc_A, foldW_app, ← uOf0, putI (by decide) (by omega)] at f2
  refine ⟨⟨p1, r1, g, h.gq, ?_, by omega, by omega, f1, f2, Nat.le_trans tl h.lp, h.lq⟩, by unfold jm; omega⟩
  rw [← h.eq, ← e, old_A]
theorem PI.addQ (h : PI x y ps pu qs qu T G1 G2) (hp : 0 < ps.length → (ps.getD 0 default).kind ≠ 1) (h0 : 0 < qs.length) (hk : (qs.getD 0 default).kind = 1) :
    PI (putW x 0 ((qs.getD 0 default).n - qu)) (putW y 1 ((qs.getD 0 default).n - qu)) ps pu (tkS qs qu ((qs.getD 0 default).n - qu)) (tkU qs qu ((qs.getD 0 default).n - qu)) T G1 G2 ∧
    jm ps pu (tkS qs qu ((qs.getD 0 default).n - qu)) (tkU qs qu ((qs.getD 0 default).n - qu)) < jm ps pu qs qu := by
  have hl := h.gq.lt h0
  obtain ⟨g, e⟩ := tk_ok (n := (qs.getD 0 default).n - qu) h.gq h0 (by omega) (Int.le_refl _)
  have tl := tk_len qs qu ((qs.getD 0 default).n - qu)
  generalize hn : (qs.getD 0 default).n - qu = n at *
  generalize tkS qs qu n = qs' at *
  generalize tkU qs qu n = qu' at *
  rw [hk, uOf1] at e
  have e2 := len_rep (k := 1) (by omega) e
  obtain ⟨p1, p2, p3⟩ := putW_ok (k := 0) (n := n) h.gx (by decide) (by omega)
  obtain ⟨r1, r2, r3⟩ := putW_ok (k := 1) (n := n) h.gy (by decide) (by omega)
  have hlen := h.len1
  have hlen2 := h.len2
  have f1 := h.fin1
  have f2 := h.fin2
  rw [← e, pc_B _ (noA_ru h.gp hp), foldW_app, ← uOf0, putI (by decide) (by omega)] at f1
  rw [← e, pc_B _ (noA_ru h.gp hp), foldW_app, ← uOf1, putI (by decide) (by omega)] at f2
  refine ⟨⟨p1, r1, h.gp, g, ?_, by omega, by omega, f1, f2, h.lp, Nat.le_trans tl h.lq⟩, by unfold jm; omega⟩
  rw [h.eq, ← e, old_A]
theorem PI.two (h : PI x y ps pu qs qu T G1 G2) (hp : 0 < ps.length → (ps.getD 0 default).kind ≠ 1) (hq : 0 < qs.length → (qs.getD 0 default).kind ≠ 1) (h0 : 0 < ps.length ∨ 0 < qs.length) : 0 < ps.length ∧ 0 < qs.length := by
  have heq := h.eq
  by_cases a : 0 < ps.length
  · refine ⟨a, ?_⟩
    by_cases b : 0 < qs.length
    · exact b
    · exfalso
      rw [ru_nil (l := qs) (by omega), ru_cons h.gp a] at heq
      have := old_rep ((ps.getD 0 default).n - pu).toNat (ps.getD 0 default).kind (ex (ps.drop 1))
      rw [if_neg (hp a)] at this
      have := h.gp.lt a
      simp only [oldU] at heq
      omega
  · exfalso
    have b : 0 < qs.length := by omega
    rw [ru_nil (l := ps) (by omega), ru_cons h.gq b] at heq
    have := old_rep ((qs.getD 0 default).n - qu).toNat (qs.getD 0 default).kind (ex (qs.drop 1))
    rw [if_neg (hq b)] at this
    have := h.gq.lt b
    simp only [oldU] at heq
    omega
theorem PI.both (h : PI x y ps pu qs qu T G1 G2) (a : 0 < ps.length) (b : 0 < qs.length) (hp : (ps.getD 0 default).kind ≠ 1) (hq : (qs.getD 0 default).kind ≠ 1) {n : Int} (hn : n = min ((ps.getD 0 default).n - pu) ((qs.getD 0 default).n - qu)) :
    PI (if (qs.getD 0 default).kind = 0 then putW x (ps.getD 0 default).kind n else x) (if (ps.getD 0 default).kind = 0 then putW y (qs.getD 0 default).kind n else y) (tkS ps pu n) (tkU ps pu n) (tkS qs qu n) (tkU qs qu n) T G1 G2 ∧
    jm (tkS ps pu n) (tkU ps pu n) (tkS qs qu n) (tkU qs qu n) < jm ps pu qs qu := by
  have hl := h.gp.lt a
  have hl2 := h.gq.lt b
  have okp := h.gp.ok a
  have okq := h.gq.ok b
  obtain ⟨g1, e1⟩ := tk_ok (n := n) h.gp a (by omega) (by omega)
  obtain ⟨g2, e2⟩ := tk_ok (n := n) h.gq b (by omega) (by omega)
  have tl1 := tk_len ps pu n
  have tl2 := tk_len qs qu n
  have n0 : 1 ≤ n := by omega
  clear hn
  generalize tkS ps pu n = ps' at *
  generalize tkU ps pu n = pu' at *
  generalize tkS qs qu n = qs' at *
  generalize tkU qs qu n = qu' at *
  have l1 := len_rep (by omega) e1
  have l2 := len_rep (by omega) e2
  have hlen := h.len1
  have hlen2 := h.len2
  have heq := h.eq
  have f1 := h.fin1
  have f2 := h.fin2
  rw [← e1, ← e2, pc_XX _ _ _ hp hq] at f1 f2
  rw [← e1, ← e2] at heq
  have t1 := old_rep n.toNat (ps.getD 0 default).kind (ru ps' pu')
  have t2 := old_rep n.toNat (qs.getD 0 default).kind (ru qs' qu')
  rw [if_neg hp] at t1
  rw [if_neg hq] at t2
  have heq' : oldU (ru ps' pu') = oldU (ru qs' qu') := by omega
  obtain ⟨p1, p2, p3⟩ := putW_ok (k := (ps.getD 0 default).kind) (n := n) h.gx ⟨okp.1, okp.2.1⟩ (by omega)
  obtain ⟨r1, r2, r3⟩ := putW_ok (k := (qs.getD 0 default).kind) (n := n) h.gy ⟨okq.1, okq.2.1⟩ (by omega)
  have kq : (qs.getD 0 default).kind = 0 ∨ (qs.getD 0 default).kind = 2 := by have := okq.1; have := okq.2.1; omega
  have kp : (ps.getD 0 default).kind = 0 ∨ (ps.getD 0 default).kind = 2 := by have := okp.1; have := okp.2.1; omega
  refine ⟨⟨?_, ?_, g1, g2, heq', ?_, ?_, ?_, ?_, Nat.le_trans tl1 h.lp, Nat.le_trans tl2 h.lq⟩, by unfold jm; omega⟩
  · split; exact p1; exact h.gx
  · split; exact r1; exact h.gy
  · split <;> omega
  · split <;> omega
  · rcases kq with k | k
    · rw [if_neg (show ¬ (qs.getD 0 default).kind = 2 by omega), foldW_app, putI ⟨okp.1, okp.2.1⟩ (by omega)] at f1; rw [if_pos k]; exact f1
    · rw [if_pos k] at f1; rw [if_neg (show ¬ (qs.getD 0 default).kind = 0 by omega)]; exact f1
  · rcases kp with k | k
    · rw [if_neg (show ¬ (ps.getD 0 default).kind = 2 by omega), foldW_app, putI ⟨okq.1, okq.2.1⟩ (by omega)] at f2; rw [if_pos k]; exact f2
    · rw [if_pos k] at f2; rw [if_neg (show ¬ (ps.getD 0 default).kind = 0 by omega)]; exact f2
theorem PI.done (h : PI x y ps pu qs qu T G1 G2) (a : ps.length = 0) (b : qs.length = 0) : x = G1 ∧ y = G2 := by
  have f1 := h.fin1
  have f2 := h.fin2
  rw [ru_nil a, ru_nil b] at f1 f2
  simp only [pairU, foldW] at f1 f2
  exact ⟨f1, f2⟩
end
def pairX1 (a b : List AxStep) : List AxStep := doneW (pairU (ex a) (ex b)).1
def pairX2 (a b : List AxStep) : List AxStep := doneW (pairU (ex a) (ex b)).2
theorem PI.start {a b : List AxStep} (va : Valid a) (vb : Valid b) (hm : oldI a = oldI b) : PI ⟨[], 0, 0⟩ ⟨[], 0, 0⟩ a 0 b 0 ((ex a).length + (ex b).length) (foldW ⟨[], 0, 0⟩ (pairU (ex a) (ex b)).1) (foldW ⟨[], 0, 0⟩ (pairU (ex a) (ex b)).2) ∧ (ex a).length + (ex b).length ≤ 8589934588 := by
  have h1 := ex_len a
  have h2 := ex_len b
  refine ⟨⟨good0, good0, good_r va.1, good_r vb.1, ?_, by rw [ru0, ru0]; simp [exW, ex], by rw [ru0, ru0]; simp [exW, ex], by rw [ru0, ru0], by rw [ru0, ru0], by omega, by omega⟩, by have := va.2.1; have := va.2.2; have := vb.2.1; have := vb.2.2; omega⟩
  rw [ru0, ru0]; unfold oldI at hm; omega

/-! ### Undo -/
def swU : U → U
  | .K => .K
  | .A => .C
  | .C => .A
def undoX (a : List AxStep) : List AxStep := doneW ((ex a).map swU)
theorem swU_kind {k : Int} (h : 0 ≤ k ∧ k ≤ 2) : swU (uOf k) = uOf (([0, 2, 1] : List Int).getD k.toNat default) ∧ 0 ≤ ([0, 2, 1] : List Int).getD k.toNat default ∧ ([0, 2, 1] : List Int).getD k.toNat default ≤ 2 := by
  have : k = 0 ∨ k = 1 ∨ k = 2 := by omega
  rcases this with rfl | rfl | rfl <;> exact ⟨rfl, by decide, by decide⟩
structure UI (a : List AxStep) (w : Wr) (i : Nat) : Prop where
  gw : GoodW w
  len : (exW w).length + (ex (a.drop i)).length ≤ (ex a).length
  fin : foldW w ((ex (a.drop i)).map swU) = foldW ⟨[], 0, 0⟩ ((ex a).map swU)
theorem UI.start (a : List AxStep) : UI a ⟨[], 0, 0⟩ 0 := ⟨good0, by simp [exW, ex], rfl⟩
theorem UI.next {a : List AxStep} {w : Wr} {i : Nat} (h : UI a w i) (hf : Form a) (hi : i < a.length) : UI a (putW w (([0, 2, 1] : List Int).getD (a.getD i default).kind.toNat default) (a.getD i default).n) (i + 1) ∧
    0 ≤ (a.getD i default).kind ∧ (a.getD i default).kind ≤ 2 ∧ 1 ≤ (a.getD i default).n ∧ ((exW w).length : Int) + (a.getD i default).n ≤ (ex a).length ∧ 0 ≤ ([0, 2, 1] : List Int).getD (a.getD i default).kind.toNat default ∧ ([0, 2, 1] : List Int).getD (a.getD i default).kind.toNat default ≤ 2 := by
  have ok := ((at_of_form hf) i (Nat.zero_le _) hi).1
  obtain ⟨k1, k2, k3⟩ := swU_kind ⟨ok.1, ok.2.1⟩
  have e := ex_at hi
  have hlen := h.len
  rw [e] at hlen
  simp only [List.length_append, List.length_replicate] at hlen
  have hn := ok.2.2
  obtain ⟨p1, p2, p3⟩ := putW_ok (k := ([0, 2, 1] : List Int).getD (a.getD i default).kind.toNat default) (n := (a.getD i default).n) h.gw ⟨k2, k3⟩ (by omega)
  refine ⟨⟨p1, by omega, ?_⟩, ok.1, ok.2.1, hn, by omega, k2, k3⟩
  have f := h.fin
  rw [e, List.map_append, List.map_replicate, k1, foldW_app, putI ⟨k2, k3⟩ (by omega)] at f
  exact f
theorem UI.done {a : List AxStep} {w : Wr} {i : Nat} (h : UI a w i) (hi : a.length ≤ i) : w = foldW ⟨[], 0, 0⟩ ((ex a).map swU) := by
  have f := h.fin
  rw [ex_end hi] at f
  exact f
end Go.Ch
end
section
set_option linter.unusedVariables false
set_option linter.unusedSimpArgs false
set_option maxRecDepth 100000
set_option maxHeartbeats 4000000
open Go Go.Proofs Go.Ab
namespace Go.Ch
end Go.Ch
end
section
set_option linter.unusedVariables false
set_option linter.unusedSimpArgs false
set_option maxRecDepth 100000
set_option maxHeartbeats 4000000
open Go Go.Proofs Go.Ab
namespace Go.Ch
theorem fc_axPair (a b : List AxStep) (va : Valid a) (vb : Valid b) (hm : oldI a = oldI b) (hd1 : checkX (pairX1 a b) = 0) (hd2 : checkX (pairX2 a b) = 0) : FC Tryd.prog 60 [VL 2 stepT a, VL 2 stepT b] (app emp []) (.tup [VL 2 stepT (pairX1 a b), VL 2 stepT (pairX2 a b), VI 0]) (app emp []) := by
 refine .go Tryd.f60 ?_
 refine .len 0 (fun hl0 => ?_)
 refine .len 1 (fun hl1 => ?_)
 have ca := check_iff.2 va
 have cb := check_iff.2 vb
 obtain ⟨st, st2⟩ := PI.start va vb hm
 refine .br [.r [], .r [(1, X (Xc0 (fc_axCheck a) X0))], .r []] ((checkX a) != 0) (fun h2 => ?_) (fun h2 => ?_)
 ·
  (try simp only [bne_iff_ne, bne_eq_false_iff_eq, ne_eq] at h2)
  exfalso
  omega
 ·
  (try simp only [bne_iff_ne, bne_eq_false_iff_eq, ne_eq] at h2)
  refine .br [.r [(1, X (Xc0 (fc_axCheck b) X0))], .r []] ((checkX b) != 0) (fun h5 => ?_) (fun h5 => ?_)
  ·
   (try simp only [bne_iff_ne, bne_eq_false_iff_eq, ne_eq] at h5)
   exfalso
   omega
  ·
   (try simp only [bne_iff_ne, bne_eq_false_iff_eq, ne_eq] at h5)
   refine .br [.r [(1, X (Xc0 (fc_axLens a (by assumption)) X0))], .r [(1, X (Xc0 (fc_axLens b (by assumption)) X0))], .r []] ((oldI a) != (oldI b)) (fun h9 => ?_) (fun h9 => ?_)
   ·
    (try simp only [bne_iff_ne, bne_eq_false_iff_eq, ne_eq] at h9)
    exfalso
    omega
   ·
    (try simp only [bne_iff_ne, bne_eq_false_iff_eq, ne_eq] at h9)
    refine .loop (α := Int × Int × Int × Int × (List AxStep) × (List AxStep) × (List AxStep) × Int × (List AxStep) × Int) [.r [], .le (.nB 240 0 2), .le (.nB 248 0 2), .r []] 322 (fun (x1, y1, x2, y2, o1, o2, ps, pu, qs, qu) => ([(13, .ptr 240 0), (14, .ptr 248 0), (15, .ptr 274 0), (16, .ptr 298 0)], [(240, .box [.row 256 o1.length, VI x1, VI y1]), (248, .box [.row 257 o2.length, VI x2, VI y2]), (256, OR 2 stepT o1), (257, OR 2 stepT o2), (274, .box [VL 2 stepT ps, VI pu]), (298, .box [VL 2 stepT qs, VI qu])])) (fun (x1, y1, x2, y2, o1, o2, ps, pu, qs, qu) => PI ⟨o1, x1, y1⟩ ⟨o2, x2, y2⟩ ps pu qs qu ((ex a).length + (ex b).length) (foldW ⟨[], 0, 0⟩ (pairU (ex a) (ex b)).1) (foldW ⟨[], 0, 0⟩ (pairU (ex a) (ex b)).2)) (fun (x1, y1, x2, y2, o1, o2, ps, pu, qs, qu) => jm ps pu qs qu) (0, 0, 0, 0, [], [], a, 0, b, 0) ?_ ?_
    ·
     exact st
    rintro ⟨x1, y1, x2, y2, o1, o2, ps, pu, qs, qu⟩ I13 ih13
    try dsimp only at I13
    have gx := I13.gx
    have gy := I13.gy
    have kp := kindR_cases I13.gp
    have kq := kindR_cases I13.gq
    have hlen := I13.len1
    have hlen2 := I13.len2
    have hlp := I13.lp
    have hlq := I13.lq
    have hwb := exW_bd I13.gx
    have hwb2 := exW_bd I13.gy
    simp only at hwb hwb2
    refine .br [.r [(1, X (Xc4 [(0, 274)] (fc_kind ps pu) X0)), (5, Xv 1 (!(decide ((kindR ps) ≥ 0))) (Xc4 [(0, 298)] (fc_kind qs qu) X0)), (6, Xv 1 (!(decide ((kindR ps) ≥ 0))) X0), (7, X (Xk' (decide ((kindR ps) ≥ 0))))]] (decide ((kindR ps) ≥ 0) || decide ((kindR qs) ≥ 0)) (fun h13 => ?_) (fun h13 => ?_)
    ·
     (try simp only [decide_eq_true_eq, decide_eq_false_iff_not, Int.not_lt, Int.not_le, ge_iff_le, Bool.or_eq_true, Bool.or_eq_false_iff] at h13)
     refine .br [.r [(1, X (Xc4 [(0, 274)] (fc_kind ps pu) X0))]] ((kindR ps) == 1) (fun h14 => ?_) (fun h14 => ?_)
     ·
      (try simp only [beq_iff_eq, beq_eq_false_iff_ne, ne_eq] at h14)
      refine .back [.r [(1, X (Xc4 [(0, 274)] (fc_left ps pu (by omega) (by omega)) X0)), (2, X (Xc3 434 [(0, 240), (1, 256)] (fc_put o1 x1 y1 1 ((ps.getD 0 default).n - pu) (by assumption) (by omega) (by omega) (by omega)) X0))], .r [(1, X (Xc4 [(0, 274)] (fc_left ps pu (by omega) (by omega)) X0)), (2, X (Xc3 458 [(0, 248), (1, 257)] (fc_put o2 x2 y2 0 ((ps.getD 0 default).n - pu) (by assumption) (by omega) (by omega) (by omega)) X0))], .r [(2, X (Xc4 [(0, 274)] (fc_left ps pu (by omega) (by omega)) X0)), (3, X (Xc3 490 [(0, 274)] (fc_take ps pu ((ps.getD 0 default).n - pu) (by omega) (by omega)) X0))]] [(240, 240), (248, 248), (256, 256), (257, 257), (274, 274), (298, 298)] (ih13 ((putW ⟨o1, x1, y1⟩ 1 ((ps.getD 0 default).n - pu)).add, (putW ⟨o1, x1, y1⟩ 1 ((ps.getD 0 default).n - pu)).cut, (putW ⟨o2, x2, y2⟩ 0 ((ps.getD 0 default).n - pu)).add, (putW ⟨o2, x2, y2⟩ 0 ((ps.getD 0 default).n - pu)).cut, (putW ⟨o1, x1, y1⟩ 1 ((ps.getD 0 default).n - pu)).out, (putW ⟨o2, x2, y2⟩ 0 ((ps.getD 0 default).n - pu)).out, (tkS ps pu ((ps.getD 0 default).n - pu)), (tkU ps pu ((ps.getD 0 default).n - pu)), qs, qu) ?_ ?_)
      ·
       exact (PI.addP I13 (by omega) (by omega)).1
      ·
       exact (PI.addP I13 (by omega) (by omega)).2
     ·
      (try simp only [beq_iff_eq, beq_eq_false_iff_ne, ne_eq] at h14)
      refine .br [.r [(1, X (Xc4 [(0, 298)] (fc_kind qs qu) X0))]] ((kindR qs) == 1) (fun h18 => ?_) (fun h18 => ?_)
      ·
       (try simp only [beq_iff_eq, beq_eq_false_iff_ne, ne_eq] at h18)
       refine .back [.r [(1, X (Xc4 [(0, 298)] (fc_left qs qu (by omega) (by omega)) X0)), (2, X (Xc3 466 [(0, 240), (1, 256)] (fc_put o1 x1 y1 0 ((qs.getD 0 default).n - qu) (by assumption) (by omega) (by omega) (by omega)) X0))], .r [(1, X (Xc4 [(0, 298)] (fc_left qs qu (by omega) (by omega)) X0)), (2, X (Xc3 490 [(0, 248), (1, 257)] (fc_put o2 x2 y2 1 ((qs.getD 0 default).n - qu) (by assumption) (by omega) (by omega) (by omega)) X0))], .r [(2, X (Xc4 [(0, 298)] (fc_left qs qu (by omega) (by omega)) X0)), (3, X (Xc3 522 [(0, 298)] (fc_take qs qu ((qs.getD 0 default).n - qu) (by omega) (by omega)) X0))]] [(240, 240), (248, 248), (256, 256), (257, 257), (274, 274), (298, 298)] (ih13 ((putW ⟨o1, x1, y1⟩ 0 ((qs.getD 0 default).n - qu)).add, (putW ⟨o1, x1, y1⟩ 0 ((qs.getD 0 default).n - qu)).cut, (putW ⟨o2, x2, y2⟩ 1 ((qs.getD 0 default).n - qu)).add, (putW ⟨o2, x2, y2⟩ 1 ((qs.getD 0 default).n - qu)).cut, (putW ⟨o1, x1, y1⟩ 0 ((qs.getD 0 default).n - qu)).out, (putW ⟨o2, x2, y2⟩ 1 ((qs.getD 0 default).n - qu)).out, ps, pu, (tkS qs qu ((qs.getD 0 default).n - qu)), (tkU qs qu ((qs.getD 0 default).n - qu))) ?_ ?_)
       ·
        exact (PI.addQ I13 (by omega) (by omega) (by omega)).1
       ·
        exact (PI.addQ I13 (by omega) (by omega) (by omega)).2
      ·
       (try simp only [beq_iff_eq, beq_eq_false_iff_ne, ne_eq] at h18)
       obtain ⟨lp0, lq0⟩ := PI.two I13 (by omega) (by omega) (by omega)
       have hB := PI.both I13 lp0 lq0 (by omega) (by omega) rfl
       have hkq : (qs.getD 0 default).kind = kindR qs := by omega
       have hkp : (ps.getD 0 default).kind = kindR ps := by omega
       rw [hkq, hkp] at hB
       refine .br [.r [(1, X (Xc4 [(0, 274)] (fc_left ps pu (by omega) (by omega)) X0)), (3, X (Xc4 [(0, 298)] (fc_left qs qu (by omega) (by omega)) X0)), (4, X (Xmin ((ps.getD 0 default).n - pu) ((qs.getD 0 default).n - qu)))], .r [(1, X (Xc4 [(0, 298)] (fc_kind qs qu) X0))]] ((kindR qs) == 0) (fun h23 => ?_) (fun h23 => ?_)
       ·
        (try simp only [beq_iff_eq, beq_eq_false_iff_ne, ne_eq] at h23)
        refine .br [.r [(1, X (Xc4 [(0, 274)] (fc_kind ps pu) X0)), (3, X (Xc3 546 [(0, 240), (1, 256)] (fc_put o1 x1 y1 (kindR ps) (min ((ps.getD 0 default).n - pu) ((qs.getD 0 default).n - qu)) (by assumption) (by omega) (by omega) (by omega)) X0))], .r [(1, X (Xc4 [(0, 274)] (fc_kind ps pu) X0))]] ((kindR ps) == 0) (fun h25 => ?_) (fun h25 => ?_)
        ·
         (try simp only [beq_iff_eq, beq_eq_false_iff_ne, ne_eq] at h25)
         refine .back [.r [(1, X (Xc4 [(0, 298)] (fc_kind qs qu) X0)), (3, X (Xc3 602 [(0, 248), (1, 257)] (fc_put o2 x2 y2 (kindR qs) (min ((ps.getD 0 default).n - pu) ((qs.getD 0 default).n - qu)) (by assumption) (by omega) (by omega) (by omega)) X0))], .r [(2, X (Xc3 626 [(0, 274)] (fc_take ps pu (min ((ps.getD 0 default).n - pu) ((qs.getD 0 default).n - qu)) (by omega) (by omega)) X0))], .r [(2, X (Xc3 650 [(0, 298)] (fc_take qs qu (min ((ps.getD 0 default).n - pu) ((qs.getD 0 default).n - qu)) (by omega) (by omega)) X0))]] [(240, 240), (248, 248), (256, 256), (257, 257), (274, 274), (298, 298)] (ih13 ((putW ⟨o1, x1, y1⟩ (kindR ps) (min ((ps.getD 0 default).n - pu) ((qs.getD 0 default).n - qu))).add, (putW ⟨o1, x1, y1⟩ (kindR ps) (min ((ps.getD 0 default).n - pu) ((qs.getD 0 default).n - qu))).cut, (putW ⟨o2, x2, y2⟩ (kindR qs) (min ((ps.getD 0 default).n - pu) ((qs.getD 0 default).n - qu))).add, (putW ⟨o2, x2, y2⟩ (kindR qs) (min ((ps.getD 0 default).n - pu) ((qs.getD 0 default).n - qu))).cut, (putW ⟨o1, x1, y1⟩ (kindR ps) (min ((ps.getD 0 default).n - pu) ((qs.getD 0 default).n - qu))).out, (putW ⟨o2, x2, y2⟩ (kindR qs) (min ((ps.getD 0 default).n - pu) ((qs.getD 0 default).n - qu))).out, (tkS ps pu (min ((ps.getD 0 default).n - pu) ((qs.getD 0 default).n - qu))), (tkU ps pu (min ((ps.getD 0 default).n - pu) ((qs.getD 0 default).n - qu))), (tkS qs qu (min ((ps.getD 0 default).n - pu) ((qs.getD 0 default).n - qu))), (tkU qs qu (min ((ps.getD 0 default).n - pu) ((qs.getD 0 default).n - qu)))) ?_ ?_)
         ·
          rw [if_pos (show kindR qs = 0 by omega), if_pos (show kindR ps = 0 by omega)] at hB; exact hB.1
         ·
          exact hB.2
        ·
         (try simp only [beq_iff_eq, beq_eq_false_iff_ne, ne_eq] at h25)
         refine .back [.r [(2, X (Xc3 594 [(0, 274)] (fc_take ps pu (min ((ps.getD 0 default).n - pu) ((qs.getD 0 default).n - qu)) (by omega) (by omega)) X0))], .r [(2, X (Xc3 618 [(0, 298)] (fc_take qs qu (min ((ps.getD 0 default).n - pu) ((qs.getD 0 default).n - qu)) (by omega) (by omega)) X0))]] [(240, 240), (248, 248), (256, 256), (257, 257), (274, 274), (298, 298)] (ih13 ((putW ⟨o1, x1, y1⟩ (kindR ps) (min ((ps.getD 0 default).n - pu) ((qs.getD 0 default).n - qu))).add, (putW ⟨o1, x1, y1⟩ (kindR ps) (min ((ps.getD 0 default).n - pu) ((qs.getD 0 default).n - qu))).cut, x2, y2, (putW ⟨o1, x1, y1⟩ (kindR ps) (min ((ps.getD 0 default).n - pu) ((qs.getD 0 default).n - qu))).out, o2, (tkS ps pu (min ((ps.getD 0 default).n - pu) ((qs.getD 0 default).n - qu))), (tkU ps pu (min ((ps.getD 0 default).n - pu) ((qs.getD 0 default).n - qu))), (tkS qs qu (min ((ps.getD 0 default).n - pu) ((qs.getD 0 default).n - qu))), (tkU qs qu (min ((ps.getD 0 default).n - pu) ((qs.getD 0 default).n - qu)))) ?_ ?_)
         ·
          rw [if_pos (show kindR qs = 0 by omega), if_neg (show ¬ kindR ps = 0 by omega)] at hB; exact hB.1
         ·
          exact hB.2
       ·
        (try simp only [beq_iff_eq, beq_eq_false_iff_ne, ne_eq] at h23)
        refine .br [.r [(1, X (Xc4 [(0, 274)] (fc_kind ps pu) X0))]] ((kindR ps) == 0) (fun h25 => ?_) (fun h25 => ?_)
        ·
         (try simp only [beq_iff_eq, beq_eq_false_iff_ne, ne_eq] at h25)
         refine .back [.r [(1, X (Xc4 [(0, 298)] (fc_kind qs qu) X0)), (3, X (Xc3 570 [(0, 248), (1, 257)] (fc_put o2 x2 y2 (kindR qs) (min ((ps.getD 0 default).n - pu) ((qs.getD 0 default).n - qu)) (by assumption) (by omega) (by omega) (by omega)) X0))], .r [(2, X (Xc3 594 [(0, 274)] (fc_take ps pu (min ((ps.getD 0 default).n - pu) ((qs.getD 0 default).n - qu)) (by omega) (by omega)) X0))], .r [(2, X (Xc3 618 [(0, 298)] (fc_take qs qu (min ((ps.getD 0 default).n - pu) ((qs.getD 0 default).n - qu)) (by omega) (by omega)) X0))]] [(240, 240), (248, 248), (256, 256), (257, 257), (274, 274), (298, 298)] (ih13 (x1, y1, (putW ⟨o2, x2, y2⟩ (kindR qs) (min ((ps.getD 0 default).n - pu) ((qs.getD 0 default).n - qu))).add, (putW ⟨o2, x2, y2⟩ (kindR qs) (min ((ps.getD 0 default).n - pu) ((qs.getD 0 default).n - qu))).cut, o1, (putW ⟨o2, x2, y2⟩ (kindR qs) (min ((ps.getD 0 default).n - pu) ((qs.getD 0 default).n - qu))).out, (tkS ps pu (min ((ps.getD 0 default).n - pu) ((qs.getD 0 default).n - qu))), (tkU ps pu (min ((ps.getD 0 default).n - pu) ((qs.getD 0 default).n - qu))), (tkS qs qu (min ((ps.getD 0 default).n - pu) ((qs.getD 0 default).n - qu))), (tkU qs qu (min ((ps.getD 0 default).n - pu) ((qs.getD 0 default).n - qu)))) ?_ ?_)
         ·
          rw [if_neg (show ¬ kindR qs = 0 by omega), if_pos (show kindR ps = 0 by omega)] at hB; exact hB.1
         ·
          exact hB.2
        ·
         (try simp only [beq_iff_eq, beq_eq_false_iff_ne, ne_eq] at h25)
         refine .back [.r [(2, X (Xc3 562 [(0, 274)] (fc_take ps pu (min ((ps.getD 0 default).n - pu) ((qs.getD 0 default).n - qu)) (by omega) (by omega)) X0))], .r [(2, X (Xc3 586 [(0, 298)] (fc_take qs qu (min ((ps.getD 0 default).n - pu) ((qs.getD 0 default).n - qu)) (by omega) (by omega)) X0))]] [(240, 240), (248, 248), (256, 256), (257, 257), (274, 274), (298, 298)] (ih13 (x1, y1, x2, y2, o1, o2, (tkS ps pu (min ((ps.getD 0 default).n - pu) ((qs.getD 0 default).n - qu))), (tkU ps pu (min ((ps.getD 0 default).n - pu) ((qs.getD 0 default).n - qu))), (tkS qs qu (min ((ps.getD 0 default).n - pu) ((qs.getD 0 default).n - qu))), (tkU qs qu (min ((ps.getD 0 default).n - pu) ((qs.getD 0 default).n - qu)))) ?_ ?_)
         ·
          rw [if_neg (show ¬ kindR qs = 0 by omega), if_neg (show ¬ kindR ps = 0 by omega)] at hB; exact hB.1
         ·
          exact hB.2
    ·
     (try simp only [decide_eq_true_eq, decide_eq_false_iff_not, Int.not_lt, Int.not_le, ge_iff_le, Bool.or_eq_true, Bool.or_eq_false_iff] at h13)
     obtain ⟨hG, hG2⟩ := PI.done I13 (by omega) (by omega)
     have hfx : flushW ⟨o1, x1, y1⟩ = pairX1 a b := by rw [hG]; rfl
     have hcd : checkX (flushW ⟨o1, x1, y1⟩) = 0 := by rw [hfx]; exact hd1
     have hfy : flushW ⟨o2, x2, y2⟩ = pairX2 a b := by rw [hG2]; rfl
     have hcd2 : checkX (flushW ⟨o2, x2, y2⟩) = 0 := by rw [hfy]; exact hd2
     refine .br [.r [(0, X (Xc3 386 [(0, 240), (1, 256)] (fc_done o1 x1 y1 (by omega) (by assumption)) X0))], .r [(0, X (Xc3 434 [(0, 248), (1, 257)] (fc_done o2 x2 y2 (by omega) (by assumption)) X0))], .r [(4, Xv 1 (!false) X0), (5, X (Xk' false))]] (false || false) (fun h31 => ?_) (fun h31 => ?_)
     ·
      (try simp only [Bool.or_eq_true, Bool.or_eq_false_iff] at h31)
      exfalso
      simp at h31
     ·
      (try simp only [Bool.or_eq_true, Bool.or_eq_false_iff] at h31)
      have e1 : ((pairX1 a b) : List AxStep) = (flushW ⟨o1, x1, y1⟩) := by
       first | rw [hfx] | rw [hfy]
      have e2 : ((pairX2 a b) : List AxStep) = (flushW ⟨o2, x2, y2⟩) := by
       first | rw [hfx] | rw [hfy]
      exact .finE [.r [], .le (.fr 4 [(((flushW ⟨o1, x1, y1⟩).length) : Nat) = (List.map stepT (flushW ⟨o1, x1, y1⟩)).length] ⟨lm, trivial⟩), .le (.fr 5 [(((flushW ⟨o2, x2, y2⟩).length) : Nat) = (List.map stepT (flushW ⟨o2, x2, y2⟩)).length] ⟨lm, trivial⟩)] [] (fun (z0, z1) => (.tup [VL 2 stepT z0, VL 2 stepT z1, VI 0], [])) (((flushW ⟨o1, x1, y1⟩) : List AxStep), ((flushW ⟨o2, x2, y2⟩) : List AxStep)) (((pairX1 a b) : List AxStep), ((pairX2 a b) : List AxStep)) (pr e1 e2)
end Go.Ch
end
section
set_option linter.unusedVariables false
set_option linter.unusedSimpArgs false
namespace Go.Ch
open Go Go.Ab

/-! ### Steps of units -/
theorem segE_cls (u : List Int) (i k : Nat) (hik : i ≤ k) (h : ∀ j, i ≤ j → j < k → (u.getD j default = 0 ↔ u.getD i default = 0)) : (∀ j, i ≤ j → j < segE u i k → (u.getD j default = 0 ↔ u.getD i default = 0)) ∧
    (segE u i k < u.length → ¬ (u.getD (segE u i k) default = 0 ↔ u.getD i default = 0)) := by
  induction k using segE.induct (u := u) (i := i) with
  | case1 k hc ih =>
    rw [segE, if_pos hc]
    refine ih (by omega) (fun j h1 h2 => ?_)
    by_cases e : j = k
    · subst e; exact hc.2
    · exact h j h1 (by omega)
  | case2 k hc =>
    rw [segE, if_neg hc]
    exact ⟨h, fun hk hh => hc ⟨hk, hh⟩⟩
def segL (u : List Int) (i k : Nat) : List Int := (u.drop i).take (k - i)
theorem segL_mem {u : List Int} {i k : Nat} (hk : k ≤ u.length) {x : Int} (h : x ∈ segL u i k) : ∃ j, i ≤ j ∧ j < k ∧ u.getD j default = x := by
  unfold segL at h
  obtain ⟨m, hm, e⟩ := List.mem_iff_getElem.1 h
  simp only [List.length_take, List.length_drop] at hm
  refine ⟨i + m, by omega, by omega, ?_⟩
  rw [← e]
  simp [List.getD, List.getElem?_eq_getElem (show i + m < u.length by omega)]
theorem take_seg {u : List Int} {i k : Nat} (h : i ≤ k) : u.take k = u.take i ++ segL u i k := by
  unfold segL
  rw [show k = i + (k - i) by omega, List.take_add]
  simp
theorem sw_seg : ∀ {l : List Int}, (∀ x ∈ l, x = 1 ∨ x = 2) → Sw (l.map uOf) (rep (l.countP fun y => decide (y = 1)) .A ++ rep (l.countP fun y => decide (y = 2)) .C)
  | [], _ => .refl _
  | x :: l, h => by
    have ih := sw_seg (l := l) (fun y hy => h y (by simp [hy]))
    rcases h x (by simp) with rfl | rfl
    · simp only [List.map_cons, List.countP_cons]
      exact .cons _ ih
    · simp only [List.map_cons, List.countP_cons]
      refine .trans (.cons _ ih) ?_
      have := sw_C_As (l.countP fun y => decide (y = 1)) (rep (l.countP fun y => decide (y = 2)) .C)
      exact this
theorem seg_zero : ∀ {l : List Int}, (∀ x ∈ l, x = 0) → l.map uOf = rep l.length .K ∧ (l.countP fun y => decide (y = 0)) = l.length ∧ (l.countP fun y => decide (y = 1)) = 0 ∧ (l.countP fun y => decide (y = 2)) = 0
  | [], _ => ⟨rfl, rfl, rfl, rfl⟩
  | x :: l, h => by
    obtain ⟨a, b, c, d⟩ := seg_zero (l := l) (fun y hy => h y (by simp [hy]))
    have := h x (by simp)
    subst this
    refine ⟨by rw [List.map_cons, a]; rfl, by simp [List.countP_cons, b], by simp [List.countP_cons, c], by simp [List.countP_cons, d]⟩
theorem seg_nz : ∀ {l : List Int}, (∀ x ∈ l, x = 1 ∨ x = 2) → (l.countP fun y => decide (y = 0)) = 0 ∧ (l.countP fun y => decide (y = 1)) + (l.countP fun y => decide (y = 2)) = l.length
  | [], _ => ⟨rfl, rfl⟩
  | x :: l, h => by
    obtain ⟨a, b⟩ := seg_nz (l := l) (fun y hy => h y (by simp [hy]))
    rcases h x (by simp) with rfl | rfl
    · exact ⟨by simp [List.countP_cons, a], by simp [List.countP_cons]; omega⟩
    · exact ⟨by simp [List.countP_cons, a], by simp [List.countP_cons]; omega⟩
theorem ex_o1 (k : Int) (n : Nat) : ex (o1 k n) = rep n (uOf k) := by
  unfold o1
  split
  · simp [ex]
  · rw [show n = 0 by omega]; rfl
structure StI (u : List Int) (i : Nat) (out : List AxStep) : Prop where
  form : Form out
  sw : Sw (ex out) ((u.take i).map uOf)
  link : i < u.length → ∀ t, out.getLast? = some t → (t.kind = 0 ↔ u.getD i default ≠ 0)
theorem stepsL_ok {u : List Int} (hu : U3 u) : ∀ (m i : Nat) (out : List AxStep), u.length - i = m → i ≤ u.length → StI u i out → Form (stepsL u i out) ∧ Sw (ex (stepsL u i out)) (u.map uOf) := by
  intro m
  induction m using Nat.strongRecOn with
  | _ m ih =>
    intro i out hm hi h
    rw [stepsL]
    by_cases hlt : i < u.length
    rotate_left
    · rw [dif_neg hlt]
      have : u.take i = u := List.take_of_length_le (by omega)
      exact ⟨h.form, this ▸ h.sw⟩
    rw [dif_pos hlt]
    have hg := segE_gt u i hlt
    have hle := segE_le u i i hi
    obtain ⟨c1, c2⟩ := segE_cls u i i (Nat.le_refl _) (fun j h1 h2 => by omega)
    generalize segE u i i = k at *
    refine ih (u.length - k) (by omega) k _ rfl hle ?_
    have hu3 := hu3_of hu hlt
    have hmem : ∀ x ∈ segL u i k, (x = 0 ↔ u.getD i default = 0) ∧ (x = 0 ∨ x = 1 ∨ x = 2) := by
      intro x hx
      obtain ⟨j, j1, j2, e⟩ := segL_mem hle hx
      rw [← e]
      exact ⟨c1 j j1 j2, hu3_of hu (by omega)⟩
    have hsl : (segL u i k).length = k - i := by unfold segL; simp; omega
    have hc : ∀ x, cntX u i k x = (segL u i k).countP fun y => decide (y = x) := fun x => rfl
    rw [hc, hc, hc]
    have htk := take_seg (u := u) (Nat.le_of_lt hg)
    by_cases h0 : u.getD i default = 0
    · obtain ⟨s1, s2, s3, s4⟩ := seg_zero (l := segL u i k) (fun x hx => (hmem x hx).1.2 h0)
      rw [s2, s3, s4]
      have eo : o3 (segL u i k).length 0 0 = [⟨0, ((segL u i k).length : Int)⟩] := by
        unfold o3 o1; rw [if_pos (by omega)]; rfl
      rw [eo]
      refine ⟨form_snoc h.form (ok1_mk (by decide) (by omega)) (fun t ht => ?_), ?_, fun hk t ht => ?_⟩
      · have := h.link hlt t ht
        exact nx_mk (fun e => this.1 e h0) (by omega)
      · rw [htk, List.map_append, s1, ex_app]
        refine .trans (.right _ h.sw) (.of_eq ?_)
        simp [ex, uOf]
      · rw [List.getLast?_concat] at ht
        cases ht
        refine ⟨fun _ e => c2 hk ⟨fun _ => h0, fun _ => e⟩, fun _ => rfl⟩
    · have hnz : ∀ x ∈ segL u i k, x = 1 ∨ x = 2 := fun x hx => by
        obtain ⟨q1, q2⟩ := hmem x hx
        rcases q2 with q | q | q
        · exact absurd (q1.1 q) h0
        · exact .inl q
        · exact .inr q
      obtain ⟨z1, z2⟩ := seg_nz hnz
      have sw := sw_seg hnz
      rw [z1]
      generalize ((segL u i k).countP fun y => decide (y = 1)) = p at *
      generalize ((segL u i k).countP fun y => decide (y = 2)) = q at *
      have hlast : ∀ t, out.getLast? = some t → t.kind = 0 := fun t ht => (h.link hlt t ht).2 h0
      have f1 : Form (out ++ o1 1 p) := by
        unfold o1
        split
        · exact form_snoc h.form (ok1_mk (by decide) (by omega)) (fun t ht => nx_mk (by rw [hlast t ht]; decide) (by rw [hlast t ht]; decide))
        · rw [List.append_nil]; exact h.form
      have l1 : ∀ t, (out ++ o1 1 p).getLast? = some t → t.kind = 0 ∨ t.kind = 1 := by
        intro t ht
        unfold o1 at ht
        split at ht
        · rw [List.getLast?_concat] at ht; cases ht; exact .inr rfl
        · rw [List.append_nil] at ht; exact .inl (hlast t ht)
      have f2 : Form (out ++ o1 1 p ++ o1 2 q) := by
        unfold o1 at f1 l1 ⊢
        by_cases hq : 0 < q
        · rw [if_pos hq]
          exact form_snoc f1 (ok1_mk (by decide) (by omega)) (fun t ht => nx_mk (by rcases l1 t ht with e | e <;> rw [e] <;> decide) (by rcases l1 t ht with e | e <;> rw [e] <;> decide))
        · rw [if_neg hq, List.append_nil]; exact f1
      have eo : out ++ o3 0 p q = out ++ o1 1 p ++ o1 2 q := by unfold o3; simp [o1]
      rw [eo]
      refine ⟨f2, ?_, fun hk t ht => ?_⟩
      · rw [htk, List.map_append, ex_app, ex_app, ex_o1, ex_o1, List.append_assoc]
        exact .trans (.left _ (.symm sw)) (.right _ h.sw)
      · have hk2 : u.getD k default = 0 := by
          refine Classical.byContradiction fun e => c2 hk ⟨fun e' => absurd e' e, fun e' => absurd e' h0⟩
        have : t.kind ≠ 0 := by
          unfold o1 at ht
          by_cases hq : 0 < q
          · rw [if_pos hq, List.getLast?_concat] at ht; cases ht; simp only; decide
          · rw [if_neg hq, List.append_nil] at ht
            rw [if_pos (by omega), List.getLast?_concat] at ht; cases ht; simp only; decide
        exact ⟨fun e => absurd e this, fun e => absurd hk2 e⟩

/-! ### Fitting changes -/
theorem old_app (a b : List U) : oldU (a ++ b) = oldU a + oldU b := by
  induction a with
  | nil => simp [oldU]
  | cons x a ih => cases x <;> simp only [List.cons_append, oldU, ih] <;> omega
theorem new_len (u : List U) : newU u ≤ u.length := by
  induction u with
  | nil => simp [newU]
  | cons x u ih => cases x <;> simp only [newU, List.length_cons] <;> omega
theorem fitA_ok {u : List Int} {v : Int} (h : U3 u) (hv : v ≤ 5) : U3 (fitA u v) ∧ oldU ((fitA u v).map uOf) = oldU (u.map uOf) ∧ (fitA u v).length ≤ u.length + 2 := by
  unfold fitA
  refine ⟨h.app (U3.reps _), ?_, by simp; omega⟩
  rw [List.map_append, old_app, List.map_replicate]
  have := old_A (max 0 (v - 3)).toNat []
  simp only [List.append_nil, oldU] at this
  show _ + oldU (rep _ (uOf 1)) = _
  rw [uOf1, this]; rfl
theorem fitL_ok (raw : List Int) : ∀ (r : Nat) (used : Int) (u : List Int), U3 u → U3 (fitL raw r used u).1 ∧ oldU ((fitL raw r used u).1.map uOf) = oldU (u.map uOf) + r ∧ (fitL raw r used u).1.length ≤ u.length + 3 * r
  | 0, used, u, h => ⟨h, rfl, by simp [fitL]⟩
  | r + 1, used, u, h => by
    rw [fitL]
    have v1 := rollV_bd raw used (n := 6) (by decide)
    obtain ⟨a1, a2, a3⟩ := fitA_ok (v := rollV raw used 6) h (by omega)
    have hx : U3 [if rollV raw (rollU raw used) 6 = 0 then (2 : Int) else 0] := U3.one (by split <;> decide)
    obtain ⟨b1, b2, b3⟩ := fitL_ok raw r (rollU raw (rollU raw used)) _ (a1.app hx)
    refine ⟨b1, ?_, ?_⟩
    · rw [b2, List.map_append, old_app, a2]
      have : oldU ([if rollV raw (rollU raw used) 6 = 0 then (2 : Int) else 0].map uOf) = 1 := by
        split <;> rfl
      rw [this]; omega
    · simp only [List.length_append, List.length_cons, List.length_nil] at b3
      omega
theorem fit_ok (raw : List Int) (n : Int) (h0 : 0 ≤ n) (h1 : n ≤ 100000000) : Valid (stepsL (fitU raw n.toNat) 0 []) ∧ oldI (stepsL (fitU raw n.toNat) 0 []) = n ∧ 0 ≤ newI (stepsL (fitU raw n.toNat) 0 []) ∧ newI (stepsL (fitU raw n.toNat) 0 []) ≤ 3 * n + 2 := by
  obtain ⟨a1, a2, a3⟩ := fitL_ok raw n.toNat 0 [] (fun x hx => (by cases hx))
  have v1 := rollV_bd raw (fitL raw n.toNat 0 []).2 (n := 6) (by decide)
  obtain ⟨b1, b2, b3⟩ := fitA_ok (v := rollV raw (fitL raw n.toNat 0 []).2 6) a1 (by omega)
  have e : fitU raw n.toNat = fitA (fitL raw n.toNat 0 []).1 (rollV raw (fitL raw n.toNat 0 []).2 6) := rfl
  rw [← e] at b1 b2 b3
  obtain ⟨f, s⟩ := stepsL_ok b1 _ 0 [] rfl (by omega) ⟨trivial, .refl _, fun _ t ht => (by cases ht)⟩
  obtain ⟨o1, o2⟩ := sw_old s
  have hl := new_len ((fitU raw n.toNat).map uOf)
  simp only [List.length_map] at hl
  simp only [List.length_nil, List.map_nil, oldU] at a2 a3
  unfold Valid oldI newI
  refine ⟨⟨f, by omega, by omega⟩, by omega, by omega, by omega⟩

/-! ### The laws -/
theorem pairU_len (n : Nat) : ∀ (p q : List U), p.length + q.length ≤ n → (pairU p q).1.length ≤ p.length + q.length ∧ (pairU p q).2.length ≤ p.length + q.length := by
  induction n with
  | zero =>
    intro p q hn
    have h1 : p = [] := List.length_eq_zero_iff.1 (by omega)
    have h2 : q = [] := List.length_eq_zero_iff.1 (by omega)
    subst h1; subst h2; simp [pairU]
  | succ n ih =>
    intro p q hn
    match p, q with
    | .A :: p, q => have := ih p q (by simp at hn; omega); simp only [pairU, List.length_cons]; omega
    | [], .A :: q => have := ih [] q (by simp at hn; simp; omega); simp only [pairU, List.length_cons, List.length_nil] at this ⊢; omega
    | .K :: p, .A :: q => have := ih (.K :: p) q (by simp at hn ⊢; omega); simp only [pairU, List.length_cons] at this ⊢; omega
    | .C :: p, .A :: q => have := ih (.C :: p) q (by simp at hn ⊢; omega); simp only [pairU, List.length_cons] at this ⊢; omega
    | .K :: p, .K :: q => have := ih p q (by simp at hn; omega); simp only [pairU, List.length_cons]; omega
    | .K :: p, .C :: q => have := ih p q (by simp at hn; omega); simp only [pairU, List.length_cons]; omega
    | .C :: p, .K :: q => have := ih p q (by simp at hn; omega); simp only [pairU, List.length_cons]; omega
    | .C :: p, .C :: q => have := ih p q (by simp at hn; omega); simp only [pairU, List.length_cons]; omega
    | [], [] => simp [pairU]
    | [], .K :: q => simp [pairU]
    | [], .C :: q => simp [pairU]
    | .K :: p, [] => simp [pairU]
    | .C :: p, [] => simp [pairU]
theorem pairX_ok {a b : List AxStep} (va : Valid a) (vb : Valid b) (hm : oldI a = oldI b) (hl : (ex a).length + (ex b).length ≤ 2147483647) :
    Valid (pairX1 a b) ∧ Valid (pairX2 a b) ∧ newI a = oldI (pairX2 a b) ∧ newI b = oldI (pairX1 a b) ∧ joinX a (pairX2 a b) = joinX b (pairX1 a b) := by
  have hm' : oldU (ex a) = oldU (ex b) := by unfold oldI at hm; omega
  obtain ⟨m1, m2, m3, m4⟩ := pairU_meets _ (ex a) (ex b) (Nat.le_refl _) hm'
  obtain ⟨l1, l2⟩ := pairU_len _ (ex a) (ex b) (Nat.le_refl _)
  obtain ⟨f1, s1⟩ := doneW_ok (pairU (ex a) (ex b)).1
  obtain ⟨f2, s2⟩ := doneW_ok (pairU (ex a) (ex b)).2
  obtain ⟨o1, n1⟩ := sw_old s1
  obtain ⟨o2, n2⟩ := sw_old s2
  have k1 := new_len (pairU (ex a) (ex b)).1
  have k2 := new_len (pairU (ex a) (ex b)).2
  have h1 := va.2.2
  have h2 := vb.2.2
  unfold pairX1 pairX2 oldI newI
  refine ⟨⟨f1, by omega, by omega⟩, ⟨f2, by omega, by omega⟩, by omega, by omega, ?_⟩
  refine form_unique (doneW_ok _).1 (doneW_ok _).1 (.trans (doneW_ok _).2 (.trans ?_ (.symm (doneW_ok _).2)))
  exact .trans (joinU_right s2 _) (.trans m1 (.symm (joinU_right s1 _)))
theorem ex_le {l : List AxStep} (h : Valid l) {m : Int} (ho : oldI l ≤ m) (hn : newI l ≤ m) : ((ex l).length : Int) ≤ 2 * m := by
  have := ex_len l
  unfold oldI newI at *
  omega
end Go.Ch
end
section
set_option linter.unusedVariables false
set_option linter.unusedSimpArgs false
namespace Go.Ch
open Go Go.Ab

def placeS : List AxStep → Int → Int → Int → Int
  | [], _, _, _ => -1
  | s :: l, p, fr, tq => if s.kind = 1 then placeS l p fr (tq + s.n) else if s.kind = 0 then (if p < fr + s.n then tq + p - fr else placeS l p (fr + s.n) (tq + s.n)) else (if p < fr + s.n then -1 else placeS l p (fr + s.n) tq)
def gapS : List AxStep → Int → Bool → Int → Int → Int
  | [], _, _, _, tq => tq
  | s :: l, at_, r, fr, tq => gapS l at_ r (if s.kind = 1 then fr else fr + s.n) (if s.kind = 1 ∧ (fr < at_ ∨ (fr = at_ ∧ r = true)) then tq + s.n else if s.kind = 0 then tq + min s.n (max 0 (at_ - fr)) else tq)
def hullS : List AxStep → Int → Int → Int → Int → Int → Int → Int × Int
  | [], _, _, first, last, _, _ => (first, last)
  | s :: l, f, t, first, last, old, now =>
    hullS l f t (if (s.kind = 0 ∧ max f old < min t (old + s.n)) ∧ last = 0 then now + max f old - old else first) (if s.kind = 0 ∧ max f old < min t (old + s.n) then now + min t (old + s.n) - old else last)
      (if s.kind = 1 then old else old + s.n) (if s.kind = 2 then now else now + s.n)

theorem gap_ge : ∀ {l : List AxStep} (hl : Form l) (a : Int) (r : Bool) (fr tq : Int), tq ≤ gapS l a r fr tq
  | [], _, a, r, fr, tq => Int.le_refl _
  | s :: l, hl, a, r, fr, tq => by
    have ih := gap_ge hl.tail a r (if s.kind = 1 then fr else fr + s.n) (if s.kind = 1 ∧ (fr < a ∨ (fr = a ∧ r = true)) then tq + s.n else if s.kind = 0 then tq + min s.n (max 0 (a - fr)) else tq)
    have hn := hl.head.2.2
    rw [gapS]
    refine Int.le_trans ?_ ih
    split
    · omega
    · split <;> omega
theorem gap_mono : ∀ {l : List AxStep} (hl : Form l) (a fr tq tq' : Int), tq ≤ tq' → gapS l a false fr tq ≤ gapS l a true fr tq'
  | [], _, a, fr, tq, tq', h => h
  | s :: l, hl, a, fr, tq, tq', h => by
    have hn := hl.head.2.2
    rw [gapS, gapS]
    refine gap_mono hl.tail a _ _ _ ?_
    by_cases k1 : s.kind = 1
    · by_cases c : fr < a
      · rw [if_pos ⟨k1, .inl c⟩, if_pos ⟨k1, .inl c⟩]; omega
      · have n1 : ¬ (s.kind = 1 ∧ (fr < a ∨ (fr = a ∧ false = true))) := by
          rintro ⟨_, h | h⟩
          · omega
          · cases h.2
        have k0 : ¬ s.kind = 0 := by omega
        rw [if_neg n1, if_neg k0]
        split
        · omega
        · exact h
    · rw [if_neg (show ¬ (s.kind = 1 ∧ (fr < a ∨ (fr = a ∧ false = true))) from fun e => k1 e.1), if_neg (show ¬ (s.kind = 1 ∧ (fr < a ∨ (fr = a ∧ true = true))) from fun e => k1 e.1)]
      split <;> omega
theorem gap_past : ∀ {l : List AxStep} (hl : Form l) (a : Int) (r : Bool) (fr tq : Int), a < fr → gapS l a r fr tq = tq
  | [], _, a, r, fr, tq, h => rfl
  | s :: l, hl, a, r, fr, tq, h => by
    have hn := hl.head.2.2
    rw [gapS, if_neg (by omega : ¬ (s.kind = 1 ∧ (fr < a ∨ (fr = a ∧ r = true))))]
    rw [gap_past hl.tail a r _ _ (by split <;> omega)]
    split <;> omega
theorem place_ge : ∀ {l : List AxStep} (hl : Form l) (p fr tq : Int), 0 ≤ tq → fr ≤ p → -1 ≤ placeS l p fr tq
  | [], _, p, fr, tq, h, _ => by simp [placeS]
  | s :: l, hl, p, fr, tq, h, hp => by
    have hn := hl.head.2.2
    rw [placeS]
    split
    · exact place_ge hl.tail p fr _ (by omega) hp
    · split
      · split
        · omega
        · exact place_ge hl.tail p _ _ (by omega) (by omega)
      · split
        · omega
        · exact place_ge hl.tail p _ _ h (by omega)
/-- A row that is kept is behind what is added at its gap. -/
theorem gap_place : ∀ {l : List AxStep} (hl : Form l) (p fr tq : Int), fr ≤ p → 0 ≤ placeS l p fr tq → gapS l p true fr tq ≤ placeS l p fr tq
  | [], _, p, fr, tq, h, h0 => by simp [placeS] at h0
  | s :: l, hl, p, fr, tq, h, h0 => by
    have hn := hl.head.2.2
    have hk := kinds hl.head
    rw [placeS] at h0 ⊢
    rw [gapS]
    by_cases k1 : s.kind = 1
    · rw [if_pos k1] at h0 ⊢
      rw [if_pos k1, if_pos ⟨k1, by rcases Int.lt_or_eq_of_le h with h | h; exact .inl h; exact .inr ⟨h, rfl⟩⟩]
      exact gap_place hl.tail p fr _ h h0
    · rw [if_neg k1] at h0 ⊢
      rw [if_neg k1, if_neg (by omega : ¬ (s.kind = 1 ∧ (fr < p ∨ (fr = p ∧ true = true))))]
      by_cases k0 : s.kind = 0
      · rw [if_pos k0] at h0 ⊢
        rw [if_pos k0]
        by_cases c : p < fr + s.n
        · rw [if_pos c] at h0 ⊢
          rw [gap_past hl.tail p true _ _ (by omega)]; omega
        · rw [if_neg c] at h0 ⊢
          rw [show min s.n (max 0 (p - fr)) = s.n by omega]
          exact gap_place hl.tail p _ _ (by omega) h0
      · rw [if_neg k0] at h0 ⊢
        rw [if_neg k0]
        by_cases c : p < fr + s.n
        · rw [if_pos c] at h0; omega
        · rw [if_neg c] at h0 ⊢
          exact gap_place hl.tail p _ _ (by omega) h0
/-- A gap is behind the kept rows before it. -/
theorem place_gap : ∀ {l : List AxStep} (hl : Form l) (p q fr tq : Int), fr ≤ p → p < q → 0 ≤ placeS l p fr tq → placeS l p fr tq + 1 ≤ gapS l q false fr tq
  | [], _, p, q, fr, tq, h, hq, h0 => by simp [placeS] at h0
  | s :: l, hl, p, q, fr, tq, h, hq, h0 => by
    have hn := hl.head.2.2
    rw [placeS] at h0 ⊢
    rw [gapS]
    by_cases k1 : s.kind = 1
    · rw [if_pos k1] at h0 ⊢
      rw [if_pos k1, if_pos ⟨k1, by omega⟩]
      exact place_gap hl.tail p q fr _ h hq h0
    · rw [if_neg k1] at h0 ⊢
      rw [if_neg k1, if_neg (by omega : ¬ (s.kind = 1 ∧ (fr < q ∨ (fr = q ∧ false = true))))]
      by_cases k0 : s.kind = 0
      · rw [if_pos k0] at h0 ⊢
        rw [if_pos k0]
        by_cases c : p < fr + s.n
        · rw [if_pos c] at h0 ⊢
          have := gap_ge hl.tail q false (fr + s.n) (tq + min s.n (max 0 (q - fr)))
          omega
        · rw [if_neg c] at h0 ⊢
          rw [show min s.n (max 0 (q - fr)) = s.n by omega]
          exact place_gap hl.tail p q _ _ (by omega) hq h0
      · rw [if_neg k0] at h0 ⊢
        rw [if_neg k0]
        by_cases c : p < fr + s.n
        · rw [if_pos c] at h0; omega
        · rw [if_neg c] at h0 ⊢
          exact place_gap hl.tail p q _ _ (by omega) hq h0
theorem hull_keep : ∀ {l : List AxStep} (hl : Form l) (f t first last old now : Int), 0 < last → last ≤ now → (hullS l f t first last old now).1 = first ∧ last ≤ (hullS l f t first last old now).2
  | [], _, f, t, first, last, old, now, h, h2 => ⟨rfl, Int.le_refl _⟩
  | s :: l, hl, f, t, first, last, old, now, h, h2 => by
    have hn := hl.head.2.2
    rw [hullS, if_neg (by omega : ¬ ((s.kind = 0 ∧ max f old < min t (old + s.n)) ∧ last = 0))]
    by_cases c : s.kind = 0 ∧ max f old < min t (old + s.n)
    · rw [if_pos c, if_neg (show ¬ s.kind = 2 by omega)]
      have ih := hull_keep hl.tail f t first (now + min t (old + s.n) - old) (if s.kind = 1 then old else old + s.n) (now + s.n) (by omega) (by omega)
      exact ⟨ih.1, by have := ih.2; omega⟩
    · rw [if_neg c]
      exact hull_keep hl.tail f t first last _ _ h (by split <;> omega)
end Go.Ch
end
section
set_option linter.unusedVariables false
set_option linter.unusedSimpArgs false
set_option maxRecDepth 100000
set_option maxHeartbeats 4000000
open Go Go.Proofs Go.Ab
namespace Go.Ch
theorem fc_place (l : List AxStep) (p : Int) (hv : Valid l) (hp : 0 ≤ p ∧ p ≤ 2147483647) : FC Tryd.prog 86 [VL 2 stepT l, VI p] (app emp []) (VI (placeS l p 0 0)) (app emp []) := by
 refine .go Tryd.f86 ?_
 refine .len 0 (fun hl0 => ?_)
 have ca := check_iff.2 hv
 have hv1 : oldI l ≤ 2147483647 := by have := hv.2.1; unfold oldI; omega
 have hv2 : newI l ≤ 2147483647 := by have := hv.2.2; unfold newI; omega
 have o0 : 0 ≤ oldI l := by unfold oldI; omega
 have o1 : 0 ≤ newI l := by unfold newI; omega
 refine .loop (α := Int × Int × Nat) [.r [], .r [], .r [(1, X (Xl stepT l))]] 48 (fun (fr, tq, i) => ([(1, VI p), (5, VI fr), (6, VI tq), (9, VL 2 stepT l), (10, VI (l.length : Int)), (11, VI (i : Int))], [])) (fun (fr, tq, i) => i ≤ l.length ∧ 0 ≤ fr ∧ 0 ≤ tq ∧ fr + oldU (ex (l.drop i)) = oldI l ∧ tq + newU (ex (l.drop i)) = newI l ∧ fr ≤ p ∧ placeS l p 0 0 = placeS (l.drop i) p fr tq) (fun (fr, tq, i) => l.length - i) (0, 0, 0) ?_ ?_
 ·
  exact ⟨by omega, by decide, by decide, by simp [oldI], by simp [newI], by omega, rfl⟩
 rintro ⟨fr, tq, i⟩ I3 ih3
 try dsimp only at I3
 refine .br [.r []] (decide ((i : Int) < (l.length : Int))) (fun h3 => ?_) (fun h3 => ?_)
 ·
  (try simp only [decide_eq_true_eq, decide_eq_false_iff_not, Int.not_lt, Int.not_le] at h3)
  have hst := lens_step (l := l) (i := i) (by omega) hv.1
  have hd := drop_ats (l := l) (i := i) (by omega)
  refine .br [.r [(0, X (Xi stepT l (i : Int)))], .r [], .r []] ((((l.getD i default)).kind) == 1) (fun h8 => ?_) (fun h8 => ?_)
  ·
   (try simp only [beq_iff_eq, beq_eq_false_iff_ne, ne_eq] at h8)
   refine .back [.r [(3, X (Xn (tq + (((l.getD i default)).n))))], .r [(0, X (Xn ((i : Int) + 1)))]] [] (ih3 (fr, (tq + (((l.getD i default)).n)), (i + 1)) ?_ ?_)
   ·
    obtain ⟨s1, s2, s3, s4, s5⟩ := hst
    (first | rw [if_pos (by omega)] at s1 | rw [if_neg (by omega)] at s1)
    (first | rw [if_pos (by omega)] at s2 | rw [if_neg (by omega)] at s2)
    refine ⟨by omega, by omega, by omega, by omega, by omega, by omega, ?_⟩
    rw [I3.2.2.2.2.2.2, hd, placeS]
    ((repeat' split) <;> first | rfl | omega)
   ·
    ((try dsimp only); omega)
  ·
   (try simp only [beq_iff_eq, beq_eq_false_iff_ne, ne_eq] at h8)
   refine .br [.r []] ((((l.getD i default)).kind) == 0) (fun h10 => ?_) (fun h10 => ?_)
   ·
    (try simp only [beq_iff_eq, beq_eq_false_iff_ne, ne_eq] at h10)
    refine .br [.r [(4, X (Xn (fr + (((l.getD i default)).n))))]] (decide (p < (fr + (((l.getD i default)).n)))) (fun h11 => ?_) (fun h11 => ?_)
    ·
     (try simp only [decide_eq_true_eq, decide_eq_false_iff_not, Int.not_lt, Int.not_le] at h11)
     have e1 : ((placeS l p 0 0) : Int) = ((tq + p) - fr) := by
      first | (rw [I3.2.2.2.2.2.2, drop_ends (by omega)]; rfl) | (rw [I3.2.2.2.2.2.2, hd, placeS]; ((repeat' split) <;> first | rfl | omega))
     exact .finE [.r [(2, X (Xn (tq + p))), (4, X (Xn ((tq + p) - fr)))]] [] (fun z0 => (VI z0, [])) (((tq + p) - fr) : Int) ((placeS l p 0 0) : Int) e1
    ·
     (try simp only [decide_eq_true_eq, decide_eq_false_iff_not, Int.not_lt, Int.not_le] at h11)
     refine .back [.r [(3, X (Xn (tq + (((l.getD i default)).n))))], .r [(3, X (Xn (fr + (((l.getD i default)).n))))], .r [(0, X (Xn ((i : Int) + 1)))]] [] (ih3 ((fr + (((l.getD i default)).n)), (tq + (((l.getD i default)).n)), (i + 1)) ?_ ?_)
     ·
      obtain ⟨s1, s2, s3, s4, s5⟩ := hst
      (first | rw [if_pos (by omega)] at s1 | rw [if_neg (by omega)] at s1)
      (first | rw [if_pos (by omega)] at s2 | rw [if_neg (by omega)] at s2)
      refine ⟨by omega, by omega, by omega, by omega, by omega, by omega, ?_⟩
      rw [I3.2.2.2.2.2.2, hd, placeS]
      ((repeat' split) <;> first | rfl | omega)
     ·
      ((try dsimp only); omega)
   ·
    (try simp only [beq_iff_eq, beq_eq_false_iff_ne, ne_eq] at h10)
    refine .br [.r [(4, X (Xn (fr + (((l.getD i default)).n))))]] (decide (p < (fr + (((l.getD i default)).n)))) (fun h6 => ?_) (fun h6 => ?_)
    ·
     (try simp only [decide_eq_true_eq, decide_eq_false_iff_not, Int.not_lt, Int.not_le] at h6)
     have e2 : ((placeS l p 0 0) : Int) = -1 := by
      first | (rw [I3.2.2.2.2.2.2, drop_ends (by omega)]; rfl) | (rw [I3.2.2.2.2.2.2, hd, placeS]; ((repeat' split) <;> first | rfl | omega))
     exact .finE [.r []] [] (fun z0 => (VI z0, [])) (-1 : Int) ((placeS l p 0 0) : Int) e2
    ·
     (try simp only [decide_eq_true_eq, decide_eq_false_iff_not, Int.not_lt, Int.not_le] at h6)
     refine .back [.r [(3, X (Xn (fr + (((l.getD i default)).n))))], .r [(0, X (Xn ((i : Int) + 1)))]] [] (ih3 ((fr + (((l.getD i default)).n)), tq, (i + 1)) ?_ ?_)
     ·
      obtain ⟨s1, s2, s3, s4, s5⟩ := hst
      (first | rw [if_pos (by omega)] at s1 | rw [if_neg (by omega)] at s1)
      (first | rw [if_pos (by omega)] at s2 | rw [if_neg (by omega)] at s2)
      refine ⟨by omega, by omega, by omega, by omega, by omega, by omega, ?_⟩
      rw [I3.2.2.2.2.2.2, hd, placeS]
      ((repeat' split) <;> first | rfl | omega)
     ·
      ((try dsimp only); omega)
 ·
  (try simp only [decide_eq_true_eq, decide_eq_false_iff_not, Int.not_lt, Int.not_le] at h3)
  have e3 : ((placeS l p 0 0) : Int) = -1 := by
   first | (rw [I3.2.2.2.2.2.2, drop_ends (by omega)]; rfl) | (rw [I3.2.2.2.2.2.2, hd, placeS]; ((repeat' split) <;> first | rfl | omega))
  exact .finE [.r []] [] (fun z0 => (VI z0, [])) (-1 : Int) ((placeS l p 0 0) : Int) e3

theorem fc_axApply (l : List AxStep) (pl : List Int) (hv : Valid l) (hp : ∀ x ∈ pl, 0 ≤ x ∧ x < oldI l) (hlen : pl.length ≤ 1000000000) : FC Tryd.prog 61 [VL 2 stepT l, VL 1 intT pl] (app emp []) (.tup [VL 1 intT (List.map (fun x => placeS l x 0 0) pl), VI 0]) (app emp []) := by
 refine .go Tryd.f61 ?_
 refine .len 0 (fun hl0 => ?_)
 refine .len 1 (fun hl1 => ?_)
 have ca := check_iff.2 hv
 have hv1 : oldI l ≤ 2147483647 := by have := hv.2.1; unfold oldI; omega
 have hv2 : newI l ≤ 2147483647 := by have := hv.2.2; unfold newI; omega
 have o0 : 0 ≤ oldI l := by unfold oldI; omega
 have o1 : 0 ≤ newI l := by unfold newI; omega
 refine .br [.r [], .r [(1, X (Xc0 (fc_axCheck l) X0))], .r []] ((checkX l) != 0) (fun h2 => ?_) (fun h2 => ?_)
 ·
  (try simp only [bne_iff_ne, bne_eq_false_iff_eq, ne_eq] at h2)
  exfalso
  omega
 ·
  (try simp only [bne_iff_ne, bne_eq_false_iff_eq, ne_eq] at h2)
  refine .loop (α := Nat × (List Int)) [.r [(1, X (Xc0 (fc_axLens l (by assumption)) X0))], .r [], .r [(1, X (Xl intT pl))], .le (.nR 9 1)] 145 (fun (i, out) => ([(0, VL 2 stepT l), (7, VI (oldI l)), (9, .row 144 out.length), (22, VL 1 intT pl), (23, VI (pl.length : Int)), (24, VI (i : Int))], [(144, OR 1 intT out)])) (fun (i, out) => i ≤ pl.length ∧ out = (pl.take i).map (fun x => placeS l x 0 0)) (fun (i, out) => pl.length - i) (0, []) ?_ ?_
  ·
   exact ⟨by omega, rfl⟩
  rintro ⟨i, out⟩ I7 ih7
  try dsimp only at I7
  have ol : out.length = i := by rw [I7.2]; simp; omega
  refine .br [.r []] (decide ((i : Int) < (pl.length : Int))) (fun h7 => ?_) (fun h7 => ?_)
  ·
   (try simp only [decide_eq_true_eq, decide_eq_false_iff_not, Int.not_lt, Int.not_le] at h7)
   have hx := hp (pl.getD i default) (by rw [show pl.getD i default = pl[i] by simp [List.getD, List.getElem?_eq_getElem (show i < pl.length by omega)]]; exact List.getElem_mem _)
   refine .br [.r [(0, X (Xi intT pl (i : Int)))], .r [(5, Xv 2 (!(decide ((pl.getD i default) < 0))) X0), (6, X (Xk' (decide ((pl.getD i default) < 0))))]] (decide ((pl.getD i default) < 0) || decide ((pl.getD i default) ≥ (oldI l))) (fun h9 => ?_) (fun h9 => ?_)
   ·
    (try simp only [decide_eq_true_eq, decide_eq_false_iff_not, Int.not_lt, Int.not_le, ge_iff_le, Bool.or_eq_true, Bool.or_eq_false_iff] at h9)
    exfalso
    omega
   ·
    (try simp only [decide_eq_true_eq, decide_eq_false_iff_not, Int.not_lt, Int.not_le, ge_iff_le, Bool.or_eq_true, Bool.or_eq_false_iff] at h9)
    refine .back [.r [(3, X (Xc0 (fc_place l (pl.getD i default) (by assumption) (by omega)) X0)), (5, X (rowC intT [(placeS l (pl.getD i default) 0 0)] (Xap 1 intT 144 out [(placeS l (pl.getD i default) 0 0)])))], .r [(0, X (Xn ((i : Int) + 1)))]] [(144, 144)] (ih7 ((i + 1), (out ++ [(placeS l (pl.getD i default) 0 0)])) ?_ ?_)
    ·
     refine ⟨by omega, ?_⟩
     rw [I7.2, List.take_succ_eq_append_getElem (show i < pl.length by omega), List.map_append]
     simp [List.getD, List.getElem?_eq_getElem (show i < pl.length by omega)]
    ·
     ((try dsimp only); omega)
  ·
   (try simp only [decide_eq_true_eq, decide_eq_false_iff_not, Int.not_lt, Int.not_le] at h7)
   have e1 : ((List.map (fun x => placeS l x 0 0) pl) : List Int) = out := by
    rw [I7.2, List.take_of_length_le (by omega)]
   exact .finE [.r [], .le (.fr 4 [(out.length : Nat) = (List.map intT out).length] ⟨lm, trivial⟩)] [] (fun z0 => (.tup [VL 1 intT z0, VI 0], [])) (out : List Int) ((List.map (fun x => placeS l x 0 0) pl) : List Int) e1

theorem fc_hull (l : List AxStep) (f t : Int) (hv : Valid l) (hf : 0 ≤ f ∧ f ≤ t ∧ t ≤ oldI l) : FC Tryd.prog 73 [VL 2 stepT l, VI f, VI t] (app emp []) (.tup [VI ((hullS l f t 0 0 0 0).1), VI ((hullS l f t 0 0 0 0).2)]) (app emp []) := by
 refine .go Tryd.f73 ?_
 refine .len 0 (fun hl0 => ?_)
 have ca := check_iff.2 hv
 have hv1 : oldI l ≤ 2147483647 := by have := hv.2.1; unfold oldI; omega
 have hv2 : newI l ≤ 2147483647 := by have := hv.2.2; unfold newI; omega
 have o0 : 0 ≤ oldI l := by unfold oldI; omega
 have o1 : 0 ≤ newI l := by unfold newI; omega
 refine .loop (α := Int × Int × Int × Int × Nat) [.r [], .r [], .r [(1, X (Xl stepT l))]] 72 (fun (first, last, fr, tq, i) => ([(1, VI f), (2, VI t), (8, VI first), (9, VI last), (10, VI fr), (11, VI tq), (16, VL 2 stepT l), (17, VI (l.length : Int)), (18, VI (i : Int))], [])) (fun (first, last, fr, tq, i) => i ≤ l.length ∧ 0 ≤ fr ∧ 0 ≤ tq ∧ fr + oldU (ex (l.drop i)) = oldI l ∧ tq + newU (ex (l.drop i)) = newI l ∧ 0 ≤ first ∧ first ≤ 10000000000 ∧ 0 ≤ last ∧ last ≤ 10000000000 ∧ hullS l f t 0 0 0 0 = hullS (l.drop i) f t first last fr tq) (fun (first, last, fr, tq, i) => l.length - i) (0, 0, 0, 0, 0) ?_ ?_
 ·
  exact ⟨by omega, by decide, by decide, by simp [oldI], by simp [newI], by decide, by decide, by decide, by decide, rfl⟩
 rintro ⟨first, last, fr, tq, i⟩ I3 ih3
 try dsimp only at I3
 refine .br [.r []] (decide ((i : Int) < (l.length : Int))) (fun h3 => ?_) (fun h3 => ?_)
 ·
  (try simp only [decide_eq_true_eq, decide_eq_false_iff_not, Int.not_lt, Int.not_le] at h3)
  have hst := lens_step (l := l) (i := i) (by omega) hv.1
  have hd := drop_ats (l := l) (i := i) (by omega)
  refine .br [.r [(0, X (Xi stepT l (i : Int)))], .r [(2, X (Xmax f fr)), (7, X (Xn (fr + (((l.getD i default)).n)))), (8, X (Xmin t (fr + (((l.getD i default)).n))))], .r [(6, Xv 2 ((((l.getD i default)).kind) == 0) X0), (7, X (Xk ((((l.getD i default)).kind) == 0)))]] (((((l.getD i default)).kind) == 0) && decide ((max f fr) < (min t (fr + (((l.getD i default)).n))))) (fun h6 => ?_) (fun h6 => ?_)
  ·
   (try simp only [decide_eq_true_eq, decide_eq_false_iff_not, Int.not_lt, Int.not_le, Bool.and_eq_true, Bool.and_eq_false_iff, Bool.not_eq_true', Bool.not_eq_false', beq_iff_eq, beq_eq_false_iff_ne, ne_eq] at h6)
   refine .br [.r []] (last == 0) (fun h7 => ?_) (fun h7 => ?_)
   ·
    (try simp only [beq_iff_eq, beq_eq_false_iff_ne, ne_eq] at h7)
    refine .br [.r [(2, X (Xn (tq + (max f fr)))), (4, X (Xn ((tq + (max f fr)) - fr)))], .r [(2, X (Xn (tq + (min t (fr + (((l.getD i default)).n)))))), (4, X (Xn ((tq + (min t (fr + (((l.getD i default)).n)))) - fr)))], .r []] ((((l.getD i default)).kind) != 2) (fun h10 => ?_) (fun h10 => ?_)
    ·
     (try simp only [bne_iff_ne, bne_eq_false_iff_eq, ne_eq] at h10)
     refine .br [.r [(3, X (Xn (tq + (((l.getD i default)).n))))], .r []] ((((l.getD i default)).kind) != 1) (fun h12 => ?_) (fun h12 => ?_)
     ·
      (try simp only [bne_iff_ne, bne_eq_false_iff_eq, ne_eq] at h12)
      refine .back [.r [(3, X (Xn (fr + (((l.getD i default)).n))))], .r [(0, X (Xn ((i : Int) + 1)))]] [] (ih3 (((tq + (max f fr)) - fr), ((tq + (min t (fr + (((l.getD i default)).n)))) - fr), (fr + (((l.getD i default)).n)), (tq + (((l.getD i default)).n)), (i + 1)) ?_ ?_)
      ·
       obtain ⟨s1, s2, s3, s4, s5⟩ := hst
       (first | rw [if_pos (by omega)] at s1 | rw [if_neg (by omega)] at s1)
       (first | rw [if_pos (by omega)] at s2 | rw [if_neg (by omega)] at s2)
       refine ⟨by omega, by omega, by omega, by omega, by omega, by omega, by omega, by omega, by omega, ?_⟩
       rw [I3.2.2.2.2.2.2.2.2.2, hd, hullS]
       congr 1 <;> ((repeat' split) <;> first | rfl | omega)
      ·
       ((try dsimp only); omega)
     ·
      (try simp only [bne_iff_ne, bne_eq_false_iff_eq, ne_eq] at h12)
      refine .back [.r [(0, X (Xn ((i : Int) + 1)))]] [] (ih3 (((tq + (max f fr)) - fr), ((tq + (min t (fr + (((l.getD i default)).n)))) - fr), fr, (tq + (((l.getD i default)).n)), (i + 1)) ?_ ?_)
      ·
       obtain ⟨s1, s2, s3, s4, s5⟩ := hst
       (first | rw [if_pos (by omega)] at s1 | rw [if_neg (by omega)] at s1)
       (first | rw [if_pos (by omega)] at s2 | rw [if_neg (by omega)] at s2)
       refine ⟨by omega, by omega, by omega, by omega, by omega, by omega, by omega, by omega, by omega, ?_⟩
       rw [I3.2.2.2.2.2.2.2.2.2, hd, hullS]
       congr 1 <;> ((repeat' split) <;> first | rfl | omega)
      ·
       ((try dsimp only); omega)
    ·
     (try simp only [bne_iff_ne, bne_eq_false_iff_eq, ne_eq] at h10)
     refine .br [.r []] ((((l.getD i default)).kind) != 1) (fun h12 => ?_) (fun h12 => ?_)
     ·
      (try simp only [bne_iff_ne, bne_eq_false_iff_eq, ne_eq] at h12)
      refine .back [.r [(3, X (Xn (fr + (((l.getD i default)).n))))], .r [(0, X (Xn ((i : Int) + 1)))]] [] (ih3 (((tq + (max f fr)) - fr), ((tq + (min t (fr + (((l.getD i default)).n)))) - fr), (fr + (((l.getD i default)).n)), tq, (i + 1)) ?_ ?_)
      ·
       obtain ⟨s1, s2, s3, s4, s5⟩ := hst
       (first | rw [if_pos (by omega)] at s1 | rw [if_neg (by omega)] at s1)
       (first | rw [if_pos (by omega)] at s2 | rw [if_neg (by omega)] at s2)
       refine ⟨by omega, by omega, by omega, by omega, by omega, by omega, by omega, by omega, by omega, ?_⟩
       rw [I3.2.2.2.2.2.2.2.2.2, hd, hullS]
       congr 1 <;> ((repeat' split) <;> first | rfl | omega)
      ·
       ((try dsimp only); omega)
     ·
      (try simp only [bne_iff_ne, bne_eq_false_iff_eq, ne_eq] at h12)
      refine .back [.r [(0, X (Xn ((i : Int) + 1)))]] [] (ih3 (((tq + (max f fr)) - fr), ((tq + (min t (fr + (((l.getD i default)).n)))) - fr), fr, tq, (i + 1)) ?_ ?_)
      ·
       obtain ⟨s1, s2, s3, s4, s5⟩ := hst
       (first | rw [if_pos (by omega)] at s1 | rw [if_neg (by omega)] at s1)
       (first | rw [if_pos (by omega)] at s2 | rw [if_neg (by omega)] at s2)
       refine ⟨by omega, by omega, by omega, by omega, by omega, by omega, by omega, by omega, by omega, ?_⟩
       rw [I3.2.2.2.2.2.2.2.2.2, hd, hullS]
       congr 1 <;> ((repeat' split) <;> first | rfl | omega)
      ·
       ((try dsimp only); omega)
   ·
    (try simp only [beq_iff_eq, beq_eq_false_iff_ne, ne_eq] at h7)
    refine .br [.r [(2, X (Xn (tq + (min t (fr + (((l.getD i default)).n)))))), (4, X (Xn ((tq + (min t (fr + (((l.getD i default)).n)))) - fr)))], .r []] ((((l.getD i default)).kind) != 2) (fun h10 => ?_) (fun h10 => ?_)
    ·
     (try simp only [bne_iff_ne, bne_eq_false_iff_eq, ne_eq] at h10)
     refine .br [.r [(3, X (Xn (tq + (((l.getD i default)).n))))], .r []] ((((l.getD i default)).kind) != 1) (fun h12 => ?_) (fun h12 => ?_)
     ·
      (try simp only [bne_iff_ne, bne_eq_false_iff_eq, ne_eq] at h12)
      refine .back [.r [(3, X (Xn (fr + (((l.getD i default)).n))))], .r [(0, X (Xn ((i : Int) + 1)))]] [] (ih3 (first, ((tq + (min t (fr + (((l.getD i default)).n)))) - fr), (fr + (((l.getD i default)).n)), (tq + (((l.getD i default)).n)), (i + 1)) ?_ ?_)
      ·
       obtain ⟨s1, s2, s3, s4, s5⟩ := hst
       (first | rw [if_pos (by omega)] at s1 | rw [if_neg (by omega)] at s1)
       (first | rw [if_pos (by omega)] at s2 | rw [if_neg (by omega)] at s2)
       refine ⟨by omega, by omega, by omega, by omega, by omega, by omega, by omega, by omega, by omega, ?_⟩
       rw [I3.2.2.2.2.2.2.2.2.2, hd, hullS]
       congr 1 <;> ((repeat' split) <;> first | rfl | omega)
      ·
       ((try dsimp only); omega)
     ·
      (try simp only [bne_iff_ne, bne_eq_false_iff_eq, ne_eq] at h12)
      refine .back [.r [(0, X (Xn ((i : Int) + 1)))]] [] (ih3 (first, ((tq + (min t (fr + (((l.getD i default)).n)))) - fr), fr, (tq + (((l.getD i default)).n)), (i + 1)) ?_ ?_)
      ·
       obtain ⟨s1, s2, s3, s4, s5⟩ := hst
       (first | rw [if_pos (by omega)] at s1 | rw [if_neg (by omega)] at s1)
       (first | rw [if_pos (by omega)] at s2 | rw [if_neg (by omega)] at s2)
       refine ⟨by omega, by omega, by omega, by omega, by omega, by omega, by omega, by omega, by omega, ?_⟩
       rw [I3.2.2.2.2.2.2.2.2.2, hd, hullS]
       congr 1 <;> ((repeat' split) <;> first | rfl | omega)
      ·
       ((try dsimp only); omega)
    ·
     (try simp only [bne_iff_ne, bne_eq_false_iff_eq, ne_eq] at h10)
     refine .br [.r []] ((((l.getD i default)).kind) != 1) (fun h12 => ?_) (fun h12 => ?_)
     ·
      (try simp only [bne_iff_ne, bne_eq_false_iff_eq, ne_eq] at h12)
      refine .back [.r [(3, X (Xn (fr + (((l.getD i default)).n))))], .r [(0, X (Xn ((i : Int) + 1)))]] [] (ih3 (first, ((tq + (min t (fr + (((l.getD i default)).n)))) - fr), (fr + (((l.getD i default)).n)), tq, (i + 1)) ?_ ?_)
      ·
       obtain ⟨s1, s2, s3, s4, s5⟩ := hst
       (first | rw [if_pos (by omega)] at s1 | rw [if_neg (by omega)] at s1)
       (first | rw [if_pos (by omega)] at s2 | rw [if_neg (by omega)] at s2)
       refine ⟨by omega, by omega, by omega, by omega, by omega, by omega, by omega, by omega, by omega, ?_⟩
       rw [I3.2.2.2.2.2.2.2.2.2, hd, hullS]
       congr 1 <;> ((repeat' split) <;> first | rfl | omega)
      ·
       ((try dsimp only); omega)
     ·
      (try simp only [bne_iff_ne, bne_eq_false_iff_eq, ne_eq] at h12)
      refine .back [.r [(0, X (Xn ((i : Int) + 1)))]] [] (ih3 (first, ((tq + (min t (fr + (((l.getD i default)).n)))) - fr), fr, tq, (i + 1)) ?_ ?_)
      ·
       obtain ⟨s1, s2, s3, s4, s5⟩ := hst
       (first | rw [if_pos (by omega)] at s1 | rw [if_neg (by omega)] at s1)
       (first | rw [if_pos (by omega)] at s2 | rw [if_neg (by omega)] at s2)
       refine ⟨by omega, by omega, by omega, by omega, by omega, by omega, by omega, by omega, by omega, ?_⟩
       rw [I3.2.2.2.2.2.2.2.2.2, hd, hullS]
       congr 1 <;> ((repeat' split) <;> first | rfl | omega)
      ·
       ((try dsimp only); omega)
  ·
   (try simp only [decide_eq_true_eq, decide_eq_false_iff_not, Int.not_lt, Int.not_le, Bool.and_eq_true, Bool.and_eq_false_iff, Bool.not_eq_true', Bool.not_eq_false', beq_iff_eq, beq_eq_false_iff_ne, ne_eq] at h6)
   refine .br [.r []] ((((l.getD i default)).kind) != 2) (fun h10 => ?_) (fun h10 => ?_)
   ·
    (try simp only [bne_iff_ne, bne_eq_false_iff_eq, ne_eq] at h10)
    refine .br [.r [(3, X (Xn (tq + (((l.getD i default)).n))))], .r []] ((((l.getD i default)).kind) != 1) (fun h12 => ?_) (fun h12 => ?_)
    ·
     (try simp only [bne_iff_ne, bne_eq_false_iff_eq, ne_eq] at h12)
     refine .back [.r [(3, X (Xn (fr + (((l.getD i default)).n))))], .r [(0, X (Xn ((i : Int) + 1)))]] [] (ih3 (first, last, (fr + (((l.getD i default)).n)), (tq + (((l.getD i default)).n)), (i + 1)) ?_ ?_)
     ·
      obtain ⟨s1, s2, s3, s4, s5⟩ := hst
      (first | rw [if_pos (by omega)] at s1 | rw [if_neg (by omega)] at s1)
      (first | rw [if_pos (by omega)] at s2 | rw [if_neg (by omega)] at s2)
      refine ⟨by omega, by omega, by omega, by omega, by omega, by omega, by omega, by omega, by omega, ?_⟩
      rw [I3.2.2.2.2.2.2.2.2.2, hd, hullS]
      congr 1 <;> ((repeat' split) <;> first | rfl | omega)
     ·
      ((try dsimp only); omega)
    ·
     (try simp only [bne_iff_ne, bne_eq_false_iff_eq, ne_eq] at h12)
     refine .back [.r [(0, X (Xn ((i : Int) + 1)))]] [] (ih3 (first, last, fr, (tq + (((l.getD i default)).n)), (i + 1)) ?_ ?_)
     ·
      obtain ⟨s1, s2, s3, s4, s5⟩ := hst
      (first | rw [if_pos (by omega)] at s1 | rw [if_neg (by omega)] at s1)
      (first | rw [if_pos (by omega)] at s2 | rw [if_neg (by omega)] at s2)
      refine ⟨by omega, by omega, by omega, by omega, by omega, by omega, by omega, by omega, by omega, ?_⟩
      rw [I3.2.2.2.2.2.2.2.2.2, hd, hullS]
      congr 1 <;> ((repeat' split) <;> first | rfl | omega)
     ·
      ((try dsimp only); omega)
   ·
    (try simp only [bne_iff_ne, bne_eq_false_iff_eq, ne_eq] at h10)
    refine .br [.r []] ((((l.getD i default)).kind) != 1) (fun h12 => ?_) (fun h12 => ?_)
    ·
     (try simp only [bne_iff_ne, bne_eq_false_iff_eq, ne_eq] at h12)
     refine .back [.r [(3, X (Xn (fr + (((l.getD i default)).n))))], .r [(0, X (Xn ((i : Int) + 1)))]] [] (ih3 (first, last, (fr + (((l.getD i default)).n)), tq, (i + 1)) ?_ ?_)
     ·
      obtain ⟨s1, s2, s3, s4, s5⟩ := hst
      (first | rw [if_pos (by omega)] at s1 | rw [if_neg (by omega)] at s1)
      (first | rw [if_pos (by omega)] at s2 | rw [if_neg (by omega)] at s2)
      refine ⟨by omega, by omega, by omega, by omega, by omega, by omega, by omega, by omega, by omega, ?_⟩
      rw [I3.2.2.2.2.2.2.2.2.2, hd, hullS]
      congr 1 <;> ((repeat' split) <;> first | rfl | omega)
     ·
      ((try dsimp only); omega)
    ·
     (try simp only [bne_iff_ne, bne_eq_false_iff_eq, ne_eq] at h12)
     refine .back [.r [(0, X (Xn ((i : Int) + 1)))]] [] (ih3 (first, last, fr, tq, (i + 1)) ?_ ?_)
     ·
      obtain ⟨s1, s2, s3, s4, s5⟩ := hst
      (first | rw [if_pos (by omega)] at s1 | rw [if_neg (by omega)] at s1)
      (first | rw [if_pos (by omega)] at s2 | rw [if_neg (by omega)] at s2)
      refine ⟨by omega, by omega, by omega, by omega, by omega, by omega, by omega, by omega, by omega, ?_⟩
      rw [I3.2.2.2.2.2.2.2.2.2, hd, hullS]
      congr 1 <;> ((repeat' split) <;> first | rfl | omega)
     ·
      ((try dsimp only); omega)
 ·
  (try simp only [decide_eq_true_eq, decide_eq_false_iff_not, Int.not_lt, Int.not_le] at h3)
  have e1 : ((hullS l f t 0 0 0 0).1 : Int) = first := by
   rw [I3.2.2.2.2.2.2.2.2.2, drop_ends (by omega)]; rfl
  have e2 : ((hullS l f t 0 0 0 0).2 : Int) = last := by
   rw [I3.2.2.2.2.2.2.2.2.2, drop_ends (by omega)]; rfl
  exact .finE [.r []] [] (fun (z0, z1) => (.tup [VI z0, VI z1], [])) ((first : Int), (last : Int)) (((hullS l f t 0 0 0 0).1 : Int), ((hullS l f t 0 0 0 0).2 : Int)) (pr e1 e2)
end Go.Ch
end
