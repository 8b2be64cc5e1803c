/- Parts of the proof: ChDoc2, DocFind, ChDoc3, ChDoc4, ChDoc5, ChDoc6, ChDoc7, ChDoc8, DocCopy, ChDoc9, DocItems, DocTab, ChDoc10, AbPack. -/
import Derived.Test.YtfhidobmbgmjfaaGreatDoorM1
import Derived.Test.YtfhidobmbgmjfaaGreatDoorM2
import Derived.Test.YtfhidobmbgmjfaaGreatDoorM3
import Derived.Test.YtfhidobmbgmjfaaGreatDoorM4
import Derived.Test.YtfhidobmbgmjfaaGreatDoorM5
import Derived.Test.YtfhidobmbgmjfaaGreatDoorM6
import Derived.Test.YtfhidobmbgmjfaaGreatDoorM7
import Derived.Shelf.Strconv.AtoiAll
section
set_option linter.unusedVariables false
set_option linter.unusedSimpArgs false
set_option maxRecDepth 100000
set_option maxHeartbeats 4000000
open Go Go.Proofs Go.Ab
namespace Go.Ch
theorem fc_flowCheckX (f : List Elem) (t : Bool) : FC Tryz.prog 87 [VL 3 elemT f, VB t] (app emp []) (VI (flowZ t f)) (app emp []) := by
 refine .go Tryz.f87 ?_
 refine .len 0 (fun hl0 => ?_)
 refine .loop (α := Nat) [.r [], .r [(1, X (Xl elemT f))]] 32 (fun i => ([(0, VL 3 elemT f), (1, VB t), (8, VL 3 elemT f), (9, VI (f.length : Int)), (10, VI (i : Int))], [])) (fun i => i ≤ f.length ∧ flowX t f 0 = flowX t f i) (fun i => f.length - i) (0 : Nat) ?_ ?_
 ·
  exact ⟨by omega, rfl⟩
 rintro i I2 ih2
 try dsimp only at I2
 refine .bp [.r []] (decide ((i : Int) < (f.length : Int))) (fun h2 => ?_) (fun h2 => ?_)
 ·
  refine .bp [.r [(0, X (Xi elemT f (i : Int)))], .r [(1, X (Xc0 (fc_elem ((f.getD i default))) X0))], .r []] ((elemE ((f.getD i default))) != 0) (fun h5 => ?_) (fun h5 => ?_)
  ·
   have e1 : ((flowZ t f) : Int) = (elemE ((f.getD i default))) := by
    exact flowZ_bad (I2.2.trans (flowX_bad (by omega) (by omega))) (by omega)
   exact .finE [.r []] [] (fun z0 : Int => (VI z0, [])) _ _ e1
  ·
   refine .bp [.r [(4, Xv 1 (!t) X0), (5, Xv 1 (!t) X0), (6, X (Xk (!t)))]] (!t && ((((f.getD i default)).ref) == 0)) (fun h7 => ?_) (fun h7 => ?_)
   ·
    have e2 : ((flowZ t f) : Int) = 8 := by
     exact flowZ_bad (I2.2.trans (flowX_kind (by omega) (by omega) h7)) (by decide)
    exact .finE [.r []] [] (fun z0 : Int => (VI z0, [])) _ _ e2
   ·
    refine .back [.r [(0, X (Xn ((i : Int) + 1)))]] [] (ih2 ((i + 1) : Nat) ?_ ?_)
    ·
     exact ⟨by omega, I2.2.trans (flowX_next (by omega) (by omega) h7)⟩
    ·
     ((try dsimp only); omega)
 ·
  refine .bp [.r [(3, Xv 1 t (Xl elemT f)), (4, Xv 1 t X0), (5, Xv 1 t X0), (8, Xv 1 (t && !((f.length : Int) == 0)) (Xl elemT f)), (9, Xv 1 (t && !((f.length : Int) == 0)) (Xn ((f.length : Int) - 1))), (10, Xv 2 (t && !((f.length : Int) == 0)) (Xi' elemT f ((f.length : Int) - 1) (f.length - 1)) (fun hg => by (try simp only [Bool.not_eq_true', Bool.not_eq_false', Bool.and_eq_true, Bool.and_eq_false_iff, beq_iff_eq, beq_eq_false_iff_ne, ne_eq] at hg); exact ⟨(by omega), (by omega)⟩)), (11, Xv 1 (t && !((f.length : Int) == 0)) X0), (12, Xv 1 (t && !((f.length : Int) == 0)) X0), (13, Xv 1 (t && !((f.length : Int) == 0)) X0), (14, Xko t ((f.length : Int) == 0)), (15, X (Xk t))]] (t && (((f.length : Int) == 0) || ((((f.getD (f.length - 1) default)).char) != 10))) (fun h10 => ?_) (fun h10 => ?_)
  ·
   have e3 : ((flowZ t f) : Int) = 11 := by
    rw [flowZ_end (I2.2.trans (flowX_end (by omega))), if_pos (by refine ⟨h10.1, ?_⟩; rcases h10.2 with h | h; (left; omega); (right; exact h))]
   exact .finE [.r []] [] (fun z0 : Int => (VI z0, [])) _ _ e3
  ·
   have e4 : ((flowZ t f) : Int) = 0 := by
    rw [flowZ_end (I2.2.trans (flowX_end (by omega))), if_neg (by rintro ⟨q1, q2⟩; rcases h10 with h | h; (rw [q1] at h; cases h); (rcases q2 with q | q; (omega); (exact q h.2)))]
   exact .finE [.r []] [] (fun z0 : Int => (VI z0, [])) _ _ e4

theorem fc_flowErrorX (f : List Elem) (t : Bool) (hz : SzE f) : FC Tryz.prog 67 [VL 3 elemT f, VB t] (app emp []) (VI (flowZ t f)) (app emp []) := by
 refine .go Tryz.f67 ?_
 refine .len 0 (fun hl0 => ?_)
 refine .loop (α := Nat) [.r [], .r [(1, X (Xl elemT f))]] 32 (fun i => ([(0, VL 3 elemT f), (1, VB t), (8, VI (f.length : Int)), (9, VI (i : Int))], [])) (fun i => i ≤ f.length ∧ flowX t f 0 = flowX t f i) (fun i => f.length - i) (0 : Nat) ?_ ?_
 ·
  exact ⟨by omega, rfl⟩
 rintro i I2 ih2
 try dsimp only at I2
 refine .bp [.r []] (decide ((i : Int) < (f.length : Int))) (fun h2 => ?_) (fun h2 => ?_)
 ·
  have hx := hz _ (getDE_mem (l := f) (k := i) (by omega))
  refine .bp [.r [], .r [(2, X (Xi elemT f (i : Int))), (4, X (Xc0 (fc_elemError ((f.getD i default)) (by assumption)) X0))], .r []] ((elemE ((f.getD i default))) != 0) (fun h5 => ?_) (fun h5 => ?_)
  ·
   have e1 : ((flowZ t f) : Int) = (elemE ((f.getD i default))) := by
    exact flowZ_bad (I2.2.trans (flowX_bad (by omega) (by omega))) (by omega)
   exact .finE [.r []] [] (fun z0 : Int => (VI z0, [])) _ _ e1
  ·
   refine .bp [.r [(5, Xv 2 (!t) (Xi elemT f (i : Int))), (6, Xv 1 (!t) X0), (7, Xv 1 (!t) X0), (8, Xv 1 (!t) X0), (9, X (Xk (!t)))]] (!t && ((((f.getD i default)).char) != 0)) (fun h7 => ?_) (fun h7 => ?_)
   ·
    have e2 : ((flowZ t f) : Int) = 8 := by
     have hc := elem_cr h5
     exact flowZ_bad (I2.2.trans (flowX_kind (by omega) (by omega) ⟨h7.1, hc.1 h7.2⟩)) (by decide)
    exact .finE [.r []] [] (fun z0 : Int => (VI z0, [])) _ _ e2
   ·
    refine .back [.r [(0, X (Xn ((i : Int) + 1)))]] [] (ih2 ((i + 1) : Nat) ?_ ?_)
    ·
     have hc := elem_cr h5
     exact ⟨by omega, I2.2.trans (flowX_next (by omega) (by omega) (h7.imp id (fun q a => (hc.2 a) q)))⟩
    ·
     ((try dsimp only); omega)
 ·
  refine .bp [.r [(3, Xv 1 t (Xl elemT f)), (4, Xv 1 t X0), (5, Xv 1 t X0), (8, Xv 1 (t && !((f.length : Int) == 0)) (Xl elemT f)), (9, Xv 1 (t && !((f.length : Int) == 0)) (Xn ((f.length : Int) - 1))), (10, Xv 2 (t && !((f.length : Int) == 0)) (Xi' elemT f ((f.length : Int) - 1) (f.length - 1)) (fun hg => by (try simp only [Bool.not_eq_true', Bool.not_eq_false', Bool.and_eq_true, Bool.and_eq_false_iff, beq_iff_eq, beq_eq_false_iff_ne, ne_eq] at hg); exact ⟨(by omega), (by omega)⟩)), (11, Xv 1 (t && !((f.length : Int) == 0)) X0), (12, Xv 1 (t && !((f.length : Int) == 0)) X0), (13, Xv 1 (t && !((f.length : Int) == 0)) X0), (14, Xko t ((f.length : Int) == 0)), (15, X (Xk t))]] (t && (((f.length : Int) == 0) || ((((f.getD (f.length - 1) default)).char) != 10))) (fun h10 => ?_) (fun h10 => ?_)
  ·
   have e3 : ((flowZ t f) : Int) = 11 := by
    rw [flowZ_end (I2.2.trans (flowX_end (by omega))), if_pos (by refine ⟨h10.1, ?_⟩; rcases h10.2 with h | h; (left; omega); (right; exact h))]
   exact .finE [.r []] [] (fun z0 : Int => (VI z0, [])) _ _ e3
  ·
   have e4 : ((flowZ t f) : Int) = 0 := by
    rw [flowZ_end (I2.2.trans (flowX_end (by omega))), if_neg (by rintro ⟨q1, q2⟩; rcases h10 with h | h; (rw [q1] at h; cases h); (rcases q2 with q | q; (omega); (exact q h.2)))]
   exact .finE [.r []] [] (fun z0 : Int => (VI z0, [])) _ _ e4

theorem fc_placeR (s : ByteArray) (hs : s.size ≤ 9223372036854775807) : FC Tryz.prog 108 [VS s] (app emp []) (VB (placeB s)) (app emp []) := by
 refine .go Tryz.f108 ?_
 refine .loop (α := Nat) [.r [], .r []] 32 (fun i => ([(0, VS s), (5, VI (s.size : Int)), (6, VI (i : Int))], [])) (fun i => i ≤ s.size ∧ plS s 0 = plS s i) (fun i => s.size - i) (0 : Nat) ?_ ?_
 ·
  exact ⟨by omega, rfl⟩
 rintro i I2 ih2
 try dsimp only at I2
 refine .bp [.r []] (decide ((i : Int) < (s.size : Int))) (fun h2 => ?_) (fun h2 => ?_)
 ·
  refine .bp [.r [], .r [(2, X (Xb s (i : Int))), (7, Xv 2 (!(decide (((((s[i]?).getD 0).toNat : Nat) : Int) < 97))) (Xb s (i : Int))), (8, Xv 1 (!(decide (((((s[i]?).getD 0).toNat : Nat) : Int) < 97))) X0), (9, X (Xk' (decide (((((s[i]?).getD 0).toNat : Nat) : Int) < 97))))]] (decide (((((s[i]?).getD 0).toNat : Nat) : Int) < 97) || decide (((((s[i]?).getD 0).toNat : Nat) : Int) > 122)) (fun h4 => ?_) (fun h4 => ?_)
  ·
   have e1 : ((placeB s) : Bool) = false := by
    simp only [byt0] at h4; unfold placeB; rw [I2.2, plS, if_pos (by omega), if_pos (by omega)]; simp
   exact .finE [.r []] [] (fun z0 : Bool => (VB z0, [])) _ _ e1
  ·
   refine .back [.r [(0, X (Xn ((i : Int) + 1)))]] [] (ih2 ((i + 1) : Nat) ?_ ?_)
   ·
    simp only [byt0] at h4; refine ⟨by omega, ?_⟩; rw [I2.2, plS, if_pos (by omega), if_neg (by omega)]
   ·
    ((try dsimp only); omega)
 ·
  have e2 : ((placeB s) : Bool) = ((decide ((s.size : Int) ≥ 1) && decide ((s.size : Int) ≤ 200)) && (((((s[(Int.toNat ((s.size : Int) - 1))]?).getD 0).toNat : Nat) : Int) != 97)) := by
   unfold placeB; rw [I2.2, plS, if_neg (by omega), Bool.eq_iff_iff]; simp only [byt0, Bool.and_true, Bool.and_eq_true, decide_eq_true_eq, bne_iff_ne, ne_eq, show ((s.size : Int) - 1).toNat = s.size - 1 by omega]; omega
  exact .finE [.r [(5, Xv 1 (decide ((s.size : Int) ≥ 1)) X0), (6, Xv 1 (decide ((s.size : Int) ≥ 1)) X0), (7, X (Xk (decide ((s.size : Int) ≥ 1)))), (11, Xv 1 (decide ((s.size : Int) ≥ 1) && decide ((s.size : Int) ≤ 200)) X0), (12, Xv 1 (decide ((s.size : Int) ≥ 1) && decide ((s.size : Int) ≤ 200)) (Xn ((s.size : Int) - 1))), (13, Xv 2 (decide ((s.size : Int) ≥ 1) && decide ((s.size : Int) ≤ 200)) (Xb s ((s.size : Int) - 1)) (fun hg => by (try simp only [decide_eq_true_eq, decide_eq_false_iff_not, Int.not_lt, Int.not_le, ge_iff_le, Bool.and_eq_true, Bool.and_eq_false_iff, Bool.not_eq_true', Bool.not_eq_false'] at hg); exact ⟨(by omega), (by omega)⟩)), (14, Xv 1 (decide ((s.size : Int) ≥ 1) && decide ((s.size : Int) ≤ 200)) X0), (15, X (Xk (decide ((s.size : Int) ≥ 1) && decide ((s.size : Int) ≤ 200))))]] [] (fun z0 : Bool => (VB z0, [])) _ _ e2
end Go.Ch
end
section
set_option linter.unusedVariables false
namespace Go.Ch
open Go Go.Ab

def SortN (l : List Node) : Prop := ∀ p q, p < q → q < l.length → (l.getD p default).id < (l.getD q default).id
def cmpN9 (n : Node) (k : Int) : Int := if n.id < k then -1 else if n.id > k then 1 else 0
def lobN (l : List Node) (k : Int) : Nat := (l.takeWhile (fun n => decide (n.id < k))).length
theorem lobN_all : ∀ (l : List Node) (k : Int), lobN l k ≤ l.length ∧ (∀ i, i < lobN l k → (l.getD i default).id < k) ∧ (lobN l k < l.length → ¬ (l.getD (lobN l k) default).id < k)
  | [], k => ⟨Nat.zero_le _, fun i hi => absurd hi (by simp [lobN]), fun h => absurd h (by simp [lobN])⟩
  | c :: l, k => by
    obtain ⟨h1, h2, h3⟩ := lobN_all l k
    by_cases hc : c.id < k
    · have e : lobN (c :: l) k = lobN l k + 1 := by unfold lobN; rw [List.takeWhile_cons, if_pos (decide_eq_true hc)]; rfl
      rw [e]
      refine ⟨by simp; omega, fun i hi => ?_, fun h => ?_⟩
      · cases i with
        | zero => exact hc
        | succ i => exact h2 i (by omega)
      · exact h3 (by simpa using h)
    · have e : lobN (c :: l) k = 0 := by unfold lobN; rw [List.takeWhile_cons, if_neg (by simpa using hc)]; rfl
      rw [e]
      exact ⟨Nat.zero_le _, fun i hi => absurd hi (by omega), fun _ => hc⟩
theorem lobN_lt {l : List Node} {k : Int} {m : Nat} (hs : SortN l) (hm : m < l.length) (h : (l.getD m default).id < k) : m < lobN l k := by
  obtain ⟨h1, h2, h3⟩ := lobN_all l k
  apply Classical.byContradiction; intro q
  have h4 := h3 (by omega)
  by_cases e : lobN l k = m
  · rw [e] at h4; exact h4 h
  · have h5 := hs (lobN l k) m (by omega) hm
    omega
theorem lobN_ge {l : List Node} {k : Int} {m : Nat} (h : ¬ (l.getD m default).id < k) : lobN l k ≤ m := by
  obtain ⟨h1, h2, h3⟩ := lobN_all l k
  apply Classical.byContradiction; intro q
  exact h (h2 m (by omega))
def hasN (l : List Node) (k : Int) : Bool := decide ((lobN l k : Int) < (l.length : Int)) && (cmpN9 (l.getD (lobN l k) default) k == 0)
theorem cmpN9_lt {n : Node} {k : Int} : cmpN9 n k < 0 ↔ n.id < k := by unfold cmpN9; split <;> (try split) <;> omega
theorem cmpN9_eq {n : Node} {k : Int} : cmpN9 n k = 0 ↔ n.id = k := by unfold cmpN9; split <;> (try split) <;> omega
theorem hasN_iff {l : List Node} {k : Int} : hasN l k = true ↔ lobN l k < l.length ∧ (l.getD (lobN l k) default).id = k := by
  unfold hasN; rw [Bool.and_eq_true, decide_eq_true_eq, beq_iff_eq, cmpN9_eq]; omega
/-- The document's search, one by one. -/
theorem findD_all (l : List Node) (k : Int) : ∀ (n i : Nat), l.length - i = n → (findD l k i = -1 ∧ ∀ j, i ≤ j → j < l.length → (l.getD j default).id ≠ k) ∨ ∃ j : Nat, findD l k i = j ∧ i ≤ j ∧ j < l.length ∧ (l.getD j default).id = k
  | 0, i, h => by rw [findD, if_neg (by omega)]; exact .inl ⟨rfl, fun j h1 h2 => by omega⟩
  | n + 1, i, h => by
    have hi : i < l.length := by omega
    rw [findD, if_pos hi]
    by_cases e : (l.getD i default).id = k
    · rw [if_pos e]; exact .inr ⟨i, rfl, Nat.le_refl _, hi, e⟩
    · rw [if_neg e]
      rcases findD_all l k n (i + 1) (by omega) with ⟨a, b⟩ | ⟨j, a, b, c, d⟩
      · refine .inl ⟨a, fun j h1 h2 => ?_⟩
        by_cases q : j = i
        · subst q; exact e
        · exact b j (by omega) h2
      · exact .inr ⟨j, a, by omega, c, d⟩
theorem find_yes {l : List Node} {k : Int} (hs : SortN l) (h : hasN l k = true) : findD l k 0 = (lobN l k : Int) := by
  obtain ⟨h1, h2⟩ := hasN_iff.1 h
  rcases findD_all l k _ 0 rfl with ⟨a, b⟩ | ⟨j, a, b, c, d⟩
  · exact absurd h2 (b _ (Nat.zero_le _) h1)
  · rw [a]
    rcases Nat.lt_trichotomy j (lobN l k) with q | q | q
    · have := hs j _ q h1; omega
    · rw [q]
    · have := hs _ j q c; omega
theorem find_no {l : List Node} {k : Int} (hs : SortN l) (h : hasN l k = false) : findD l k 0 < 0 := by
  rcases findD_all l k _ 0 rfl with ⟨a, b⟩ | ⟨j, a, b, c, d⟩
  · rw [a]; decide
  · exfalso
    have h1 := lobN_ge (l := l) (k := k) (m := j) (by omega)
    obtain ⟨s1, s2, s3⟩ := lobN_all l k
    have h2 : lobN l k = j := by
      apply Classical.byContradiction; intro q
      have := hs (lobN l k) j (by omega) c
      exact s3 (by omega) (by omega)
    have : hasN l k = true := hasN_iff.2 ⟨by omega, by rw [h2]; exact d⟩
    rw [h] at this; cases this

/-! ### What an error that is none says -/
theorem nodesE_all {l : List Node} : ∀ (n i : Nat), l.length - i = n → nodesE l i = 0 → (∀ j, i ≤ j → j < l.length → nodeE (l.getD j default) = 0) ∧ (∀ j, i ≤ j → j < l.length → (j = 0 → (l.getD 0 default).id = 1) ∧ (0 < j → (l.getD (j - 1) default).id < (l.getD j default).id))
  | 0, i, h, _ => ⟨fun j h1 h2 => by omega, fun j h1 h2 => by omega⟩
  | n + 1, i, h, he => by
    have hi : i < l.length := by omega
    rw [nodesE, if_pos hi] at he
    by_cases h1 : nodeE (l.getD i default) ≠ 0
    · rw [if_pos h1] at he; exact absurd he h1
    · rw [if_neg h1] at he
      split at he
      · cases he
      · rename_i h2
        obtain ⟨a, b⟩ := nodesE_all n (i + 1) (by omega) he
        refine ⟨fun j q1 q2 => ?_, fun j q1 q2 => ?_⟩
        · by_cases q : j = i
          · subst q; exact Classical.byContradiction h1
          · exact a j (by omega) q2
        · by_cases q : j = i
          · subst q
            exact ⟨fun q3 => by omega, fun q3 => by omega⟩
          · exact b j (by omega) q2
theorem sort_of {l : List Node} (h : nodesE l 0 = 0) : SortN l := by
  have h2 := (nodesE_all _ 0 rfl h).2
  have key : ∀ d p, p + d + 1 < l.length → (l.getD p default).id < (l.getD (p + d + 1) default).id := by
    intro d
    induction d with
    | zero => intro p hp; have := (h2 (p + 1) (Nat.zero_le _) hp).2 (by omega); rwa [show p + 1 - 1 = p by omega] at this
    | succ d ih =>
      intro p hp
      have h3 := ih p (by omega)
      have h4 := (h2 (p + (d + 1) + 1) (Nat.zero_le _) hp).2 (by omega)
      rw [show p + (d + 1) + 1 - 1 = p + d + 1 by omega] at h4
      omega
  intro p q hpq hq
  have := key (q - p - 1) p (by omega)
  rwa [show p + (q - p - 1) + 1 = q by omega] at this
end Go.Ch
end
section
set_option linter.unusedVariables false
set_option linter.unusedSimpArgs false
set_option maxRecDepth 100000
set_option maxHeartbeats 4000000
open Go Go.Proofs Go.Ab
namespace Go.Ch
theorem fc_earlier (a b : DOp) : FC Tryz.prog 109 [.t (dopT a), .t (dopT b)] (app emp []) (VB (decide (ltO a b))) (app emp []) := by
 refine .go Tryz.f109 ?_
 have e1 : ((decide (ltO a b)) : Bool) = (decide (a.clock < b.clock) || ((a.clock == b.clock) && decide (a.site < b.site))) := by
  rw [Bool.eq_iff_iff, decide_eq_true_eq]; unfold ltO; simp only [Bool.or_eq_true, Bool.and_eq_true, decide_eq_true_eq, beq_iff_eq]
 exact .finE [.r [], .r [(7, Xv 1 (!(decide (a.clock < b.clock))) X0), (9, Xv 1 (!(decide (a.clock < b.clock))) X0), (10, Xv 2 (!(decide (a.clock < b.clock))) X0), (11, Xv 1 (!(decide (a.clock < b.clock))) X0), (13, Xv 1 ((!(decide (a.clock < b.clock))) && (a.clock == b.clock)) X0), (15, Xv 1 ((!(decide (a.clock < b.clock))) && (a.clock == b.clock)) X0), (16, Xv 2 ((!(decide (a.clock < b.clock))) && (a.clock == b.clock)) X0), (17, Xka (!(decide (a.clock < b.clock))) (a.clock == b.clock)), (18, X (Xk' (decide (a.clock < b.clock))))]] [] (fun z0 : Bool => (VB z0, [])) _ _ e1

theorem fc_drawR (l : List DOp) (hz : ∀ o ∈ l, o.plc.size ≤ 1048576 ∧ o.nm.size ≤ 1048576 ∧ o.vl.size ≤ 1048576) : FC Tryz.prog 70 [VL 8 dopT l] (app emp []) (VI (drawE l 0)) (app emp []) := by
 refine .go Tryz.f70 ?_
 refine .len 0 (fun hl0 => ?_)
 refine .loop (α := Nat) [.r [], .r [(1, X (Xl dopT l))]] 32 (fun i => ([(0, VL 8 dopT l), (6, VI (l.length : Int)), (7, VI (i : Int))], [])) (fun i => i ≤ l.length ∧ drawE l 0 = drawE l i) (fun i => l.length - i) (0 : Nat) ?_ ?_
 ·
  exact ⟨by omega, rfl⟩
 rintro i I2 ih2
 try dsimp only at I2
 refine .bp [.r []] (decide ((i : Int) < (l.length : Int))) (fun h2 => ?_) (fun h2 => ?_)
 ·
  have hm := hz _ (getDO_mem (l := l) (i := i) (by omega))
  have hx : drawE l i = _ := drawE.eq_1 l i
  rw [if_pos (by omega)] at hx
  have ho : opE (l.getD i default) = _ := opE.eq_1 _
  refine .bp [.r [], .r [(2, X (Xi dopT l (i : Int)))], .r [(5, Xv 1 ((((l.getD i default)).kind) != 0) X0), (6, Xv 1 ((((l.getD i default)).kind) != 0) X0), (7, X (Xk ((((l.getD i default)).kind) != 0)))]] (((((l.getD i default)).kind) != 0) && ((((l.getD i default)).kind) != 1)) (fun h5 => ?_) (fun h5 => ?_)
  ·
   have e1 : ((drawE l 0) : Int) = 8 := by
    first | (rw [I2.2, drawE, if_neg (by omega)]; done) | (rw [I2.2, hx, ho]; (try simp only [nameRf_eq, valRf_eq] at *); clear hx ho; (repeat' split) <;> first | rfl | omega | (exfalso; omega) | (simp_all; done) | (exfalso; simp_all; done) | (exfalso; simp_all; omega))
   exact .finE [.r []] [] (fun z0 : Int => (VI z0, [])) _ _ e1
  ·
   refine .bp [.r [(2, X (Xc0 (fc_in (((l.getD i default)).clock) 1 1073741824) X0)), (6, Xv 1 (!(!(decide (1 ≤ (((l.getD i default)).clock) ∧ (((l.getD i default)).clock) ≤ 1073741824)))) X0), (7, Xv 1 (!(!(decide (1 ≤ (((l.getD i default)).clock) ∧ (((l.getD i default)).clock) ≤ 1073741824)))) (Xc0 (fc_in (((l.getD i default)).site) 0 1000) X0)), (8, Xv 1 (!(!(decide (1 ≤ (((l.getD i default)).clock) ∧ (((l.getD i default)).clock) ≤ 1073741824)))) X0), (9, X (Xk' (!(decide (1 ≤ (((l.getD i default)).clock) ∧ (((l.getD i default)).clock) ≤ 1073741824))))), (12, Xv 1 (!(!(decide (1 ≤ (((l.getD i default)).clock) ∧ (((l.getD i default)).clock) ≤ 1073741824)) || !(decide (0 ≤ (((l.getD i default)).site) ∧ (((l.getD i default)).site) ≤ 1000)))) X0), (13, Xv 1 (!(!(decide (1 ≤ (((l.getD i default)).clock) ∧ (((l.getD i default)).clock) ≤ 1073741824)) || !(decide (0 ≤ (((l.getD i default)).site) ∧ (((l.getD i default)).site) ≤ 1000)))) (Xc0 (fc_in (((l.getD i default)).itm) 1 1073741824) X0)), (14, Xv 1 (!(!(decide (1 ≤ (((l.getD i default)).clock) ∧ (((l.getD i default)).clock) ≤ 1073741824)) || !(decide (0 ≤ (((l.getD i default)).site) ∧ (((l.getD i default)).site) ≤ 1000)))) X0), (15, X (Xk' (!(decide (1 ≤ (((l.getD i default)).clock) ∧ (((l.getD i default)).clock) ≤ 1073741824)) || !(decide (0 ≤ (((l.getD i default)).site) ∧ (((l.getD i default)).site) ≤ 1000)))))]] ((!(decide (1 ≤ (((l.getD i default)).clock) ∧ (((l.getD i default)).clock) ≤ 1073741824)) || !(decide (0 ≤ (((l.getD i default)).site) ∧ (((l.getD i default)).site) ≤ 1000))) || !(decide (1 ≤ (((l.getD i default)).itm) ∧ (((l.getD i default)).itm) ≤ 1073741824))) (fun h7 => ?_) (fun h7 => ?_)
   ·
    have e2 : ((drawE l 0) : Int) = 2 := by
     first | (rw [I2.2, drawE, if_neg (by omega)]; done) | (rw [I2.2, hx, ho]; (try simp only [nameRf_eq, valRf_eq] at *); clear hx ho; (repeat' split) <;> first | rfl | omega | (exfalso; omega) | (simp_all; done) | (exfalso; simp_all; done) | (exfalso; simp_all; omega))
    exact .finE [.r []] [] (fun z0 : Int => (VI z0, [])) _ _ e2
   ·
    refine .bp [.r []] ((((l.getD i default)).kind) == 0) (fun h9 => ?_) (fun h9 => ?_)
    ·
     refine .bp [.r [(5, Xv 1 (!(!(seq (((l.getD i default)).nm) ({ data := #[] })))) X0), (6, Xv 1 (!(!(seq (((l.getD i default)).nm) ({ data := #[] })))) X0), (7, X (Xk' (!(seq (((l.getD i default)).nm) ({ data := #[] })))))]] (!(seq (((l.getD i default)).nm) ({ data := #[] })) || !(seq (((l.getD i default)).vl) ({ data := #[] }))) (fun h10 => ?_) (fun h10 => ?_)
     ·
      have e3 : ((drawE l 0) : Int) = 4 := by
       first | (rw [I2.2, drawE, if_neg (by omega)]; done) | (rw [I2.2, hx, ho]; (try simp only [nameRf_eq, valRf_eq] at *); clear hx ho; (repeat' split) <;> first | rfl | omega | (exfalso; omega) | (simp_all; done) | (exfalso; simp_all; done) | (exfalso; simp_all; omega))
      exact .finE [.r []] [] (fun z0 : Int => (VI z0, [])) _ _ e3
     ·
      refine .bp [.r [(2, X (Xc0 (fc_in (((l.getD i default)).prt) (-1) 1073741824) X0))]] (!(decide ((-1) ≤ (((l.getD i default)).prt) ∧ (((l.getD i default)).prt) ≤ 1073741824))) (fun h12 => ?_) (fun h12 => ?_)
      ·
       have e4 : ((drawE l 0) : Int) = 2 := by
        first | (rw [I2.2, drawE, if_neg (by omega)]; done) | (rw [I2.2, hx, ho]; (try simp only [nameRf_eq, valRf_eq] at *); clear hx ho; (repeat' split) <;> first | rfl | omega | (exfalso; omega) | (simp_all; done) | (exfalso; simp_all; done) | (exfalso; simp_all; omega))
       exact .finE [.r []] [] (fun z0 : Int => (VI z0, [])) _ _ e4
      ·
       refine .bp [.r [(2, X (Xc0 (fc_placeR (((l.getD i default)).plc) (by omega)) X0))]] (!(placeB (((l.getD i default)).plc))) (fun h14 => ?_) (fun h14 => ?_)
       ·
        have e5 : ((drawE l 0) : Int) = 9 := by
         first | (rw [I2.2, drawE, if_neg (by omega)]; done) | (rw [I2.2, hx, ho]; (try simp only [nameRf_eq, valRf_eq] at *); clear hx ho; (repeat' split) <;> first | rfl | omega | (exfalso; omega) | (simp_all; done) | (exfalso; simp_all; done) | (exfalso; simp_all; omega))
        exact .finE [.r []] [] (fun z0 : Int => (VI z0, [])) _ _ e5
       ·
        refine .bp [.r [(5, Xv 1 (decide ((i : Int) > 0)) (Xn ((i : Int) - 1))), (6, Xv 2 (decide ((i : Int) > 0)) (Xi' dopT l ((i : Int) - 1) (i - 1))), (7, Xv 1 (decide ((i : Int) > 0)) X0), (9, Xv 2 (decide ((i : Int) > 0)) (Xc0 (fc_earlier ((l.getD (i - 1) default)) ((l.getD i default))) X0)), (10, Xv 1 (decide ((i : Int) > 0)) X0), (11, X (Xk (decide ((i : Int) > 0))))]] (decide ((i : Int) > 0) && !(decide (ltO ((l.getD (i - 1) default)) ((l.getD i default))))) (fun h22 => ?_) (fun h22 => ?_)
        ·
         have e6 : ((drawE l 0) : Int) = 5 := by
          first | (rw [I2.2, drawE, if_neg (by omega)]; done) | (rw [I2.2, hx, ho]; (try simp only [nameRf_eq, valRf_eq] at *); clear hx ho; (repeat' split) <;> first | rfl | omega | (exfalso; omega) | (simp_all; done) | (exfalso; simp_all; done) | (exfalso; simp_all; omega))
         exact .finE [.r []] [] (fun z0 : Int => (VI z0, [])) _ _ e6
        ·
         refine .back [.r [(0, X (Xn ((i : Int) + 1)))]] [] (ih2 ((i + 1) : Nat) ?_ ?_)
         ·
          refine ⟨by omega, ?_⟩; rw [I2.2, hx, ho]; (try simp only [nameRf_eq, valRf_eq] at *); clear hx ho; (repeat' split) <;> first | rfl | omega | (exfalso; omega) | (simp_all; done) | (exfalso; simp_all; done) | (exfalso; simp_all; omega)
         ·
          ((try dsimp only); omega)
    ·
     refine .bp [.r [(5, Xv 1 (!((((l.getD i default)).prt) != 0)) X0), (6, Xv 1 (!((((l.getD i default)).prt) != 0)) X0), (7, X (Xk' ((((l.getD i default)).prt) != 0)))]] (((((l.getD i default)).prt) != 0) || !(seq (((l.getD i default)).plc) ({ data := #[] }))) (fun h16 => ?_) (fun h16 => ?_)
     ·
      have e7 : ((drawE l 0) : Int) = 4 := by
       first | (rw [I2.2, drawE, if_neg (by omega)]; done) | (rw [I2.2, hx, ho]; (try simp only [nameRf_eq, valRf_eq] at *); clear hx ho; (repeat' split) <;> first | rfl | omega | (exfalso; omega) | (simp_all; done) | (exfalso; simp_all; done) | (exfalso; simp_all; omega))
      exact .finE [.r []] [] (fun z0 : Int => (VI z0, [])) _ _ e7
     ·
      refine .bp [.r [(2, X (Xc0 (fc_nameR (((l.getD i default)).nm) (by (first | omega | with_reducible exact fun h => h | (intro hq; rw [hq]; done) | (intro hq; rw [hq]; rfl) | (simp only [List.length_map]; done) | (simp only [List.length_map]; omega) | (simp; omega) | (simp; done)))) X0))]] (!(nameRf (((l.getD i default)).nm))) (fun h18 => ?_) (fun h18 => ?_)
      ·
       have e8 : ((drawE l 0) : Int) = 9 := by
        first | (rw [I2.2, drawE, if_neg (by omega)]; done) | (rw [I2.2, hx, ho]; (try simp only [nameRf_eq, valRf_eq] at *); clear hx ho; (repeat' split) <;> first | rfl | omega | (exfalso; omega) | (simp_all; done) | (exfalso; simp_all; done) | (exfalso; simp_all; omega))
       exact .finE [.r []] [] (fun z0 : Int => (VI z0, [])) _ _ e8
      ·
       refine .bp [.r [(5, Xv 1 (!(seq (((l.getD i default)).vl) ({ data := #[] }))) X0), (6, Xv 1 (!(seq (((l.getD i default)).vl) ({ data := #[] }))) (Xc0 (fc_valueR (((l.getD i default)).vl) (by (first | omega | with_reducible exact fun h => h | (intro hq; rw [hq]; done) | (intro hq; rw [hq]; rfl) | (simp only [List.length_map]; done) | (simp only [List.length_map]; omega) | (simp; omega) | (simp; done)))) X0)), (7, Xv 1 (!(seq (((l.getD i default)).vl) ({ data := #[] }))) X0), (8, X (Xk (!(seq (((l.getD i default)).vl) ({ data := #[] })))))]] (!(seq (((l.getD i default)).vl) ({ data := #[] })) && !(valRf (((l.getD i default)).vl))) (fun h20 => ?_) (fun h20 => ?_)
       ·
        have e9 : ((drawE l 0) : Int) = 23 := by
         first | (rw [I2.2, drawE, if_neg (by omega)]; done) | (rw [I2.2, hx, ho]; (try simp only [nameRf_eq, valRf_eq] at *); clear hx ho; (repeat' split) <;> first | rfl | omega | (exfalso; omega) | (simp_all; done) | (exfalso; simp_all; done) | (exfalso; simp_all; omega))
        exact .finE [.r []] [] (fun z0 : Int => (VI z0, [])) _ _ e9
       ·
        refine .bp [.r [(5, Xv 1 (decide ((i : Int) > 0)) (Xn ((i : Int) - 1))), (6, Xv 2 (decide ((i : Int) > 0)) (Xi' dopT l ((i : Int) - 1) (i - 1))), (7, Xv 1 (decide ((i : Int) > 0)) X0), (9, Xv 2 (decide ((i : Int) > 0)) (Xc0 (fc_earlier ((l.getD (i - 1) default)) ((l.getD i default))) X0)), (10, Xv 1 (decide ((i : Int) > 0)) X0), (11, X (Xk (decide ((i : Int) > 0))))]] (decide ((i : Int) > 0) && !(decide (ltO ((l.getD (i - 1) default)) ((l.getD i default))))) (fun h22 => ?_) (fun h22 => ?_)
        ·
         have e10 : ((drawE l 0) : Int) = 5 := by
          first | (rw [I2.2, drawE, if_neg (by omega)]; done) | (rw [I2.2, hx, ho]; (try simp only [nameRf_eq, valRf_eq] at *); clear hx ho; (repeat' split) <;> first | rfl | omega | (exfalso; omega) | (simp_all; done) | (exfalso; simp_all; done) | (exfalso; simp_all; omega))
         exact .finE [.r []] [] (fun z0 : Int => (VI z0, [])) _ _ e10
        ·
         refine .back [.r [(0, X (Xn ((i : Int) + 1)))]] [] (ih2 ((i + 1) : Nat) ?_ ?_)
         ·
          refine ⟨by omega, ?_⟩; rw [I2.2, hx, ho]; (try simp only [nameRf_eq, valRf_eq] at *); clear hx ho; (repeat' split) <;> first | rfl | omega | (exfalso; omega) | (simp_all; done) | (exfalso; simp_all; done) | (exfalso; simp_all; omega)
         ·
          ((try dsimp only); omega)
 ·
  have e11 : ((drawE l 0) : Int) = 0 := by
   first | (rw [I2.2, drawE, if_neg (by omega)]; done) | (rw [I2.2, hx, ho]; (try simp only [nameRf_eq, valRf_eq] at *); clear hx ho; (repeat' split) <;> first | rfl | omega | (exfalso; omega) | (simp_all; done) | (exfalso; simp_all; done) | (exfalso; simp_all; omega))
  exact .finE [.r []] [] (fun z0 : Int => (VI z0, [])) _ _ e11
end Go.Ch
end
section
set_option linter.unusedVariables false
set_option linter.unusedSimpArgs false
set_option maxRecDepth 100000
set_option maxHeartbeats 4000000
open Go Go.Proofs Go.Ab
namespace Go.Ch
theorem fc_nodeR (n : Node) (hb : NodeB n) : FC Tryz.prog 29 [.t (nodeT n)] (app emp []) (VI (nodeE n)) (app emp []) := by
 refine .go Tryz.f29 ?_
 have b1 := hb.at1
 have b2 := hb.fl1
 have b3 := hb.ce1
 have b4 := hb.me
 have b5 := hb.dr2
 refine .bp [.r [], .r [(2, X (Xc0 (fc_in n.id 1 1073741824) X0))]] (!(decide (1 ≤ n.id ∧ n.id ≤ 1073741824))) (fun h1 => ?_) (fun h1 => ?_)
 ·
  have e1 : ((nodeE n) : Int) = 2 := by
   (try rw [errA_eq false n.attrs _ 0 rfl] at *)
   unfold nodeE
   (repeat' split) <;> first | rfl | omega | (exfalso; omega) | (simp_all; done) | (exfalso; simp_all; done) | (exfalso; simp_all; omega) | grind
  exact .finE [.r []] [] (fun z0 : Int => (VI z0, [])) _ _ e1
 ·
  refine .bp [.r [(2, X (Xc0 (fc_in n.kind 0 12) X0)), (6, Xv 1 (!(!(decide (0 ≤ n.kind ∧ n.kind ≤ 12)))) X0), (7, Xv 1 (!(!(decide (0 ≤ n.kind ∧ n.kind ≤ 12)))) X0), (8, Xv 1 (!(!(decide (0 ≤ n.kind ∧ n.kind ≤ 12)))) X0), (10, Xv 1 ((!(!(decide (0 ≤ n.kind ∧ n.kind ≤ 12)))) && (n.id == 1)) X0), (11, Xv 1 ((!(!(decide (0 ≤ n.kind ∧ n.kind ≤ 12)))) && (n.id == 1)) X0), (12, Xka (!(!(decide (0 ≤ n.kind ∧ n.kind ≤ 12)))) (n.id == 1)), (13, X (Xk' (!(decide (0 ≤ n.kind ∧ n.kind ≤ 12))))), (16, Xv 1 (!(!(decide (0 ≤ n.kind ∧ n.kind ≤ 12)) || ((n.id == 1) && (n.kind != 0)))) X0), (17, Xv 1 (!(!(decide (0 ≤ n.kind ∧ n.kind ≤ 12)) || ((n.id == 1) && (n.kind != 0)))) X0), (18, Xv 1 (!(!(decide (0 ≤ n.kind ∧ n.kind ≤ 12)) || ((n.id == 1) && (n.kind != 0)))) X0), (20, Xv 1 ((!(!(decide (0 ≤ n.kind ∧ n.kind ≤ 12)) || ((n.id == 1) && (n.kind != 0)))) && (n.id != 1)) X0), (21, Xv 1 ((!(!(decide (0 ≤ n.kind ∧ n.kind ≤ 12)) || ((n.id == 1) && (n.kind != 0)))) && (n.id != 1)) X0), (22, Xka (!(!(decide (0 ≤ n.kind ∧ n.kind ≤ 12)) || ((n.id == 1) && (n.kind != 0)))) (n.id != 1)), (23, X (Xk' (!(decide (0 ≤ n.kind ∧ n.kind ≤ 12)) || ((n.id == 1) && (n.kind != 0)))))]] ((!(decide (0 ≤ n.kind ∧ n.kind ≤ 12)) || ((n.id == 1) && (n.kind != 0))) || ((n.id != 1) && (n.kind == 0))) (fun h3 => ?_) (fun h3 => ?_)
  ·
   have e2 : ((nodeE n) : Int) = 8 := by
    (try rw [errA_eq false n.attrs _ 0 rfl] at *)
    unfold nodeE
    (repeat' split) <;> first | rfl | omega | (exfalso; omega) | (simp_all; done) | (exfalso; simp_all; done) | (exfalso; simp_all; omega) | grind
   exact .finE [.r []] [] (fun z0 : Int => (VI z0, [])) _ _ e2
  ·
   refine .bp [.r [(2, X (Xc0 (fc_attrsError n.attrs false (by assumption)) X0))], .r []] ((errA false n.attrs 0) != 0) (fun h6 => ?_) (fun h6 => ?_)
   ·
    have e3 : ((nodeE n) : Int) = (errA false n.attrs 0) := by
     (try rw [errA_eq false n.attrs _ 0 rfl] at *)
     unfold nodeE
     (repeat' split) <;> first | rfl | omega | (exfalso; omega) | (simp_all; done) | (exfalso; simp_all; done) | (exfalso; simp_all; omega) | grind
    exact .finE [.r []] [] (fun z0 : Int => (VI z0, [])) _ _ e3
   ·
    refine .bp [.r [(2, X (Xc0 (fc_HasText n.kind) X0)), (5, Xv 1 (!(hasT n.kind)) X0), (6, Xv 1 (!(hasT n.kind)) (Xc0 (fc_HasList n.kind) X0)), (7, X (Xk' (hasT n.kind)))], .r [(2, X (Xl elemT n.flow)), (6, Xv 1 (decide ((n.flow.length : Int) > 0)) X0), (7, X (Xk (decide ((n.flow.length : Int) > 0)))), (10, Xv 1 (!(decide ((n.flow.length : Int) > 0) && !((hasT n.kind) || (hasL n.kind)))) X0), (11, Xv 1 (!(decide ((n.flow.length : Int) > 0) && !((hasT n.kind) || (hasL n.kind)))) (Xc0 (fc_zeroGrid n.grid) X0)), (12, Xv 1 (!(decide ((n.flow.length : Int) > 0) && !((hasT n.kind) || (hasL n.kind)))) X0), (13, Xv 1 (!(decide ((n.flow.length : Int) > 0) && !((hasT n.kind) || (hasL n.kind)))) X0), (15, Xv 1 ((!(decide ((n.flow.length : Int) > 0) && !((hasT n.kind) || (hasL n.kind)))) && (!(zeroG n.grid))) X0), (16, Xv 1 ((!(decide ((n.flow.length : Int) > 0) && !((hasT n.kind) || (hasL n.kind)))) && (!(zeroG n.grid))) (Xc0 (fc_HasGrid n.kind) X0)), (17, Xv 1 ((!(decide ((n.flow.length : Int) > 0) && !((hasT n.kind) || (hasL n.kind)))) && (!(zeroG n.grid))) X0), (18, Xka (!(decide ((n.flow.length : Int) > 0) && !((hasT n.kind) || (hasL n.kind)))) (!(zeroG n.grid))), (19, X (Xk' (decide ((n.flow.length : Int) > 0) && !((hasT n.kind) || (hasL n.kind))))), (22, Xv 1 (!((decide ((n.flow.length : Int) > 0) && !((hasT n.kind) || (hasL n.kind))) || (!(zeroG n.grid) && !(hasG n.kind)))) X0), (23, Xv 1 (!((decide ((n.flow.length : Int) > 0) && !((hasT n.kind) || (hasL n.kind))) || (!(zeroG n.grid) && !(hasG n.kind)))) (Xl dopT n.draw)), (24, Xv 1 (!((decide ((n.flow.length : Int) > 0) && !((hasT n.kind) || (hasL n.kind))) || (!(zeroG n.grid) && !(hasG n.kind)))) X0), (25, Xv 1 (!((decide ((n.flow.length : Int) > 0) && !((hasT n.kind) || (hasL n.kind))) || (!(zeroG n.grid) && !(hasG n.kind)))) X0), (27, Xv 1 ((!((decide ((n.flow.length : Int) > 0) && !((hasT n.kind) || (hasL n.kind))) || (!(zeroG n.grid) && !(hasG n.kind)))) && (decide ((n.draw.length : Int) > 0))) X0), (28, Xv 1 ((!((decide ((n.flow.length : Int) > 0) && !((hasT n.kind) || (hasL n.kind))) || (!(zeroG n.grid) && !(hasG n.kind)))) && (decide ((n.draw.length : Int) > 0))) (Xc0 (fc_HasDraw n.kind) X0)), (29, Xv 1 ((!((decide ((n.flow.length : Int) > 0) && !((hasT n.kind) || (hasL n.kind))) || (!(zeroG n.grid) && !(hasG n.kind)))) && (decide ((n.draw.length : Int) > 0))) X0), (30, Xka (!((decide ((n.flow.length : Int) > 0) && !((hasT n.kind) || (hasL n.kind))) || (!(zeroG n.grid) && !(hasG n.kind)))) (decide ((n.draw.length : Int) > 0))), (31, X (Xk' ((decide ((n.flow.length : Int) > 0) && !((hasT n.kind) || (hasL n.kind))) || (!(zeroG n.grid) && !(hasG n.kind)))))]] (((decide ((n.flow.length : Int) > 0) && !((hasT n.kind) || (hasL n.kind))) || (!(zeroG n.grid) && !(hasG n.kind))) || (decide ((n.draw.length : Int) > 0) && !(hasD n.kind))) (fun h9 => ?_) (fun h9 => ?_)
    ·
     have e4 : ((nodeE n) : Int) = 4 := by
      (try rw [errA_eq false n.attrs _ 0 rfl] at *)
      unfold nodeE
      (repeat' split) <;> first | rfl | omega | (exfalso; omega) | (simp_all; done) | (exfalso; simp_all; done) | (exfalso; simp_all; omega) | grind
     exact .finE [.r []] [] (fun z0 : Int => (VI z0, [])) _ _ e4
    ·
     refine .bp [.r []] ((hasT n.kind) || (hasL n.kind)) (fun h11 => ?_) (fun h11 => ?_)
     ·
      have e5 : ((nodeE n) : Int) = (flowZ (hasT n.kind) n.flow) := by
       (try rw [errA_eq false n.attrs _ 0 rfl] at *)
       unfold nodeE
       (repeat' split) <;> first | rfl | omega | (exfalso; omega) | (simp_all; done) | (exfalso; simp_all; done) | (exfalso; simp_all; omega) | grind
      exact .finE [.r [(4, X (Xc0 (fc_HasText n.kind) X0)), (5, X (Xc0 (fc_flowErrorX n.flow (hasT n.kind) (by assumption)) X0))]] [] (fun z0 : Int => (VI z0, [])) _ _ e5
     ·
      refine .bp [.r [(2, X (Xc0 (fc_HasGrid n.kind) X0))]] (hasG n.kind) (fun h13 => ?_) (fun h13 => ?_)
      ·
       refine .bp [.r [(2, X (Xc0 (fc_gridError n.grid (by omega) (by assumption)) X0))], .r []] ((gridE n.grid) != 0) (fun h15 => ?_) (fun h15 => ?_)
       ·
        have e6 : ((nodeE n) : Int) = (gridE n.grid) := by
         (try rw [errA_eq false n.attrs _ 0 rfl] at *)
         unfold nodeE
         (repeat' split) <;> first | rfl | omega | (exfalso; omega) | (simp_all; done) | (exfalso; simp_all; done) | (exfalso; simp_all; omega) | grind
        exact .finE [.r []] [] (fun z0 : Int => (VI z0, [])) _ _ e6
       ·
        have e7 : ((nodeE n) : Int) = (cellK n.kind n.grid.cells 0) := by
         (try rw [errA_eq false n.attrs _ 0 rfl] at *)
         unfold nodeE
         (repeat' split) <;> first | rfl | omega | (exfalso; omega) | (simp_all; done) | (exfalso; simp_all; done) | (exfalso; simp_all; omega) | grind
        exact .finE [.r [(5, X (Xc0 (fc_cellK n.kind n.grid.cells) X0))]] [] (fun z0 : Int => (VI z0, [])) _ _ e7
      ·
       have e8 : ((nodeE n) : Int) = (drawE n.draw 0) := by
        (try rw [errA_eq false n.attrs _ 0 rfl] at *)
        unfold nodeE
        (repeat' split) <;> first | rfl | omega | (exfalso; omega) | (simp_all; done) | (exfalso; simp_all; done) | (exfalso; simp_all; omega) | grind
       exact .finE [.r [(2, X (Xc0 (fc_drawR n.draw (by assumption)) X0))]] [] (fun z0 : Int => (VI z0, [])) _ _ e8

theorem fc_findR (d : Doc) (k : Int) (hl : d.nodes.length ≤ 1048576) : FC Tryz.prog 71 [.t (docT d), VI k] (app emp []) (VI (findD d.nodes k 0)) (app emp []) := by
 refine .go Tryz.f71 ?_
 refine .loop (α := Nat) [.r [], .r [(2, X (Xl nodeT d.nodes))]] 48 (fun i => ([(1, VI k), (2, .ptr 0 0), (8, VI (d.nodes.length : Int)), (9, VI (i : Int))], [(0, .box [VL 9 nodeT d.nodes])])) (fun i => i ≤ d.nodes.length ∧ findD d.nodes k 0 = findD d.nodes k i) (fun i => d.nodes.length - i) (0 : Nat) ?_ ?_
 ·
  exact ⟨by omega, rfl⟩
 rintro i I2 ih2
 try dsimp only at I2
 refine .bp [.r []] (decide ((i : Int) < (d.nodes.length : Int))) (fun h2 => ?_) (fun h2 => ?_)
 ·
  refine .bp [.r [], .r [(3, X (Xi nodeT d.nodes (i : Int)))]] ((((d.nodes.getD i default)).id) == k) (fun h4 => ?_) (fun h4 => ?_)
  ·
   have e1 : ((findD d.nodes k 0) : Int) = (i : Int) := by
    rw [I2.2, findD, if_pos (by omega), if_pos (by omega)]
   exact .finE [.r []] [] (fun z0 : Int => (VI z0, [])) _ _ e1
  ·
   refine .back [.r [(0, X (Xn ((i : Int) + 1)))]] [(0, 0)] (ih2 ((i + 1) : Nat) ?_ ?_)
   ·
    exact ⟨by omega, by rw [I2.2, findD, if_pos (by omega), if_neg (by omega)]⟩
   ·
    ((try dsimp only); omega)
 ·
  have e2 : ((findD d.nodes k 0) : Int) = -1 := by
   rw [I2.2, findD, if_neg (by omega)]
  exact .finE [.r []] [] (fun z0 : Int => (VI z0, [])) _ _ e2

theorem fc_refsOf (n : Node) (hb : NodeB n) : FC Tryz.prog 31 [.t (nodeT n)] (app emp []) (VL 1 intT (refsN n)) (app emp []) := by
 refine .go Tryz.f31 ?_
 have b1 := hb.fl2
 have b2 := hb.ce2
 refine .loop (α := Nat × (List Int)) [.r [], .r [], .r [(2, X (Xl elemT n.flow))], .le (.nR 3 1)] 57 (fun (i, o) => ([(1, .ptr 0 0), (3, .row 56 o.length), (8, VI (n.flow.length : Int)), (9, VI (i : Int))], [(0, .box [VI n.id, VI n.kind, VL 2 attrT n.attrs, VL 3 elemT n.flow, VI n.grid.rows, VI n.grid.cols, VL 5 cellT n.grid.cells, VL 4 rectT n.grid.merges, VL 8 dopT n.draw]), (56, OR 1 intT o)])) (fun (i, o) => i ≤ n.flow.length ∧ o = refsF (n.flow.take i)) (fun (i, o) => n.flow.length - i) (0, []) ?_ ?_
 ·
  exact ⟨by omega, rfl⟩
 rintro ⟨i, o⟩ I3 ih3
 try dsimp only at I3
 have ol : o.length ≤ i := by rw [I3.2]; unfold refsF; exact Nat.le_trans (List.length_filterMap_le _ _) (by rw [List.length_take]; omega)
 refine .bp [.r []] (decide ((i : Int) < (n.flow.length : Int))) (fun h3 => ?_) (fun h3 => ?_)
 ·
  refine .bp [.r [], .r [(3, X (Xi elemT n.flow (i : Int)))]] ((((n.flow.getD i default)).ref) != 0) (fun h5 => ?_) (fun h5 => ?_)
  ·
   refine .back [.r [(4, X (Xi elemT n.flow (i : Int))), (8, X (rowC intT [((n.flow.getD i default)).ref] (Xap 1 intT 56 o [((n.flow.getD i default)).ref])))], .r [(0, X (Xn ((i : Int) + 1)))]] [(0, 0), (56, 56)] (ih3 ((i + 1), (o ++ [((n.flow.getD i default)).ref])) ?_ ?_)
   ·
    refine ⟨by omega, ?_⟩
    rw [I3.2]; unfold refsF; rw [filM_succ _ (by omega)]
    first | (rw [if_pos (by omega)]; rfl) | (rw [if_neg (by omega)]; simp)
   ·
    ((try dsimp only); omega)
  ·
   refine .back [.r [(0, X (Xn ((i : Int) + 1)))]] [(0, 0), (56, 56)] (ih3 ((i + 1), o) ?_ ?_)
   ·
    refine ⟨by omega, ?_⟩
    rw [I3.2]; unfold refsF; rw [filM_succ _ (by omega)]
    first | (rw [if_pos (by omega)]; rfl) | (rw [if_neg (by omega)]; simp)
   ·
    ((try dsimp only); omega)
 ·
  refine .loop (α := Nat × (List Int)) [.r [(3, X (Xl cellT n.grid.cells))]] 105 (fun (j, p) => ([(1, .ptr 0 0), (3, .row 56 p.length), (32, VI (n.grid.cells.length : Int)), (33, VI (j : Int))], [(0, .box [VI n.id, VI n.kind, VL 2 attrT n.attrs, VL 3 elemT n.flow, VI n.grid.rows, VI n.grid.cols, VL 5 cellT n.grid.cells, VL 4 rectT n.grid.merges, VL 8 dopT n.draw]), (56, OR 1 intT p)])) (fun (j, p) => j ≤ n.grid.cells.length ∧ p = refsF n.flow ++ refsC (n.grid.cells.take j)) (fun (j, p) => n.grid.cells.length - j) (0, o) ?_ ?_
  ·
   exact ⟨by omega, by rw [I3.2, List.take_of_length_le (by omega)]; simp [refsC]⟩
  rintro ⟨j, p⟩ I9 ih9
  try dsimp only at I9
  have ol2 : p.length ≤ n.flow.length + j := by rw [I9.2, List.length_append]; unfold refsF refsC; have q1 := List.length_filterMap_le (fun x : Elem => if x.ref ≠ 0 then some x.ref else none) n.flow; have q2 := List.length_filterMap_le (fun x : Cell => if x.ref ≠ 0 then some x.ref else none) (n.grid.cells.take j); rw [List.length_take] at q2; omega
  refine .bp [.r []] (decide ((j : Int) < (n.grid.cells.length : Int))) (fun h9 => ?_) (fun h9 => ?_)
  ·
   refine .bp [.r [], .r [(4, X (Xi cellT n.grid.cells (j : Int)))]] ((((n.grid.cells.getD j default)).ref) != 0) (fun h11 => ?_) (fun h11 => ?_)
   ·
    refine .back [.r [(5, X (Xi cellT n.grid.cells (j : Int))), (9, X (rowC intT [((n.grid.cells.getD j default)).ref] (Xap 1 intT 56 p [((n.grid.cells.getD j default)).ref])))], .r [(0, X (Xn ((j : Int) + 1)))]] [(0, 0), (56, 56)] (ih9 ((j + 1), (p ++ [((n.grid.cells.getD j default)).ref])) ?_ ?_)
    ·
     refine ⟨by omega, ?_⟩
     rw [I9.2]; unfold refsC; rw [filM_succ _ (by omega), ← List.append_assoc]
     first | (rw [if_pos (by omega)]; rfl) | (rw [if_neg (by omega)]; simp)
    ·
     ((try dsimp only); omega)
   ·
    refine .back [.r [(0, X (Xn ((j : Int) + 1)))]] [(0, 0), (56, 56)] (ih9 ((j + 1), p) ?_ ?_)
    ·
     refine ⟨by omega, ?_⟩
     rw [I9.2]; unfold refsC; rw [filM_succ _ (by omega), ← List.append_assoc]
     first | (rw [if_pos (by omega)]; rfl) | (rw [if_neg (by omega)]; simp)
    ·
     ((try dsimp only); omega)
  ·
   have e1 : ((refsN n) : List Int) = p := by
    rw [I9.2, List.take_of_length_le (by omega)]; rfl
   exact .finE [.r [], .le (.fr 2 [(p.length : Nat) = (List.map intT p).length] ⟨lm, trivial⟩)] [] (fun z0 : List Int => (VL 1 intT z0, [])) _ _ e1

theorem fc_refsR (d : Doc) (k : Int) (rs : List Int) (hl : d.nodes.length ≤ 1048576) : FC Tryz.prog 30 [.t (docT d), VI k, VL 1 intT rs] (app emp []) (VI (refsE d.nodes k rs 0)) (app emp []) := by
 refine .go Tryz.f30 ?_
 refine .len 2 (fun hl2 => ?_)
 refine .loop (α := Nat) [.r [], .r [(1, X (Xl intT rs))]] 40 (fun i => ([(1, VI k), (2, VL 1 intT rs), (3, .ptr 0 0), (10, VI (rs.length : Int)), (11, VI (i : Int))], [(0, .box [VL 9 nodeT d.nodes])])) (fun i => i ≤ rs.length ∧ refsE d.nodes k rs 0 = refsE d.nodes k rs i) (fun i => rs.length - i) (0 : Nat) ?_ ?_
 ·
  exact ⟨by omega, rfl⟩
 rintro i I2 ih2
 try dsimp only at I2
 refine .bp [.r []] (decide ((i : Int) < (rs.length : Int))) (fun h2 => ?_) (fun h2 => ?_)
 ·
  have hlt := findD_lt (l := d.nodes) (k := rs.getD i default) _ 0 rfl
  refine .bp [.r [], .r [(3, X (Xi intT rs (i : Int))), (5, X (Xc0 (fc_findR d (rs.getD i default) (by assumption)) X0))], .r []] (decide ((findD (d).nodes (rs.getD i default) 0) < 0)) (fun h5 => ?_) (fun h5 => ?_)
  ·
   have e1 : ((refsE d.nodes k rs 0) : Int) = 7 := by
    exact I2.2.trans (refsE_none (by omega) h5)
   exact .finE [.r []] [] (fun z0 : Int => (VI z0, [])) _ _ e1
  ·
   refine .bp [.r [(4, X (Xi nodeT d.nodes (findD (d).nodes (rs.getD i default) 0))), (7, X (Xc0 (fc_permR k (((d.nodes.getD (Int.toNat (findD (d).nodes (rs.getD i default) 0)) default)).kind)) X0))]] (!(permB k (((d.nodes.getD (Int.toNat (findD (d).nodes (rs.getD i default) 0)) default)).kind))) (fun h7 => ?_) (fun h7 => ?_)
   ·
    have e2 : ((refsE d.nodes k rs 0) : Int) = 8 := by
     exact I2.2.trans (refsE_kind (by omega) h5 h7)
    exact .finE [.r []] [] (fun z0 : Int => (VI z0, [])) _ _ e2
   ·
    refine .back [.r [(0, X (Xn ((i : Int) + 1)))]] [(0, 0)] (ih2 ((i + 1) : Nat) ?_ ?_)
    ·
     exact ⟨by omega, I2.2.trans (refsE_next (by omega) h5 h7)⟩
    ·
     ((try dsimp only); omega)
 ·
  have e3 : ((refsE d.nodes k rs 0) : Int) = 0 := by
   exact I2.2.trans (refsE_end (by omega))
  exact .finE [.r []] [] (fun z0 : Int => (VI z0, [])) _ _ e3
end Go.Ch
end
section
set_option linter.unusedVariables false
set_option linter.unusedSimpArgs false
set_option maxRecDepth 100000
set_option maxHeartbeats 4000000
open Go Go.Proofs Go.Ab
namespace Go.Ch
theorem fc_docR (d : Doc) (hb : DocB d) : FC Tryz.prog 8 [.t (docT d)] (app emp []) (VI (docE d)) (app emp []) := by
 refine .go Tryz.f8 ?_
 have hl := hb.len
 refine .bp [.r [], .r [(2, X (Xl nodeT d.nodes))]] ((d.nodes.length : Int) == 0) (fun h1 => ?_) (fun h1 => ?_)
 ·
  have e1 : ((docE d) : Int) = 11 := by
   exact docE_short (by omega)
  exact .finE [.r []] [] (fun z0 : Int => (VI z0, [])) _ _ e1
 ·
  refine .loop (α := Nat) [.r [(2, X (Xl nodeT d.nodes))]] 80 (fun i => ([(1, .ptr 0 0), (13, VI (d.nodes.length : Int)), (14, VI (i : Int))], [(0, .box [VL 9 nodeT d.nodes])])) (fun i => i ≤ d.nodes.length ∧ nodesE d.nodes 0 = nodesE d.nodes i) (fun i => d.nodes.length - i) (0 : Nat) ?_ ?_
  ·
   exact ⟨by omega, rfl⟩
  rintro i I4 ih4
  try dsimp only at I4
  refine .bp [.r []] (decide ((i : Int) < (d.nodes.length : Int))) (fun h4 => ?_) (fun h4 => ?_)
  ·
   have hn := hb.all _ (getDN_mem (l := d.nodes) (i := i) (by omega))
   refine .bp [.r [], .r [(3, X (Xi nodeT d.nodes (i : Int))), (5, X (Xc0 (fc_nodeR ((d.nodes.getD i default)) (by assumption)) X0))], .r []] ((nodeE ((d.nodes.getD i default))) != 0) (fun h7 => ?_) (fun h7 => ?_)
   ·
    have e2 : ((docE d) : Int) = (nodeE ((d.nodes.getD i default))) := by
     exact docE_node (by omega) (I4.2.trans (nodesE_bad (by omega) h7)) h7
    exact .finE [.r []] [] (fun z0 : Int => (VI z0, [])) _ _ e2
   ·
    refine .bp [.r [(4, Xv 1 ((i : Int) == 0) X0), (5, Xv 1 ((i : Int) == 0) (Xi nodeT d.nodes 0)), (6, Xv 1 ((i : Int) == 0) X0), (7, Xv 1 ((i : Int) == 0) X0), (8, Xv 1 ((i : Int) == 0) X0), (9, X (Xk ((i : Int) == 0))), (12, Xv 1 (!(((i : Int) == 0) && ((((d.nodes.getD 0 default)).id) != 1))) X0), (13, Xv 1 (!(((i : Int) == 0) && ((((d.nodes.getD 0 default)).id) != 1))) X0), (15, Xv 1 ((!(((i : Int) == 0) && ((((d.nodes.getD 0 default)).id) != 1))) && (decide ((i : Int) > 0))) X0), (17, Xv 2 ((!(((i : Int) == 0) && ((((d.nodes.getD 0 default)).id) != 1))) && (decide ((i : Int) > 0))) (Xi nodeT d.nodes (i : Int))), (18, Xv 1 ((!(((i : Int) == 0) && ((((d.nodes.getD 0 default)).id) != 1))) && (decide ((i : Int) > 0))) X0), (19, Xv 1 ((!(((i : Int) == 0) && ((((d.nodes.getD 0 default)).id) != 1))) && (decide ((i : Int) > 0))) X0), (21, Xv 1 ((!(((i : Int) == 0) && ((((d.nodes.getD 0 default)).id) != 1))) && (decide ((i : Int) > 0))) X0), (23, Xv 1 ((!(((i : Int) == 0) && ((((d.nodes.getD 0 default)).id) != 1))) && (decide ((i : Int) > 0))) (Xn ((i : Int) - 1))), (24, Xv 2 ((!(((i : Int) == 0) && ((((d.nodes.getD 0 default)).id) != 1))) && (decide ((i : Int) > 0))) (Xi' nodeT d.nodes ((i : Int) - 1) (i - 1))), (25, Xv 1 ((!(((i : Int) == 0) && ((((d.nodes.getD 0 default)).id) != 1))) && (decide ((i : Int) > 0))) X0), (26, Xv 1 ((!(((i : Int) == 0) && ((((d.nodes.getD 0 default)).id) != 1))) && (decide ((i : Int) > 0))) X0), (27, Xv 2 ((!(((i : Int) == 0) && ((((d.nodes.getD 0 default)).id) != 1))) && (decide ((i : Int) > 0))) X0), (28, Xka (!(((i : Int) == 0) && ((((d.nodes.getD 0 default)).id) != 1))) (decide ((i : Int) > 0))), (29, X (Xk' (((i : Int) == 0) && ((((d.nodes.getD 0 default)).id) != 1))))]] ((((i : Int) == 0) && ((((d.nodes.getD 0 default)).id) != 1)) || (decide ((i : Int) > 0) && decide ((((d.nodes.getD i default)).id) ≤ (((d.nodes.getD (i - 1) default)).id)))) (fun h9 => ?_) (fun h9 => ?_)
    ·
     have e3 : ((docE d) : Int) = 5 := by
      exact docE_node (by omega) (I4.2.trans (nodesE_ord (by omega) h7 (by omega))) (by decide)
     exact .finE [.r []] [] (fun z0 : Int => (VI z0, [])) _ _ e3
    ·
     refine .back [.r [(0, X (Xn ((i : Int) + 1)))]] [(0, 0)] (ih4 ((i + 1) : Nat) ?_ ?_)
     ·
      exact ⟨by omega, I4.2.trans (nodesE_next (by omega) h7 (by omega))⟩
     ·
      ((try dsimp only); omega)
  ·
   refine .loop (α := Nat) [.r [(2, X (Xl nodeT d.nodes))]] 120 (fun j => ([(1, .ptr 0 0), (59, VI (d.nodes.length : Int)), (60, VI (j : Int))], [(0, .box [VL 9 nodeT d.nodes])])) (fun j => j ≤ d.nodes.length ∧ allRefsE d.nodes 0 = allRefsE d.nodes j) (fun j => d.nodes.length - j) (0 : Nat) ?_ ?_
   ·
    exact ⟨by omega, rfl⟩
   rintro j I13 ih13
   try dsimp only at I13
   refine .bp [.r []] (decide ((j : Int) < (d.nodes.length : Int))) (fun h13 => ?_) (fun h13 => ?_)
   ·
    have hn := hb.all _ (getDN_mem (l := d.nodes) (i := j) (by omega))
    refine .bp [.r [], .r [(4, X (Xi nodeT d.nodes (j : Int))), (10, X (Xi nodeT d.nodes (j : Int))), (12, X (Xc1 240 (fc_refsOf ((d.nodes.getD j default)) (by assumption)) X0)), (13, X (Xc0 (fc_refsR d (((d.nodes.getD j default)).kind) (refsN ((d.nodes.getD j default))) (by assumption)) X0))], .r []] ((refsE (d).nodes (((d.nodes.getD j default)).kind) (refsN ((d.nodes.getD j default))) 0) != 0) (fun h16 => ?_) (fun h16 => ?_)
    ·
     have e4 : ((docE d) : Int) = (refsE (d).nodes (((d.nodes.getD j default)).kind) (refsN ((d.nodes.getD j default))) 0) := by
      exact docE_refs (by omega) (I4.2.trans (nodesE_end (by omega))) (I13.2.trans (allR_bad (by omega) h16))
     exact .finE [.r []] [] (fun z0 : Int => (VI z0, [])) _ _ e4
    ·
     refine .back [.r [(0, X (Xn ((j : Int) + 1)))]] [(0, 0)] (ih13 ((j + 1) : Nat) ?_ ?_)
     ·
      exact ⟨by omega, I13.2.trans (allR_next (by omega) h16)⟩
     ·
      ((try dsimp only); omega)
   ·
    have e5 : ((docE d) : Int) = 0 := by
     exact docE_refs (by omega) (I4.2.trans (nodesE_end (by omega))) (I13.2.trans (allR_end (by omega)))
    exact .finE [.r []] [] (fun z0 : Int => (VI z0, [])) _ _ e5

end Go.Ch
end
section
set_option linter.unusedVariables false
set_option linter.unusedSimpArgs false
set_option maxRecDepth 100000
set_option maxHeartbeats 4000000
open Go Go.Proofs Go.Ab
namespace Go.Ch
theorem fc_find1 (n : Node) (k : Int) : FC Tryz.prog 113 [.t (nodeT n), VI k] (app emp []) (VI (cmpN9 n k)) (app emp []) := by
 refine .go Tryz.f113 ?_
 refine .bp [.r [], .r []] (decide (n.id < k)) (fun h1 => ?_) (fun h1 => ?_)
 ·
  have e1 : ((cmpN9 n k) : Int) = -1 := by
   unfold cmpN9; ((repeat' split) <;> first | rfl | omega | (simp_all; done) | (simp_all; omega))
  exact .finE [.r []] [] (fun z0 : Int => (VI z0, [])) _ _ e1
 ·
  refine .bp [.r []] (decide (n.id > k)) (fun h3 => ?_) (fun h3 => ?_)
  ·
   have e2 : ((cmpN9 n k) : Int) = 1 := by
    unfold cmpN9; ((repeat' split) <;> first | rfl | omega | (simp_all; done) | (simp_all; omega))
   exact .finE [.r []] [] (fun z0 : Int => (VI z0, [])) _ _ e2
  ·
   have e3 : ((cmpN9 n k) : Int) = 0 := by
    unfold cmpN9; ((repeat' split) <;> first | rfl | omega | (simp_all; done) | (simp_all; omega))
   exact .finE [.r []] [] (fun z0 : Int => (VI z0, [])) _ _ e3

theorem fc_bsN (l : List Node) (k : Int) (hn : l.length ≤ 1048576) (hs : SortN l) : FC Tryz.prog 112 [VL 9 nodeT l, VI k, .fn 113 []] (app emp []) (.tup [VI (lobN l k : Int), VB (hasN l k)]) (app emp []) := by
 refine .go Tryz.f112 ?_
 refine .len 0 (fun hl0 => ?_)
 obtain ⟨s1, s2, s3⟩ := lobN_all l k
 refine .loop (α := Nat × Nat) [.r [], .r [(1, X (Xl nodeT l))], .r []] 64 (fun (i, j) => ([(0, VL 9 nodeT l), (1, VI k), (2, .fn 113 []), (8, VI (l.length : Int)), (9, VI (i : Int)), (10, VI (j : Int))], [])) (fun (i, j) => i ≤ lobN l k ∧ lobN l k ≤ j ∧ j ≤ l.length) (fun (i, j) => j - i) (0, l.length) ?_ ?_
 ·
  exact ⟨by omega, by omega, by omega⟩
 rintro ⟨i, j⟩ I3 ih3
 try dsimp only at I3
 refine .bp [.r []] (decide ((i : Int) < (j : Int))) (fun h3 => ?_) (fun h3 => ?_)
 ·
  obtain ⟨m, hm⟩ : ∃ m : Nat, ((i : Int) + (j : Int)) / 2 = (m : Int) := ⟨(i + j) / 2, by omega⟩
  refine .bp [.r [(2, X (Xn ((i : Int) + (j : Int)))), (3, X (Xcv IntKind.u64 ((i : Int) + (j : Int))) (by simp [IntKind.wrap, IntKind.bits, IntKind.signed]; omega)), (4, X (Xsh IntKind.u64 1 (((i : Int) + (j : Int)).fdiv (2 ^ (min (1 : Int).toNat IntKind.u64.bits))) (((i : Int) + (j : Int)) / 2)) ⟨by decide, (by rw [Int.fdiv_eq_ediv_of_nonneg _ (by decide)]; rfl)⟩), (5, X (Xn (((i : Int) + (j : Int)) / 2)))], .le (.eq 11 (VI (((i : Int) + (j : Int)) / 2)) (VI (m : Int)) (.of_eq (by rw [← hm]))), .r [(3, X (Xi nodeT l (m : Int))), (6, X (Xc0 (fc_find1 ((l.getD m default)) k) X0))]] (decide ((cmpN9 ((l.getD m default)) k) < 0)) (fun h5 => ?_) (fun h5 => ?_)
  ·
   refine .back [.r [(1, X (Xn ((m : Int) + 1)))]] [] (ih3 ((m + 1), j) ?_ ?_)
   ·
    have := lobN_lt hs (m := m) (by omega) (cmpN9_lt.1 h5)
    exact ⟨by omega, by omega, by omega⟩
   ·
    ((try dsimp only); omega)
  ·
   refine .back [.r []] [] (ih3 (i, m) ?_ ?_)
   ·
    have := lobN_ge (l := l) (k := k) (m := m) (fun q => by have := cmpN9_lt.2 q; omega)
    exact ⟨by omega, by omega, by omega⟩
   ·
    ((try dsimp only); omega)
 ·
  have hi : i = lobN l k := by omega
  have e1 : ((lobN l k : Int) : Int) = (i : Int) := by
   first | omega | (unfold hasN; rw [← hi])
  have e2 : ((hasN l k) : Bool) = (decide ((i : Int) < (l.length : Int)) && ((cmpN9 ((l.getD i default)) k) == 0)) := by
   first | omega | (unfold hasN; rw [← hi])
  exact .finE [.r [(8, Xv 2 (decide ((i : Int) < (l.length : Int))) (Xi nodeT l (i : Int))), (9, Xv 1 (decide ((i : Int) < (l.length : Int))) X0), (11, Xv 3 (decide ((i : Int) < (l.length : Int))) (Xc0 (fc_find1 ((l.getD i default)) k) X0)), (12, Xv 1 (decide ((i : Int) < (l.length : Int))) X0), (13, X (Xk (decide ((i : Int) < (l.length : Int)))))]] [] (fun ((z0, z1) : Int × Bool) => (.tup [VI z0, VB z1], [])) _ _ (pr e1 e2)

theorem fc_findN (d : Doc) (k : Int) (hn : d.nodes.length ≤ 1048576) (hs : SortN d.nodes) : FC Tryz.prog 76 [.t (docT d), VI k] (app emp []) (.tup [VI (lobN d.nodes k : Int), VB (hasN d.nodes k)]) (app emp []) := by
 refine .go Tryz.f76 ?_
 exact .fin [.r [], .r [(3, X (Xc0 (fc_bsN d.nodes k (by omega) (by assumption)) X0))]] []

theorem fc_refsFl (f : List Elem) (hn : f.length ≤ 1048576) : FC Tryz.prog 77 [VL 3 elemT f] (app emp []) (.row 0 ((refsF f).length)) (app emp [(0, OR 1 intT (refsF f))]) := by
 refine .go Tryz.f77 ?_
 refine .len 0 (fun hl0 => ?_)
 refine .loop (α := Nat × (List Int)) [.r [], .r [], .r [(1, X (Xl elemT f))], .le (.nR 3 1)] 41 (fun (i, o) => ([(3, .row 40 o.length), (6, VL 3 elemT f), (7, VI (f.length : Int)), (8, VI (i : Int))], [(40, OR 1 intT o)])) (fun (i, o) => i ≤ f.length ∧ o = refsF (f.take i)) (fun (i, o) => f.length - i) (0, []) ?_ ?_
 ·
  exact ⟨by omega, rfl⟩
 rintro ⟨i, o⟩ I3 ih3
 try dsimp only at I3
 have ol : o.length ≤ i := by rw [I3.2]; unfold refsF; exact Nat.le_trans (List.length_filterMap_le _ _) (by rw [List.length_take]; omega)
 refine .bp [.r []] (decide ((i : Int) < (f.length : Int))) (fun h3 => ?_) (fun h3 => ?_)
 ·
  refine .bp [.r [(0, X (Xi elemT f (i : Int)))], .r []] ((((f.getD i default)).ref) != 0) (fun h5 => ?_) (fun h5 => ?_)
  ·
   refine .back [.r [(4, X (rowC intT [((f.getD i default)).ref] (Xap 1 intT 40 o [((f.getD i default)).ref])))], .r [(0, X (Xn ((i : Int) + 1)))]] [(40, 40)] (ih3 ((i + 1), (o ++ [((f.getD i default)).ref])) ?_ ?_)
   ·
    refine ⟨by omega, ?_⟩
    rw [I3.2]; unfold refsF; rw [filM_succ _ (by omega)]
    first | (rw [if_pos (by omega)]; rfl) | (rw [if_neg (by omega)]; simp)
   ·
    ((try dsimp only); omega)
  ·
   refine .back [.r [(0, X (Xn ((i : Int) + 1)))]] [(40, 40)] (ih3 ((i + 1), o) ?_ ?_)
   ·
    refine ⟨by omega, ?_⟩
    rw [I3.2]; unfold refsF; rw [filM_succ _ (by omega)]
    first | (rw [if_pos (by omega)]; rfl) | (rw [if_neg (by omega)]; simp)
   ·
    ((try dsimp only); omega)
 ·
  have e1 : ((refsF f) : List Int) = o := by
   rw [I3.2, List.take_of_length_le (by omega)]
  have e2 : ((refsF f).length : Nat) = o.length := by
   rw [I3.2, List.take_of_length_le (by omega)]
  exact .finE [.r []] [(40, 0)] (fun ((z0, z1) : (List Int) × Nat) => (.row 0 z1, [(0, OR 1 intT z0)])) _ _ (pr e1 e2)

theorem fc_refsNd (n : Node) (hb : NodeB n) : FC Tryz.prog 47 [.t (nodeT n)] (app emp []) (VL 1 intT (refsN n)) (app emp []) := by
 refine .go Tryz.f47 ?_
 have b1 := hb.fl2
 have b2 := hb.ce2
 have b3 : (refsF n.flow).length ≤ n.flow.length := List.length_filterMap_le _ _
 refine .loop (α := Nat × (List Int)) [.r [], .r [(2, X (Xc1 32 (fc_refsFl n.flow (by omega)) X0))], .r [(3, X (Xl cellT n.grid.cells))]] 88 (fun (j, p) => ([(3, .row 32 p.length), (11, VL 5 cellT n.grid.cells), (12, VI (n.grid.cells.length : Int)), (13, VI (j : Int))], [(32, OR 1 intT p)])) (fun (j, p) => j ≤ n.grid.cells.length ∧ p = refsF n.flow ++ refsC (n.grid.cells.take j)) (fun (j, p) => n.grid.cells.length - j) (0, (refsF n.flow)) ?_ ?_
 ·
  exact ⟨by omega, by simp [refsC]⟩
 rintro ⟨j, p⟩ I3 ih3
 try dsimp only at I3
 have ol2 : p.length ≤ n.flow.length + j := by rw [I3.2, List.length_append]; unfold refsC; have q2 := List.length_filterMap_le (fun x : Cell => if x.ref ≠ 0 then some x.ref else none) (n.grid.cells.take j); rw [List.length_take] at q2; omega
 refine .bp [.r []] (decide ((j : Int) < (n.grid.cells.length : Int))) (fun h3 => ?_) (fun h3 => ?_)
 ·
  refine .bp [.r [(0, X (Xi cellT n.grid.cells (j : Int)))], .r []] ((((n.grid.cells.getD j default)).ref) != 0) (fun h5 => ?_) (fun h5 => ?_)
  ·
   refine .back [.r [(4, X (rowC intT [((n.grid.cells.getD j default)).ref] (Xap 1 intT 32 p [((n.grid.cells.getD j default)).ref])))], .r [(0, X (Xn ((j : Int) + 1)))]] [(32, 32)] (ih3 ((j + 1), (p ++ [((n.grid.cells.getD j default)).ref])) ?_ ?_)
   ·
    refine ⟨by omega, ?_⟩
    rw [I3.2]; unfold refsC; rw [filM_succ _ (by omega), ← List.append_assoc]
    first | (rw [if_pos (by omega)]; rfl) | (rw [if_neg (by omega)]; simp)
   ·
    ((try dsimp only); omega)
  ·
   refine .back [.r [(0, X (Xn ((j : Int) + 1)))]] [(32, 32)] (ih3 ((j + 1), p) ?_ ?_)
   ·
    refine ⟨by omega, ?_⟩
    rw [I3.2]; unfold refsC; rw [filM_succ _ (by omega), ← List.append_assoc]
    first | (rw [if_pos (by omega)]; rfl) | (rw [if_neg (by omega)]; simp)
   ·
    ((try dsimp only); omega)
 ·
  have e1 : ((refsN n) : List Int) = p := by
   rw [I3.2, List.take_of_length_le (by omega)]; rfl
  exact .finE [.r [], .le (.fr 2 [(p.length : Nat) = (List.map intT p).length] ⟨lm, trivial⟩)] [] (fun z0 : List Int => (VL 1 intT z0, [])) _ _ e1
end Go.Ch
end
section
set_option linter.unusedVariables false
set_option linter.unusedSimpArgs false
set_option maxRecDepth 100000
set_option maxHeartbeats 4000000
open Go Go.Proofs Go.Ab
namespace Go.Ch
theorem fc_idxI (l : List Int) (x : Int) : FC Tryz.prog 81 [VL 1 intT l, VI x] (app emp []) (VI (idxF (fun y => x == y) l 0)) (app emp []) := by
 refine .go Tryz.f81 ?_
 refine .len 0 (fun hl0 => ?_)
 refine .loop (α := Nat) [.r [], .r [(1, X (Xl intT l))]] 32 (fun i => ([(0, VL 1 intT l), (1, VI x), (7, VI (l.length : Int)), (8, VI (i : Int))], [])) (fun i => i ≤ l.length ∧ idxF (fun y => x == y) l 0 = idxF (fun y => x == y) l i) (fun i => l.length - i) (0 : Nat) ?_ ?_
 ·
  exact ⟨by omega, rfl⟩
 rintro i I2 ih2
 try dsimp only at I2
 refine .bp [.r []] (decide ((i : Int) < (l.length : Int))) (fun h2 => ?_) (fun h2 => ?_)
 ·
  refine .bp [.r [], .r [(3, X (Xi intT l (i : Int)))]] (x == (l.getD i default)) (fun h4 => ?_) (fun h4 => ?_)
  ·
   have e1 : ((idxF (fun y => x == y) l 0) : Int) = (i : Int) := by
    rw [I2.2, idxF, if_pos (by omega), if_pos (by simpa using h4)]
   exact .finE [.r []] [] (fun z0 : Int => (VI z0, [])) _ _ e1
  ·
   refine .back [.r [(0, X (Xn ((i : Int) + 1)))]] [] (ih2 ((i + 1) : Nat) ?_ ?_)
   ·
    exact ⟨by omega, by rw [I2.2, idxF, if_pos (by omega), if_neg (by simpa using h4)]⟩
   ·
    ((try dsimp only); omega)
 ·
  have e2 : ((idxF (fun y => x == y) l 0) : Int) = -1 := by
   rw [I2.2, idxF, if_neg (by omega)]
  exact .finE [.r []] [] (fun z0 : Int => (VI z0, [])) _ _ e2

theorem fc_hasI (l : List Int) (x : Int) : FC Tryz.prog 43 [VL 1 intT l, VI x] (app emp []) (VB (l.any (fun y => x == y))) (app emp []) := by
 refine .go Tryz.f43 ?_
 refine .len 0 (fun hl0 => ?_)
 have e1 : ((l.any (fun y => x == y)) : Bool) = decide ((idxF (fun y => x == y) l 0) ≥ 0) := by
  rw [Bool.eq_iff_iff]; simp only [decide_eq_true_eq, ge_iff_le]; rw [idxF_any]
 exact .finE [.r [], .r [(2, X (Xc0 (fc_idxI l x) X0))]] [] (fun z0 : Bool => (VB z0, [])) _ _ e1

theorem fc_permN (p k : Int) : FC Tryz.prog 91 [VI p, VI k] (app emp []) (VB (permB p k)) (app emp []) := by
 refine .go Tryz.f91 ?_
 refine .bp [.r [], .r [], .r [], .r []] (p == 0) (fun h3 => ?_) (fun h3 => ?_)
 ·
  have e1 : ((permB p k) : Bool) = (([1, 6, 7, 10, 11, 12]).any (fun y => k == y)) := by
   rw [Bool.eq_iff_iff]; unfold permB hasT; simp only [List.any_cons, List.any_nil, Bool.or_false, Bool.or_eq_true, beq_iff_eq, Bool.false_eq_true, false_iff, iff_false]; (repeat' split) <;> (try simp only [Bool.or_eq_true, beq_iff_eq, Bool.false_eq_true, false_iff]) <;> first | omega | (simp; done)
  exact .finE [.r [], .r [(2, X (Xc0 (fc_hasI [1, 6, 7, 10, 11, 12] k) (rowC intT [1, 6, 7, 10, 11, 12] X0)))]] [] (fun z0 : Bool => (VB z0, [])) _ _ e1
 ·
  refine .bp [.r []] (p == 1) (fun h5 => ?_) (fun h5 => ?_)
  ·
   have e2 : ((permB p k) : Bool) = (([2, 4, 5, 10]).any (fun y => k == y)) := by
    rw [Bool.eq_iff_iff]; unfold permB hasT; simp only [List.any_cons, List.any_nil, Bool.or_false, Bool.or_eq_true, beq_iff_eq, Bool.false_eq_true, false_iff, iff_false]; (repeat' split) <;> (try simp only [Bool.or_eq_true, beq_iff_eq, Bool.false_eq_true, false_iff]) <;> first | omega | (simp; done)
   exact .finE [.r [], .r [(2, X (Xc0 (fc_hasI [2, 4, 5, 10] k) (rowC intT [2, 4, 5, 10] X0)))]] [] (fun z0 : Bool => (VB z0, [])) _ _ e2
  ·
   refine .bp [.r []] (p == 3) (fun h7 => ?_) (fun h7 => ?_)
   ·
    have e3 : ((permB p k) : Bool) = (([4, 5, 10]).any (fun y => k == y)) := by
     rw [Bool.eq_iff_iff]; unfold permB hasT; simp only [List.any_cons, List.any_nil, Bool.or_false, Bool.or_eq_true, beq_iff_eq, Bool.false_eq_true, false_iff, iff_false]; (repeat' split) <;> (try simp only [Bool.or_eq_true, beq_iff_eq, Bool.false_eq_true, false_iff]) <;> first | omega | (simp; done)
    exact .finE [.r [], .r [(2, X (Xc0 (fc_hasI [4, 5, 10] k) (rowC intT [4, 5, 10] X0)))]] [] (fun z0 : Bool => (VB z0, [])) _ _ e3
   ·
    refine .bp [.r []] (p == 4) (fun h9 => ?_) (fun h9 => ?_)
    ·
     refine .bp [] (p == 4) (fun h9 => ?_) (fun h9 => ?_)
     ·
      have e4 : ((permB p k) : Bool) = (([5]).any (fun y => k == y)) := by
       rw [Bool.eq_iff_iff]; unfold permB hasT; simp only [List.any_cons, List.any_nil, Bool.or_false, Bool.or_eq_true, beq_iff_eq, Bool.false_eq_true, false_iff, iff_false]; (repeat' split) <;> (try simp only [Bool.or_eq_true, beq_iff_eq, Bool.false_eq_true, false_iff]) <;> first | omega | (simp; done)
      exact .finE [.r [], .r [(2, X (Xc0 (fc_hasI [5] k) (rowC intT [5] X0)))]] [] (fun z0 : Bool => (VB z0, [])) _ _ e4
     ·
      refine .bp [.r []] (p == 2) (fun h12 => ?_) (fun h12 => ?_)
      ·
       have e5 : ((permB p k) : Bool) = (([3]).any (fun y => k == y)) := by
        rw [Bool.eq_iff_iff]; unfold permB hasT; simp only [List.any_cons, List.any_nil, Bool.or_false, Bool.or_eq_true, beq_iff_eq, Bool.false_eq_true, false_iff, iff_false]; (repeat' split) <;> (try simp only [Bool.or_eq_true, beq_iff_eq, Bool.false_eq_true, false_iff]) <;> first | omega | (simp; done)
       exact .finE [.r [], .r [(2, X (Xc0 (fc_hasI [3] k) (rowC intT [3] X0)))]] [] (fun z0 : Bool => (VB z0, [])) _ _ e5
      ·
       refine .bp [.r []] (p == 7) (fun h14 => ?_) (fun h14 => ?_)
       ·
        have e6 : ((permB p k) : Bool) = (([8, 9]).any (fun y => k == y)) := by
         rw [Bool.eq_iff_iff]; unfold permB hasT; simp only [List.any_cons, List.any_nil, Bool.or_false, Bool.or_eq_true, beq_iff_eq, Bool.false_eq_true, false_iff, iff_false]; (repeat' split) <;> (try simp only [Bool.or_eq_true, beq_iff_eq, Bool.false_eq_true, false_iff]) <;> first | omega | (simp; done)
        exact .finE [.r [], .r [(2, X (Xc0 (fc_hasI [8, 9] k) (rowC intT [8, 9] X0)))]] [] (fun z0 : Bool => (VB z0, [])) _ _ e6
       ·
        have e7 : ((permB p k) : Bool) = (([]).any (fun y => k == y)) := by
         rw [Bool.eq_iff_iff]; unfold permB hasT; simp only [List.any_cons, List.any_nil, Bool.or_false, Bool.or_eq_true, beq_iff_eq, Bool.false_eq_true, false_iff, iff_false]; (repeat' split) <;> (try simp only [Bool.or_eq_true, beq_iff_eq, Bool.false_eq_true, false_iff]) <;> first | omega | (simp; done)
        exact .finE [.r [(2, X (Xc0 (.nil 0 1 (fc_hasI [] k)) X0))]] [] (fun z0 : Bool => (VB z0, [])) _ _ e7
    ·
     refine .bp [.r []] (p == 12) (fun h10 => ?_) (fun h10 => ?_)
     ·
      have e8 : ((permB p k) : Bool) = (([5]).any (fun y => k == y)) := by
       rw [Bool.eq_iff_iff]; unfold permB hasT; simp only [List.any_cons, List.any_nil, Bool.or_false, Bool.or_eq_true, beq_iff_eq, Bool.false_eq_true, false_iff, iff_false]; (repeat' split) <;> (try simp only [Bool.or_eq_true, beq_iff_eq, Bool.false_eq_true, false_iff]) <;> first | omega | (simp; done)
      exact .finE [.r [], .r [(2, X (Xc0 (fc_hasI [5] k) (rowC intT [5] X0)))]] [] (fun z0 : Bool => (VB z0, [])) _ _ e8
     ·
      refine .bp [.r []] (p == 2) (fun h12 => ?_) (fun h12 => ?_)
      ·
       have e9 : ((permB p k) : Bool) = (([3]).any (fun y => k == y)) := by
        rw [Bool.eq_iff_iff]; unfold permB hasT; simp only [List.any_cons, List.any_nil, Bool.or_false, Bool.or_eq_true, beq_iff_eq, Bool.false_eq_true, false_iff, iff_false]; (repeat' split) <;> (try simp only [Bool.or_eq_true, beq_iff_eq, Bool.false_eq_true, false_iff]) <;> first | omega | (simp; done)
       exact .finE [.r [], .r [(2, X (Xc0 (fc_hasI [3] k) (rowC intT [3] X0)))]] [] (fun z0 : Bool => (VB z0, [])) _ _ e9
      ·
       refine .bp [.r []] (p == 7) (fun h14 => ?_) (fun h14 => ?_)
       ·
        have e10 : ((permB p k) : Bool) = (([8, 9]).any (fun y => k == y)) := by
         rw [Bool.eq_iff_iff]; unfold permB hasT; simp only [List.any_cons, List.any_nil, Bool.or_false, Bool.or_eq_true, beq_iff_eq, Bool.false_eq_true, false_iff, iff_false]; (repeat' split) <;> (try simp only [Bool.or_eq_true, beq_iff_eq, Bool.false_eq_true, false_iff]) <;> first | omega | (simp; done)
        exact .finE [.r [], .r [(2, X (Xc0 (fc_hasI [8, 9] k) (rowC intT [8, 9] X0)))]] [] (fun z0 : Bool => (VB z0, [])) _ _ e10
       ·
        have e11 : ((permB p k) : Bool) = (([]).any (fun y => k == y)) := by
         rw [Bool.eq_iff_iff]; unfold permB hasT; simp only [List.any_cons, List.any_nil, Bool.or_false, Bool.or_eq_true, beq_iff_eq, Bool.false_eq_true, false_iff, iff_false]; (repeat' split) <;> (try simp only [Bool.or_eq_true, beq_iff_eq, Bool.false_eq_true, false_iff]) <;> first | omega | (simp; done)
        exact .finE [.r [(2, X (Xc0 (.nil 0 1 (fc_hasI [] k)) X0))]] [] (fun z0 : Bool => (VB z0, [])) _ _ e11

theorem fc_refsCk (d : Doc) (k : Int) (rs : List Int) (hl : d.nodes.length ≤ 1048576) (hs : SortN d.nodes) : FC Tryz.prog 46 [.t (docT d), VI k, VL 1 intT rs] (app emp []) (VI (refsE d.nodes k rs 0)) (app emp []) := by
 refine .go Tryz.f46 ?_
 refine .len 2 (fun hl2 => ?_)
 refine .loop (α := Nat) [.r [], .r [(1, X (Xl intT rs))]] 40 (fun i => ([(1, VI k), (3, .ptr 0 0), (11, VL 1 intT rs), (12, VI (rs.length : Int)), (13, VI (i : Int))], [(0, .box [VL 9 nodeT d.nodes])])) (fun i => i ≤ rs.length ∧ refsE d.nodes k rs 0 = refsE d.nodes k rs i) (fun i => rs.length - i) (0 : Nat) ?_ ?_
 ·
  exact ⟨by omega, rfl⟩
 rintro i I2 ih2
 try dsimp only at I2
 refine .bp [.r []] (decide ((i : Int) < (rs.length : Int))) (fun h2 => ?_) (fun h2 => ?_)
 ·
  refine .bp [.r [(0, X (Xi intT rs (i : Int)))], .r [(2, X (Xc0 (fc_findN d (rs.getD i default) (by assumption) (by assumption)) X0))], .r []] (!(hasN (d).nodes (rs.getD i default))) (fun h5 => ?_) (fun h5 => ?_)
  ·
   have e1 : ((refsE d.nodes k rs 0) : Int) = 7 := by
    exact I2.2.trans (refsE_none (by omega) (find_no hs h5))
   exact .finE [.r []] [] (fun z0 : Int => (VI z0, [])) _ _ e1
  ·
   obtain ⟨q1, q2⟩ := hasN_iff.1 h5
   have hf := find_yes hs h5
   refine .bp [.r [(4, X (Xi nodeT d.nodes (lobN (d).nodes (rs.getD i default) : Int))), (7, X (Xc0 (fc_permN k (((d.nodes.getD (lobN (d).nodes (rs.getD i default)) default)).kind)) X0))]] (!(permB k (((d.nodes.getD (lobN (d).nodes (rs.getD i default)) default)).kind))) (fun h7 => ?_) (fun h7 => ?_)
   ·
    have e2 : ((refsE d.nodes k rs 0) : Int) = 8 := by
     exact I2.2.trans (refsE_kind (by omega) (by omega) (by rw [hf]; exact h7))
    exact .finE [.r []] [] (fun z0 : Int => (VI z0, [])) _ _ e2
   ·
    refine .back [.r [(0, X (Xn ((i : Int) + 1)))]] [(0, 0)] (ih2 ((i + 1) : Nat) ?_ ?_)
    ·
     exact ⟨by omega, I2.2.trans (refsE_next (by omega) (by omega) (by rw [hf]; exact h7))⟩
    ·
     ((try dsimp only); omega)
 ·
  have e3 : ((refsE d.nodes k rs 0) : Int) = 0 := by
   exact I2.2.trans (refsE_end (by omega))
  exact .finE [.r []] [] (fun z0 : Int => (VI z0, [])) _ _ e3

theorem fc_cellCk (k : Int) (l : List Cell) : FC Tryz.prog 89 [VI k, VL 5 cellT l] (app emp []) (VI (cellK k l 0)) (app emp []) := by
 refine .go Tryz.f89 ?_
 refine .len 1 (fun hl1 => ?_)
 refine .loop (α := Nat) [.r [], .r [(1, X (Xl cellT l))]] 32 (fun i => ([(0, VI k), (7, VL 5 cellT l), (8, VI (l.length : Int)), (9, VI (i : Int))], [])) (fun i => i ≤ l.length ∧ cellK k l 0 = cellK k l i) (fun i => l.length - i) (0 : Nat) ?_ ?_
 ·
  exact ⟨by omega, rfl⟩
 rintro i I2 ih2
 try dsimp only at I2
 refine .bp [.r []] (decide ((i : Int) < (l.length : Int))) (fun h2 => ?_) (fun h2 => ?_)
 ·
  refine .bp [.r [(0, X (Xi cellT l (i : Int)))], .r [(4, Xv 1 (k == 2) X0), (5, Xv 1 (k == 2) X0), (6, Xv 1 (k == 2) X0), (8, Xv 1 ((k == 2) && !(!(seq (((l.getD i default)).text) ({ data := #[] })))) X0), (9, Xv 1 ((k == 2) && !(!(seq (((l.getD i default)).text) ({ data := #[] })))) (Xl attrT (((l.getD i default)).attrs))), (10, Xv 1 ((k == 2) && !(!(seq (((l.getD i default)).text) ({ data := #[] })))) X0), (11, Xko (k == 2) (!(seq (((l.getD i default)).text) ({ data := #[] })))), (12, X (Xk (k == 2))), (15, Xv 1 (!((k == 2) && (!(seq (((l.getD i default)).text) ({ data := #[] })) || decide (((((l.getD i default)).attrs).length : Int) > 0)))) X0), (16, Xv 1 (!((k == 2) && (!(seq (((l.getD i default)).text) ({ data := #[] })) || decide (((((l.getD i default)).attrs).length : Int) > 0)))) X0), (18, Xv 1 ((!((k == 2) && (!(seq (((l.getD i default)).text) ({ data := #[] })) || decide (((((l.getD i default)).attrs).length : Int) > 0)))) && (k == 6)) X0), (19, Xv 1 ((!((k == 2) && (!(seq (((l.getD i default)).text) ({ data := #[] })) || decide (((((l.getD i default)).attrs).length : Int) > 0)))) && (k == 6)) X0), (20, Xka (!((k == 2) && (!(seq (((l.getD i default)).text) ({ data := #[] })) || decide (((((l.getD i default)).attrs).length : Int) > 0)))) (k == 6)), (21, X (Xk' ((k == 2) && (!(seq (((l.getD i default)).text) ({ data := #[] })) || decide (((((l.getD i default)).attrs).length : Int) > 0)))))]] (((k == 2) && (!(seq (((l.getD i default)).text) ({ data := #[] })) || decide (((((l.getD i default)).attrs).length : Int) > 0))) || ((k == 6) && ((((l.getD i default)).ref) != 0))) (fun h4 => ?_) (fun h4 => ?_)
  ·
   have e1 : ((cellK k l 0) : Int) = 4 := by
    rw [I2.2, cellK, if_pos (by omega), if_pos]
    exact h4.imp (fun q => ⟨q.1, q.2.imp id (fun z => by omega)⟩) id
   exact .finE [.r []] [] (fun z0 : Int => (VI z0, [])) _ _ e1
  ·
   refine .back [.r [(0, X (Xn ((i : Int) + 1)))]] [] (ih2 ((i + 1) : Nat) ?_ ?_)
   ·
    refine ⟨by omega, ?_⟩
    rw [I2.2, cellK, if_pos (by omega), if_neg]
    rintro (⟨a, b | b⟩ | ⟨a, b⟩)
    · rcases h4.1 with q | q
      · exact q a
      · rw [q.1] at b; cases b
    · rcases h4.1 with q | q
      · exact q a
      · omega
    · rcases h4.2 with q | q
      · exact q a
      · exact b q
   ·
    ((try dsimp only); omega)
 ·
  have e2 : ((cellK k l 0) : Int) = 0 := by
   rw [I2.2, cellK, if_neg (by omega)]
  exact .finE [.r []] [] (fun z0 : Int => (VI z0, [])) _ _ e2

theorem fc_eqR0 (l : List Rect) : FC Tryz.prog 117 [VL 4 rectT l, VN] (app emp []) (VB ((l.length : Int) == 0)) (app emp []) := by
 refine .go Tryz.f117 ?_
 refine .len 0 (fun hl0 => ?_)
 refine .bp [.r [], .r [(1, X (Xl rectT l))]] ((l.length : Int) != 0) (fun h1 => ?_) (fun h1 => ?_)
 ·
  have e1 : (((l.length : Int) == 0) : Bool) = false := by
   rw [beq_eq_false_iff_ne]; exact h1
  exact .finE [.r []] [] (fun z0 : Bool => (VB z0, [])) _ _ e1
 ·
  refine .loop (α := Nat) [.r [(1, X (Xl rectT l))]] 72 (fun i => ([(0, VL 4 rectT l), (1, VN), (12, VI (l.length : Int)), (13, VI (i : Int))], [])) (fun i => i = 0) (fun i => 0) (0 : Nat) ?_ ?_
  ·
   rfl
  rintro i I4 ih4
  try dsimp only at I4
  refine .bp [.r []] (decide ((i : Int) < (l.length : Int))) (fun h4 => ?_) (fun h4 => ?_)
  ·
   exfalso
   omega
  ·
   have e2 : (((l.length : Int) == 0) : Bool) = true := by
    rw [beq_iff_eq]; exact h1
   exact .finE [.r []] [] (fun z0 : Bool => (VB z0, [])) _ _ e2

theorem fc_eqC0 (l : List Cell) : FC Tryz.prog 118 [VL 5 cellT l, VN, .fn 119 []] (app emp []) (VB ((l.length : Int) == 0)) (app emp []) := by
 refine .go Tryz.f118 ?_
 refine .len 0 (fun hl0 => ?_)
 refine .bp [.r [], .r [(1, X (Xl cellT l))]] ((l.length : Int) != 0) (fun h1 => ?_) (fun h1 => ?_)
 ·
  have e1 : (((l.length : Int) == 0) : Bool) = false := by
   rw [beq_eq_false_iff_ne]; exact h1
  exact .finE [.r []] [] (fun z0 : Bool => (VB z0, [])) _ _ e1
 ·
  refine .loop (α := Nat) [.r [(1, X (Xl cellT l))]] 72 (fun i => ([(1, VN), (2, .fn 119 []), (15, VL 5 cellT l), (16, VI (l.length : Int)), (17, VI (i : Int))], [])) (fun i => i = 0) (fun i => 0) (0 : Nat) ?_ ?_
  ·
   rfl
  rintro i I4 ih4
  try dsimp only at I4
  refine .bp [.r []] (decide ((i : Int) < (l.length : Int))) (fun h4 => ?_) (fun h4 => ?_)
  ·
   exfalso
   omega
  ·
   have e2 : (((l.length : Int) == 0) : Bool) = true := by
    rw [beq_iff_eq]; exact h1
   exact .finE [.r []] [] (fun z0 : Bool => (VB z0, [])) _ _ e2
end Go.Ch
end
section
set_option linter.unusedVariables false
set_option linter.unusedSimpArgs false
set_option maxRecDepth 100000
set_option maxHeartbeats 4000000
open Go Go.Proofs Go.Ab
namespace Go.Ch
theorem fc_sameG0 (x : Grid) : FC Tryz.prog 85 [.t (gridT x), .t (.agg [TI 0, TI 0, TN, TN])] (app emp []) (VB (zeroG x)) (app emp []) := by
 refine .go Tryz.f85 ?_
 have e1 : ((zeroG x) : Bool) = ((((x.rows == 0) && (x.cols == 0)) && (((x.merges).length : Int) == 0)) && (((x.cells).length : Int) == 0)) := by
  unfold zeroG; rw [Bool.eq_iff_iff]; simp only [Bool.and_eq_true]; constructor <;> (rintro ⟨⟨⟨a, b⟩, c⟩, d⟩; exact ⟨⟨⟨a, b⟩, d⟩, c⟩)
 exact .finE [.r [], .r [(7, Xv 1 (x.rows == 0) X0), (9, Xv 1 (x.rows == 0) X0), (10, Xv 2 (x.rows == 0) X0), (11, X (Xk (x.rows == 0))), (14, Xv 1 ((x.rows == 0) && (x.cols == 0)) X0), (16, Xv 1 ((x.rows == 0) && (x.cols == 0)) X0), (17, Xv 2 ((x.rows == 0) && (x.cols == 0)) (Xc0 (fc_eqR0 x.merges) X0)), (18, X (Xk ((x.rows == 0) && (x.cols == 0)))), (21, Xv 1 (((x.rows == 0) && (x.cols == 0)) && (((x.merges).length : Int) == 0)) X0), (23, Xv 1 (((x.rows == 0) && (x.cols == 0)) && (((x.merges).length : Int) == 0)) X0), (24, Xv 2 (((x.rows == 0) && (x.cols == 0)) && (((x.merges).length : Int) == 0)) (Xc0 (fc_eqC0 x.cells) X0)), (25, X (Xk (((x.rows == 0) && (x.cols == 0)) && (((x.merges).length : Int) == 0))))]] [] (fun z0 : Bool => (VB z0, [])) _ _ e1

theorem fc_nodeCk (n : Node) (hm : n.grid.merges.length ≤ 1048576) : FC Tryz.prog 45 [.t (nodeT n)] (app emp []) (VI (nodeE n)) (app emp []) := by
 refine .go Tryz.f45 ?_
 refine .bp [.r [], .r [(5, Xv 1 (!(decide (n.id < 1))) X0), (6, Xv 1 (!(decide (n.id < 1))) X0), (7, X (Xk' (decide (n.id < 1))))]] (decide (n.id < 1) || decide (n.id > 1073741824)) (fun h1 => ?_) (fun h1 => ?_)
 ·
  have e1 : ((nodeE n) : Int) = 2 := by
   (try rw [errA_eq false n.attrs _ 0 rfl] at *)
   unfold nodeE
   (repeat' split) <;> first | rfl | omega | (exfalso; omega) | (simp_all; done) | (exfalso; simp_all; done) | (exfalso; simp_all; omega) | grind
  exact .finE [.r []] [] (fun z0 : Int => (VI z0, [])) _ _ e1
 ·
  refine .bp [.r [(5, Xv 1 (!(decide (n.kind < 0))) X0), (6, Xv 1 (!(decide (n.kind < 0))) X0), (7, X (Xk' (decide (n.kind < 0)))), (10, Xv 1 (!(decide (n.kind < 0) || decide (n.kind ≥ 13))) X0), (11, Xv 1 (!(decide (n.kind < 0) || decide (n.kind ≥ 13))) X0), (13, Xv 1 (!(decide (n.kind < 0) || decide (n.kind ≥ 13))) X0), (14, Xv 1 (!(decide (n.kind < 0) || decide (n.kind ≥ 13))) X0), (15, Xv 2 (!(decide (n.kind < 0) || decide (n.kind ≥ 13))) X0), (16, X (Xk' (decide (n.kind < 0) || decide (n.kind ≥ 13))))]] ((decide (n.kind < 0) || decide (n.kind ≥ 13)) || !((n.id == 1) == (n.kind == 0))) (fun h3 => ?_) (fun h3 => ?_)
  ·
   have e2 : ((nodeE n) : Int) = 8 := by
    (try rw [errA_eq false n.attrs _ 0 rfl] at *)
    unfold nodeE
    (repeat' split) <;> first | rfl | omega | (exfalso; omega) | (simp_all; done) | (exfalso; simp_all; done) | (exfalso; simp_all; omega) | grind
   exact .finE [.r []] [] (fun z0 : Int => (VI z0, [])) _ _ e2
  ·
   refine .bp [.r [(2, X (Xc0 (fc_acheck n.attrs) X0))], .r []] ((chkA false n.attrs 0) != 0) (fun h6 => ?_) (fun h6 => ?_)
   ·
    have e3 : ((nodeE n) : Int) = (chkA false n.attrs 0) := by
     (try rw [errA_eq false n.attrs _ 0 rfl] at *)
     unfold nodeE
     (repeat' split) <;> first | rfl | omega | (exfalso; omega) | (simp_all; done) | (exfalso; simp_all; done) | (exfalso; simp_all; omega) | grind
    exact .finE [.r []] [] (fun z0 : Int => (VI z0, [])) _ _ e3
   ·
    refine .bp [.r [(2, X (Xc0 (fc_Texts n.kind) X0)), (5, Xv 1 (!(hasT n.kind)) X0), (6, Xv 1 (!(hasT n.kind)) (Xc0 (fc_Lists n.kind) X0)), (7, X (Xk' (hasT n.kind))), (10, X (Xc0 (fc_Grids n.kind) X0))], .r [(4, Xv 1 (!((hasT n.kind) || (hasL n.kind))) X0), (5, Xv 1 (!((hasT n.kind) || (hasL n.kind))) (Xl elemT n.flow)), (6, Xv 1 (!((hasT n.kind) || (hasL n.kind))) X0), (7, X (Xk (!((hasT n.kind) || (hasL n.kind))))), (10, Xv 1 (!(!((hasT n.kind) || (hasL n.kind)) && decide ((n.flow.length : Int) > 0))) X0), (11, Xv 1 (!(!((hasT n.kind) || (hasL n.kind)) && decide ((n.flow.length : Int) > 0))) X0), (13, Xv 1 ((!(!((hasT n.kind) || (hasL n.kind)) && decide ((n.flow.length : Int) > 0))) && (!(hasG n.kind))) X0), (15, Xv 2 ((!(!((hasT n.kind) || (hasL n.kind)) && decide ((n.flow.length : Int) > 0))) && (!(hasG n.kind))) (Xc0 (fc_sameG0 n.grid) X0)), (16, Xv 1 ((!(!((hasT n.kind) || (hasL n.kind)) && decide ((n.flow.length : Int) > 0))) && (!(hasG n.kind))) X0), (17, Xka (!(!((hasT n.kind) || (hasL n.kind)) && decide ((n.flow.length : Int) > 0))) (!(hasG n.kind))), (18, X (Xk' (!((hasT n.kind) || (hasL n.kind)) && decide ((n.flow.length : Int) > 0)))), (21, Xv 1 (!((!((hasT n.kind) || (hasL n.kind)) && decide ((n.flow.length : Int) > 0)) || (!(hasG n.kind) && !(zeroG n.grid)))) X0), (22, Xv 1 (!((!((hasT n.kind) || (hasL n.kind)) && decide ((n.flow.length : Int) > 0)) || (!(hasG n.kind) && !(zeroG n.grid)))) (Xc0 (fc_Draws n.kind) X0)), (23, Xv 1 (!((!((hasT n.kind) || (hasL n.kind)) && decide ((n.flow.length : Int) > 0)) || (!(hasG n.kind) && !(zeroG n.grid)))) X0), (24, Xv 1 (!((!((hasT n.kind) || (hasL n.kind)) && decide ((n.flow.length : Int) > 0)) || (!(hasG n.kind) && !(zeroG n.grid)))) X0), (26, Xv 1 ((!((!((hasT n.kind) || (hasL n.kind)) && decide ((n.flow.length : Int) > 0)) || (!(hasG n.kind) && !(zeroG n.grid)))) && (!(hasD n.kind))) X0), (27, Xv 1 ((!((!((hasT n.kind) || (hasL n.kind)) && decide ((n.flow.length : Int) > 0)) || (!(hasG n.kind) && !(zeroG n.grid)))) && (!(hasD n.kind))) (Xl dopT n.draw)), (28, Xv 1 ((!((!((hasT n.kind) || (hasL n.kind)) && decide ((n.flow.length : Int) > 0)) || (!(hasG n.kind) && !(zeroG n.grid)))) && (!(hasD n.kind))) X0), (29, Xka (!((!((hasT n.kind) || (hasL n.kind)) && decide ((n.flow.length : Int) > 0)) || (!(hasG n.kind) && !(zeroG n.grid)))) (!(hasD n.kind))), (30, X (Xk' ((!((hasT n.kind) || (hasL n.kind)) && decide ((n.flow.length : Int) > 0)) || (!(hasG n.kind) && !(zeroG n.grid)))))]] (((!((hasT n.kind) || (hasL n.kind)) && decide ((n.flow.length : Int) > 0)) || (!(hasG n.kind) && !(zeroG n.grid))) || (!(hasD n.kind) && decide ((n.draw.length : Int) > 0))) (fun h9 => ?_) (fun h9 => ?_)
    ·
     have e4 : ((nodeE n) : Int) = 4 := by
      (try rw [errA_eq false n.attrs _ 0 rfl] at *)
      unfold nodeE
      (repeat' split) <;> first | rfl | omega | (exfalso; omega) | (simp_all; done) | (exfalso; simp_all; done) | (exfalso; simp_all; omega) | grind
     exact .finE [.r []] [] (fun z0 : Int => (VI z0, [])) _ _ e4
    ·
     refine .bp [.r []] ((hasT n.kind) || (hasL n.kind)) (fun h11 => ?_) (fun h11 => ?_)
     ·
      have e5 : ((nodeE n) : Int) = (flowZ (hasT n.kind) n.flow) := by
       (try rw [errA_eq false n.attrs _ 0 rfl] at *)
       unfold nodeE
       (repeat' split) <;> first | rfl | omega | (exfalso; omega) | (simp_all; done) | (exfalso; simp_all; done) | (exfalso; simp_all; omega) | grind
      exact .finE [.r [(4, X (Xc0 (fc_Texts n.kind) X0)), (5, X (Xc0 (fc_flowCheckX n.flow (hasT n.kind)) X0))]] [] (fun z0 : Int => (VI z0, [])) _ _ e5
     ·
      refine .bp [.r []] (hasG n.kind) (fun h13 => ?_) (fun h13 => ?_)
      ·
       refine .bp [.r [(2, X (Xc0 (fc_gcheck n.grid (by omega)) X0))], .r []] ((gridE n.grid) != 0) (fun h15 => ?_) (fun h15 => ?_)
       ·
        have e6 : ((nodeE n) : Int) = (gridE n.grid) := by
         (try rw [errA_eq false n.attrs _ 0 rfl] at *)
         unfold nodeE
         (repeat' split) <;> first | rfl | omega | (exfalso; omega) | (simp_all; done) | (exfalso; simp_all; done) | (exfalso; simp_all; omega) | grind
        exact .finE [.r []] [] (fun z0 : Int => (VI z0, [])) _ _ e6
       ·
        have e7 : ((nodeE n) : Int) = (cellK n.kind n.grid.cells 0) := by
         (try rw [errA_eq false n.attrs _ 0 rfl] at *)
         unfold nodeE
         (repeat' split) <;> first | rfl | omega | (exfalso; omega) | (simp_all; done) | (exfalso; simp_all; done) | (exfalso; simp_all; omega) | grind
        exact .finE [.r [(5, X (Xc0 (fc_cellCk n.kind n.grid.cells) X0))]] [] (fun z0 : Int => (VI z0, [])) _ _ e7
      ·
       have e8 : ((nodeE n) : Int) = (drawE n.draw 0) := by
        (try rw [errA_eq false n.attrs _ 0 rfl] at *)
        unfold nodeE
        (repeat' split) <;> first | rfl | omega | (exfalso; omega) | (simp_all; done) | (exfalso; simp_all; done) | (exfalso; simp_all; omega) | grind
       exact .finE [.r [(2, X (Xc0 (fc_dcheck n.draw) X0))]] [] (fun z0 : Int => (VI z0, [])) _ _ e8

theorem fc_docCk (d : Doc) (hb : DocB d) : FC Tryz.prog 14 [.t (docT d)] (app emp []) (VI (docE d)) (app emp []) := by
 refine .go Tryz.f14 ?_
 have hl := hb.len
 refine .bp [.r [], .r [(2, X (Xl nodeT d.nodes))]] ((d.nodes.length : Int) == 0) (fun h1 => ?_) (fun h1 => ?_)
 ·
  have e1 : ((docE d) : Int) = 11 := by
   exact docE_short (by omega)
  exact .finE [.r []] [] (fun z0 : Int => (VI z0, [])) _ _ e1
 ·
  refine .loop (α := Nat) [.r [(2, X (Xl nodeT d.nodes))]] 80 (fun i => ([(1, .ptr 0 0), (14, VL 9 nodeT d.nodes), (15, VI (d.nodes.length : Int)), (16, VI (i : Int))], [(0, .box [VL 9 nodeT d.nodes])])) (fun i => i ≤ d.nodes.length ∧ nodesE d.nodes 0 = nodesE d.nodes i) (fun i => d.nodes.length - i) (0 : Nat) ?_ ?_
  ·
   exact ⟨by omega, rfl⟩
  rintro i I4 ih4
  try dsimp only at I4
  refine .bp [.r []] (decide ((i : Int) < (d.nodes.length : Int))) (fun h4 => ?_) (fun h4 => ?_)
  ·
   have hn := (hb.all _ (getDN_mem (l := d.nodes) (i := i) (by omega))).me
   refine .bp [.r [(1, X (Xi nodeT d.nodes (i : Int)))], .r [(1, X (Xc0 (fc_nodeCk ((d.nodes.getD i default)) (by assumption)) X0))], .r []] ((nodeE ((d.nodes.getD i default))) != 0) (fun h7 => ?_) (fun h7 => ?_)
   ·
    have e2 : ((docE d) : Int) = (nodeE ((d.nodes.getD i default))) := by
     exact docE_node (by omega) (I4.2.trans (nodesE_bad (by omega) h7)) h7
    exact .finE [.r []] [] (fun z0 : Int => (VI z0, [])) _ _ e2
   ·
    refine .bp [.r [(4, Xv 1 ((i : Int) == 0) X0), (5, Xv 1 ((i : Int) == 0) X0), (6, X (Xk ((i : Int) == 0))), (9, Xv 1 (!(((i : Int) == 0) && ((((d.nodes.getD i default)).id) != 1))) X0), (10, Xv 1 (!(((i : Int) == 0) && ((((d.nodes.getD i default)).id) != 1))) X0), (12, Xv 1 ((!(((i : Int) == 0) && ((((d.nodes.getD i default)).id) != 1))) && (decide ((i : Int) > 0))) X0), (14, Xv 1 ((!(((i : Int) == 0) && ((((d.nodes.getD i default)).id) != 1))) && (decide ((i : Int) > 0))) X0), (16, Xv 1 ((!(((i : Int) == 0) && ((((d.nodes.getD i default)).id) != 1))) && (decide ((i : Int) > 0))) (Xn ((i : Int) - 1))), (17, Xv 2 ((!(((i : Int) == 0) && ((((d.nodes.getD i default)).id) != 1))) && (decide ((i : Int) > 0))) (Xi' nodeT d.nodes ((i : Int) - 1) (i - 1))), (18, Xv 1 ((!(((i : Int) == 0) && ((((d.nodes.getD i default)).id) != 1))) && (decide ((i : Int) > 0))) X0), (19, Xv 1 ((!(((i : Int) == 0) && ((((d.nodes.getD i default)).id) != 1))) && (decide ((i : Int) > 0))) X0), (20, Xv 2 ((!(((i : Int) == 0) && ((((d.nodes.getD i default)).id) != 1))) && (decide ((i : Int) > 0))) X0), (21, Xka (!(((i : Int) == 0) && ((((d.nodes.getD i default)).id) != 1))) (decide ((i : Int) > 0))), (22, X (Xk' (((i : Int) == 0) && ((((d.nodes.getD i default)).id) != 1))))]] ((((i : Int) == 0) && ((((d.nodes.getD i default)).id) != 1)) || (decide ((i : Int) > 0) && decide ((((d.nodes.getD i default)).id) ≤ (((d.nodes.getD (i - 1) default)).id)))) (fun h9 => ?_) (fun h9 => ?_)
    ·
     have e3 : ((docE d) : Int) = 5 := by
      exact docE_node (by omega) (I4.2.trans (nodesE_ord (by omega) h7 (by rcases h9 with q | q; (left; obtain ⟨q1, q2⟩ := q; have q3 : i = 0 := (by omega); subst q3; exact ⟨rfl, q2⟩); (right; omega)))) (by decide)
     exact .finE [.r []] [] (fun z0 : Int => (VI z0, [])) _ _ e3
    ·
     refine .back [.r [(0, X (Xn ((i : Int) + 1)))]] [(0, 0)] (ih4 ((i + 1) : Nat) ?_ ?_)
     ·
      exact ⟨by omega, I4.2.trans (nodesE_next (by omega) h7 (by rintro (⟨q1, q2⟩ | q); (subst q1; rcases h9.1 with q | q; (exact q rfl); (exact q2 q)); (rcases h9.2 with q3 | q3 <;> omega)))⟩
     ·
      ((try dsimp only); omega)
  ·
   refine .loop (α := Nat) [.r [(2, X (Xl nodeT d.nodes))]] 120 (fun j => ([(1, .ptr 0 0), (51, VL 9 nodeT d.nodes), (52, VI (d.nodes.length : Int)), (53, VI (j : Int))], [(0, .box [VL 9 nodeT d.nodes])])) (fun j => j ≤ d.nodes.length ∧ allRefsE d.nodes 0 = allRefsE d.nodes j) (fun j => d.nodes.length - j) (0 : Nat) ?_ ?_
   ·
    exact ⟨by omega, rfl⟩
   rintro j I13 ih13
   try dsimp only at I13
   refine .bp [.r []] (decide ((j : Int) < (d.nodes.length : Int))) (fun h13 => ?_) (fun h13 => ?_)
   ·
    have hn := hb.all _ (getDN_mem (l := d.nodes) (i := j) (by omega))
    have hs := sort_of (I4.2.trans (nodesE_end (by omega)))
    refine .bp [.r [(0, X (Xi nodeT d.nodes (j : Int)))], .r [(4, X (Xc1 192 (fc_refsNd ((d.nodes.getD j default)) (by assumption)) X0)), (5, X (Xc0 (fc_refsCk d (((d.nodes.getD j default)).kind) (refsN ((d.nodes.getD j default))) (by assumption) (by assumption)) X0))], .r []] ((refsE (d).nodes (((d.nodes.getD j default)).kind) (refsN ((d.nodes.getD j default))) 0) != 0) (fun h16 => ?_) (fun h16 => ?_)
    ·
     have e4 : ((docE d) : Int) = (refsE (d).nodes (((d.nodes.getD j default)).kind) (refsN ((d.nodes.getD j default))) 0) := by
      exact docE_refs (by omega) (I4.2.trans (nodesE_end (by omega))) (I13.2.trans (allR_bad (by omega) h16))
     exact .finE [.r []] [] (fun z0 : Int => (VI z0, [])) _ _ e4
    ·
     refine .back [.r [(0, X (Xn ((j : Int) + 1)))]] [(0, 0)] (ih13 ((j + 1) : Nat) ?_ ?_)
     ·
      exact ⟨by omega, I13.2.trans (allR_next (by omega) h16)⟩
     ·
      ((try dsimp only); omega)
   ·
    have e5 : ((docE d) : Int) = 0 := by
     exact docE_refs (by omega) (I4.2.trans (nodesE_end (by omega))) (I13.2.trans (allR_end (by omega)))
    exact .finE [.r []] [] (fun z0 : Int => (VI z0, [])) _ _ e5
end Go.Ch
end
section
namespace Go.Ch
open Go Go.Ab
theorem set_fill {α : Type} [Inhabited α] {l : List α} {i n : Nat} {z x : α} (hn : n = l.length) (hi : i < n) (hx : x = l.getD i default) : (l.take i ++ List.replicate (n - i) z).set i x = l.take (i + 1) ++ List.replicate (n - (i + 1)) z := by
  subst hn
  have h1 : (l.take i).length = i := by simp; omega
  rw [List.set_append, if_neg (by omega), h1, Nat.sub_self, show l.length - i = (l.length - (i + 1)) + 1 by omega, List.replicate_succ, List.set_cons_zero, List.take_succ_eq_append_getElem hi, hx, List.append_assoc]
  simp only [List.getD, List.getElem?_eq_getElem hi, Option.getD_some]
  rfl
theorem set_same {α : Type} [Inhabited α] {l : List α} {i : Nat} {x : α} (hx : x = l.getD i default) : l.set i x = l := by
  subst hx
  by_cases h : i < l.length
  · rw [List.getD_eq_getElem?_getD, List.getElem?_eq_getElem h]; simp
  · rw [List.set_eq_of_length_le (by omega)]
end Go.Ch
end
section
set_option linter.unusedVariables false
set_option linter.unusedSimpArgs false
set_option maxRecDepth 100000
set_option maxHeartbeats 4000000
open Go Go.Proofs Go.Ab
namespace Go.Ch
theorem fc_copyF (l : List Elem) (hn : l.length ≤ 1048576) (hs : ∀ x ∈ l, x.attrs.length ≤ 1048576) : FC Tryz.prog 111 [VL 3 elemT l] (app emp []) (VL 3 elemT l) (app emp []) := by
 refine .go Tryz.f111 ?_
 refine .len 0 (fun hl0 => ?_)
 refine .loop (α := Nat × (List Elem)) [.r [], .r [(1, X (Xl elemT l)), (2, X (Xmz 3 elemT 24 (l.length : Int) (l.length : Int) ({ char := 0, ref := 0, attrs := [] } : Elem) [TI 0, TI 0, TN] ⟨.inl rfl, ⟨.inl rfl, ⟨tw_nil (by decide), trivial⟩⟩⟩))], .r [(1, X (Xl elemT l))]] 64 (fun (i, o) => ([(3, .row 24 l.length), (9, VL 3 elemT l), (10, VI (l.length : Int)), (11, VI (i : Int))], [(24, OR 3 elemT o)])) (fun (i, o) => i ≤ l.length ∧ o = l.take i ++ List.replicate (l.length - i) ({ char := 0, ref := 0, attrs := [] } : Elem)) (fun (i, o) => l.length - i) (0, (List.replicate l.length ({ char := 0, ref := 0, attrs := [] } : Elem))) ?_ ?_
 ·
  exact ⟨by omega, by simp⟩
 rintro ⟨i, o⟩ I3 ih3
 try dsimp only at I3
 have ol : o.length = l.length := by rw [I3.2]; simp; omega
 refine .bp [.r []] (decide ((i : Int) < (l.length : Int))) (fun h3 => ?_) (fun h3 => ?_)
 ·
  have hx := hs _ (getDE_mem (l := l) (k := i) (by omega))
  refine .back [.r [(1, X (Xi elemT l (i : Int)))], .r [(8, X (Xan attrT 184 (((l.getD i default)).attrs))), (10, X (Xpn l.length elemT o (i : Int))), (11, X (rowC attrT (((l.getD i default)).attrs) (Xsn l.length 3 elemT 24 o i ((l.getD i default)) [(184, OF 2 attrT (((l.getD i default)).attrs))])))], .r [(0, X (Xn ((i : Int) + 1)))]] [(24, 24)] (ih3 ((i + 1), (o.set i ((l.getD i default)))) ?_ ?_)
  ·
   refine ⟨by omega, ?_⟩
   rw [I3.2]
   exact set_fill rfl (by omega) rfl
  ·
   ((try dsimp only); omega)
 ·
  have e1 : (l : List Elem) = o := by
   rw [I3.2, List.take_of_length_le (by omega), show l.length - i = 0 by omega]; simp
  exact .finE [.r [], .le (.fr 2 [(l.length : Nat) = (List.map elemT o).length] ⟨lm, trivial⟩)] [] (fun z0 : List Elem => (VL 3 elemT z0, [])) _ _ e1

theorem fc_copyN (n : Node) (hb : NodeB n) : FC Tryz.prog 74 [.t (nodeT n)] (app emp []) (.t (nodeT n)) (app emp []) := by
 refine .go Tryz.f74 ?_
 have b1 := hb.at2
 have b2 := hb.fl2
 have b3 := hb.fl3
 have b4 := hb.ce2
 have b5 := hb.me
 have b6 := hb.dr1
 refine .loop (α := Nat × (List Cell)) [.r [], .r [(2, X (Xan attrT 32 n.attrs))], .r [(2, X (Xc1 72 (fc_copyF n.flow (by assumption) (by assumption)) X0))], .r [(2, X (Xan dopT 112 n.draw))], .r [], .r [(2, X (Xan rectT 184 n.grid.merges))], .r [(2, X (Xan cellT 224 n.grid.cells))], .r []] 280 (fun (i, o) => ([(1, .ptr 0 0), (2, .ptr 8 0), (3, .ptr 152 0), (29, .row 224 o.length), (30, VI (n.grid.cells.length : Int)), (31, VI (i : Int))], [(0, .box [VI n.id, VI n.kind, .row 32 n.attrs.length, VL 3 elemT n.flow, VI n.grid.rows, VI n.grid.cols, VL 5 cellT n.grid.cells, VL 4 rectT n.grid.merges, .row 112 n.draw.length]), (8, .box [VI 0, VI 0, VN, VN, VI 0, VI 0, VN, VN, VN]), (32, OR 2 attrT n.attrs), (112, OR 8 dopT n.draw), (152, .box [VI n.grid.rows, VI n.grid.cols, .row 224 o.length, .row 184 n.grid.merges.length]), (184, OR 4 rectT n.grid.merges), (224, OR 5 cellT o)])) (fun (i, o) => i ≤ n.grid.cells.length ∧ o = n.grid.cells) (fun (i, o) => n.grid.cells.length - i) (0, n.grid.cells) ?_ ?_
 ·
  exact ⟨by omega, rfl⟩
 rintro ⟨i, o⟩ I8 ih8
 try dsimp only at I8
 have ol : o.length = n.grid.cells.length := by rw [I8.2]
 refine .bp [.r []] (decide ((i : Int) < (n.grid.cells.length : Int))) (fun h8 => ?_) (fun h8 => ?_)
 ·
  have hc := hb.ce3 (o.getD i default) (by rw [I8.2]; exact getDX_mem (by omega))
  refine .back [.r [(1, X (Xp cellT o (i : Int))), (2, X (Xe cellT o i))], .r [(5, X (Xan attrT 376 (((o.getD i default)).attrs))), (6, X (Xp cellT o (i : Int))), (8, X (rowC attrT (((o.getD i default)).attrs) (Xs 5 cellT 224 o i ((o.getD i default)) [(376, OF 2 attrT (((o.getD i default)).attrs))])))], .r [(0, X (Xn ((i : Int) + 1)))], .le (.eq 29 (.row 224 o.length) (.row 224 ((o.set i ((o.getD i default))).length)) (.of_eq (by simp only [List.length_set]))), .le (.eb 152 2 (.row 224 o.length) (.row 224 ((o.set i ((o.getD i default))).length)) (by simp only [List.length_set]))] [(0, 0), (8, 8), (32, 32), (112, 112), (152, 152), (184, 184), (224, 224)] (ih8 ((i + 1), (o.set i ((o.getD i default)))) ?_ ?_)
  ·
   refine ⟨by omega, ?_⟩
   rw [I8.2]; exact set_same rfl
  ·
   ((try dsimp only); omega)
 ·
  have e1 : (n : Node) = ({ id := n.id, kind := n.kind, attrs := n.attrs, flow := n.flow, grid := ({ rows := n.grid.rows, cols := n.grid.cols, cells := o, merges := n.grid.merges } : Grid), draw := n.draw } : Node) := by
   rw [I8.2]
  exact .finVE [.r [], .r []] [.fR 0 [(n.attrs.length : Nat) = (List.map attrT n.attrs).length, (o.length : Nat) = (List.map cellT o).length, (n.grid.merges.length : Nat) = (List.map rectT n.grid.merges).length, (n.draw.length : Nat) = (List.map dopT n.draw).length] ⟨lm, lm, lm, lm, trivial⟩] [] (fun z0 : Node => (.t (nodeT z0), [])) _ _ e1

theorem fc_copyD (d : Doc) (hb : DocB d) : FC Tryz.prog 36 [.t (docT d)] (app emp []) (.t (docT d)) (app emp []) := by
 refine .go Tryz.f36 ?_
 have hl := hb.len
 refine .loop (α := Nat × (List Node)) [.r [], .r [(2, X (Xl nodeT d.nodes)), (3, X (Xmz 9 nodeT 40 (d.nodes.length : Int) (d.nodes.length : Int) ({ id := 0, kind := 0, attrs := [], flow := [], grid := ({ rows := 0, cols := 0, cells := [], merges := [] } : Grid), draw := [] } : Node) [TI 0, TI 0, TN, TN, TI 0, TI 0, TN, TN, TN] ⟨.inl rfl, ⟨.inl rfl, ⟨tw_nil (by decide), ⟨tw_nil (by decide), ⟨.inl rfl, ⟨.inl rfl, ⟨tw_nil (by decide), ⟨tw_nil (by decide), ⟨tw_nil (by decide), trivial⟩⟩⟩⟩⟩⟩⟩⟩⟩))], .r [(2, X (Xl nodeT d.nodes))], .le (.eb 56 0 (.row 40 d.nodes.length) (.row 40 ((List.replicate d.nodes.length ({ id := 0, kind := 0, attrs := [], flow := [], grid := ({ rows := 0, cols := 0, cells := [], merges := [] } : Grid), draw := [] } : Node)).length)) (by simp only [List.length_replicate]))] 104 (fun (i, o) => ([(2, .ptr 8 0), (3, .ptr 56 0), (12, VL 9 nodeT d.nodes), (13, VI (d.nodes.length : Int)), (14, VI (i : Int))], [(8, .box [VN]), (40, OR 9 nodeT o), (56, .box [.row 40 o.length])])) (fun (i, o) => i ≤ d.nodes.length ∧ o = d.nodes.take i ++ List.replicate (d.nodes.length - i) ({ id := 0, kind := 0, attrs := [], flow := [], grid := ({ rows := 0, cols := 0, cells := [], merges := [] } : Grid), draw := [] } : Node)) (fun (i, o) => d.nodes.length - i) (0, (List.replicate d.nodes.length ({ id := 0, kind := 0, attrs := [], flow := [], grid := ({ rows := 0, cols := 0, cells := [], merges := [] } : Grid), draw := [] } : Node))) ?_ ?_
 ·
  exact ⟨by omega, by simp⟩
 rintro ⟨i, o⟩ I3 ih3
 try dsimp only at I3
 have ol : o.length = d.nodes.length := by rw [I3.2]; simp; omega
 refine .bp [.r []] (decide ((i : Int) < (d.nodes.length : Int))) (fun h3 => ?_) (fun h3 => ?_)
 ·
  have hx := hb.all _ (getDN_mem (l := d.nodes) (i := i) (by omega))
  refine .back [.r [(1, X (Xi nodeT d.nodes (i : Int)))], .r [(4, X (Xc1 192 (fc_copyN ((d.nodes.getD i default)) (by assumption)) X0)), (5, X (Xp nodeT o (i : Int))), (6, X (Xs 9 nodeT 40 o i (((d.nodes.getD i default)))))], .r [(0, X (Xn ((i : Int) + 1)))], .le (.eb 56 0 (.row 40 o.length) (.row 40 ((o.set i (((d.nodes.getD i default)))).length)) (by simp only [List.length_set]))] [(8, 8), (40, 40), (56, 56)] (ih3 ((i + 1), (o.set i (((d.nodes.getD i default))))) ?_ ?_)
  ·
   refine ⟨by omega, ?_⟩
   rw [I3.2]
   exact set_fill rfl (by omega) rfl
  ·
   ((try dsimp only); omega)
 ·
  have e1 : (d : Doc) = ({ nodes := o } : Doc) := by
   rw [I3.2, List.take_of_length_le (by omega), show d.nodes.length - i = 0 by omega]; simp
  exact .finVE [.r []] [.fR 0 [(o.length : Nat) = (List.map nodeT o).length] ⟨lm, trivial⟩] [] (fun z0 : Doc => (.t (docT z0), [])) _ _ e1
end Go.Ch
end
section
set_option linter.unusedVariables false
namespace Go.Ch
open Go Go.Ab

/-! ### Values of items are values of operations -/
theorem both_mem : ∀ (a b : List Attr) (p : Attr × Attr), p ∈ bothL a b → (p.1 ∈ a ∨ p.1 = default) ∧ (p.2 ∈ b ∨ p.2 = default) := by
  intro a b
  induction a, b using bothL.induct with
  | case1 => intro p hp; simp [bothL] at hp
  | case2 y b ih =>
    intro p hp
    rw [bothL, List.mem_cons] at hp
    rcases hp with rfl | hp
    · exact ⟨.inr rfl, .inl List.mem_cons_self⟩
    · exact ⟨(ih p hp).1, (ih p hp).2.imp (List.mem_cons_of_mem _) id⟩
  | case3 x a ih =>
    intro p hp
    rw [bothL, List.mem_cons] at hp
    rcases hp with rfl | hp
    · exact ⟨.inl List.mem_cons_self, .inr rfl⟩
    · exact ⟨(ih p hp).1.imp (List.mem_cons_of_mem _) id, (ih p hp).2⟩
  | case4 x a y b h ih =>
    intro p hp
    rw [bothL, if_pos h, List.mem_cons] at hp
    rcases hp with rfl | hp
    · exact ⟨.inl List.mem_cons_self, .inr rfl⟩
    · exact ⟨(ih p hp).1.imp (List.mem_cons_of_mem _) id, (ih p hp).2⟩
  | case5 x a y b h k ih =>
    intro p hp
    rw [bothL, if_neg h, if_pos k, List.mem_cons] at hp
    rcases hp with rfl | hp
    · exact ⟨.inr rfl, .inl List.mem_cons_self⟩
    · exact ⟨(ih p hp).1, (ih p hp).2.imp (List.mem_cons_of_mem _) id⟩
  | case6 x a y b h k ih =>
    intro p hp
    rw [bothL, if_neg h, if_neg k, List.mem_cons] at hp
    rcases hp with rfl | hp
    · exact ⟨.inl List.mem_cons_self, .inl List.mem_cons_self⟩
    · exact ⟨(ih p hp).1.imp (List.mem_cons_of_mem _) id, (ih p hp).2.imp (List.mem_cons_of_mem _) id⟩
def ValsB (l : List Attr) : Prop := ∀ a ∈ l, a.val.size ≤ 1048576
theorem vals_raw {a b : List Attr} (ha : ValsB a) (hb : ValsB b) : ValsB (fm rawG a b) := by
  intro z hz
  unfold fm at hz
  obtain ⟨p, hp, hg⟩ := List.mem_filterMap.1 hz
  obtain ⟨h1, h2⟩ := both_mem a b p hp
  have d0 : (default : Attr).val.size ≤ 1048576 := by decide
  unfold rawG at hg
  split at hg
  · cases hg
    rcases h1 with h | h
    · exact ha _ h
    · rw [h]; exact d0
  · split at hg
    · cases hg
    · cases hg
      rcases h2 with h | h
      · exact hb _ h
      · rw [h]; exact d0
theorem putK_mem {α : Type} {key : α → Int} : ∀ {l : List α} {x y : α}, y ∈ putK key l x → y = x ∨ y ∈ l
  | [], x, y, h => by simp [putK] at h; exact .inl h
  | z :: l, x, y, h => by
    rw [putK] at h
    split at h
    · rcases List.mem_cons.1 h with h | h
      · exact .inl h
      · exact .inr (List.mem_cons_of_mem _ h)
    · rcases List.mem_cons.1 h with h | h
      · exact .inr (h ▸ List.mem_cons_self)
      · exact (putK_mem h).imp id (List.mem_cons_of_mem _)
theorem findA_mem {l : List (Int × List Attr)} {k : Int} (h : ∀ p ∈ l, ValsB p.2) : ValsB (findA l k) := by
  unfold findA
  cases hf : l.find? (fun p => p.1 == k) with
  | none => intro a ha; cases ha
  | some p => exact h p (List.mem_of_find?_eq_some hf)
theorem play_vals : ∀ (l : List DOp) (S : List DItem × List (Int × List Attr)), (∀ o ∈ l, o.vl.size ≤ 1048576) → (∀ p ∈ S.2, ValsB p.2) → ∀ p ∈ (l.foldl stepP S).2, ValsB p.2
  | [], S, _, h => h
  | o :: l, S, hl, h => by
    rw [List.foldl_cons]
    refine play_vals l _ (fun o ho => hl o (List.mem_cons_of_mem _ ho)) ?_
    unfold stepP
    split
    · intro p hp
      rcases putK_mem hp with rfl | hp
      · exact vals_raw (findA_mem h) (fun a ha => by rw [List.mem_singleton.1 ha]; exact hl o List.mem_cons_self)
      · exact h p hp
    · split
      · exact h
      · exact h
theorem raw_mem {l : List DOp} {x : DItem} (h : x ∈ rawI l) : x ∈ itsF l := by
  unfold rawI at h
  rcases List.mem_append.1 h with h | h
  · exact (walkI_below _ h).1
  · exact (srtO_perm ltN _).mem_iff.1 (List.mem_filter.1 h).1
theorem raw_vals {l : List DOp} (h : ∀ o ∈ l, o.vl.size ≤ 1048576) {x : DItem} (hx : x ∈ rawI l) : ValsB x.attrs := by
  have hm := raw_mem hx
  unfold itsF at hm
  obtain ⟨y, hy, rfl⟩ := List.mem_map.1 hm
  exact findA_mem (play_vals l ([], []) h (fun p hp => by cases hp))
theorem getA_size {l : List Attr} (h : ValsB l) (n : ByteArray) : ∀ (k i : Nat), l.length - i = k → (getA l n i).size ≤ 1048576
  | 0, i, hk => by rw [getA, if_neg (by omega)]; decide
  | k + 1, i, hk => by
    rw [getA, if_pos (by omega)]
    split
    · exact h _ (getDX_mem (by omega))
    · exact getA_size h n k (i + 1) (by omega)
theorem shown_le {l : List DItem} : ∀ (n i : Nat), l.length - i = n → i ≤ l.length → shownF l i ≤ l.length
  | 0, i, h, hi => by rw [shownF, if_neg (by omega)]; omega
  | n + 1, i, h, hi => by
    rw [shownF, if_pos (by omega)]
    split
    · exact shown_le n (i + 1) (by omega) (by omega)
    · omega
theorem raw_len {l : List DOp} (ho : ∀ o ∈ l, 0 < o.itm) : (rawI l).length ≤ 2 * l.length := by
  obtain ⟨r, hr⟩ := itsF_ok ho
  have h1 : (walkF l).length ≤ (itsF l).length := walk_sub hr _ (Int.le_refl 0)
  have h2 := List.length_filter_le (fun x : DItem => decide (x.item ∉ (walkF l).map DItem.item)) (srtN (itsF l))
  have h3 := itsF_len ho
  have h4 := srtN_len (itsF l)
  unfold rawI
  rw [List.length_append]
  omega

/-! ### Numbers -/
def keyNode : ByteArray := { data := #[110, 111, 100, 101] }
def itoaB (v : Int) : ByteArray := ⟨(Lib.itoa v).toArray⟩
/-- A number as it is written. -/
def numF (s : ByteArray) : Option Int := match Lib.atoiAll s.data.toList with
  | .ok v => if seq (itoaB v) s = true then some v else none
  | _ => none
theorem num_ok {s : ByteArray} {v : Int} (h : Lib.atoiAll s.data.toList = .ok v) : numF s = if seq (itoaB v) s = true then some v else none := by unfold numF; rw [h]
theorem num_no {s : ByteArray} (h : ∀ v, Lib.atoiAll s.data.toList ≠ .ok v) : numF s = none := by
  unfold numF
  split
  · rename_i v hv; exact absurd hv (h v)
  · rfl
/-- The text that an item is. -/
def itemD (l : List Node) (x : DItem) : Option Int := (numF (getA x.attrs keyNode 0)).bind fun v => if hasN l v = true ∧ (l.getD (lobN l v) default).kind = 1 then some v else none
def shownD (n : Node) : List DItem := (rawI n.draw).take (shownF (rawI n.draw) 0)
def itemsD (l : List Node) (n : Node) : List Int := (shownD n).filterMap (itemD l)
theorem items_next {l : List Node} {n : Node} {i : Nat} (h : i < (shownD n).length) : ((shownD n).take (i + 1)).filterMap (itemD l) = ((shownD n).take i).filterMap (itemD l) ++ (itemD l ((shownD n).getD i default)).toList := filM_succ _ h
theorem itemD_none {l : List Node} {x : DItem} (h : numF (getA x.attrs keyNode 0) = none) : itemD l x = none := by unfold itemD; rw [h]; rfl
theorem itemD_some {l : List Node} {x : DItem} {v : Int} (h : numF (getA x.attrs keyNode 0) = some v) : itemD l x = if hasN l v = true ∧ (l.getD (lobN l v) default).kind = 1 then some v else none := by unfold itemD; rw [h]; rfl
theorem draw_of {n : Node} (h : nodeE n = 0) : drawE n.draw 0 = 0 := by
  have h0 : ∀ {m : Node}, m.draw.length = 0 → drawE m.draw 0 = 0 := fun {m} h => by rw [drawE, if_neg (by omega)]
  by_cases hd : n.draw.length = 0
  · exact h0 hd
  · unfold nodeE at h
    split at h
    · cases h
    split at h
    · cases h
    split at h
    · rename_i q; exact absurd h q
    split at h
    · cases h
    rename_i q1
    have hk : hasD n.kind = true := by
      cases hq : hasD n.kind
      · exact absurd (.inr (.inr ⟨by omega, hq⟩)) q1
      · rfl
    unfold hasD at hk
    simp only [Bool.or_eq_true, beq_iff_eq] at hk
    split at h
    · rename_i q2
      unfold hasT hasL at q2
      simp only [Bool.or_eq_true, beq_iff_eq] at q2
      omega
    split at h
    · rename_i q2
      unfold hasG at q2
      simp only [Bool.or_eq_true, beq_iff_eq] at q2
      omega
    · exact h
theorem items_len {l : List Node} {n : Node} (hb : NodeB n) (he : nodeE n = 0) : (itemsD l n).length ≤ 2097152 := by
  have ho := drawE_pos (draw_of he)
  have h1 := raw_len ho
  have h2 := hb.dr1
  have h3 : (itemsD l n).length ≤ (shownD n).length := List.length_filterMap_le _ _
  have h4 : (shownD n).length ≤ (rawI n.draw).length := by unfold shownD; rw [List.length_take]; omega
  omega
end Go.Ch
end
section
set_option linter.unusedVariables false
set_option linter.unusedSimpArgs false
set_option maxRecDepth 100000
set_option maxHeartbeats 4000000
open Go Go.Proofs Go.Ab
namespace Go.Ch
theorem two_rel {st : Store} {m : Ab.Place} {w : World} {ok : Nat → Prop} {a b : AVal} {u v : Value} (h1 : VRel st m w ok a u) (h2 : VRel st m w ok b v) : VRel st m w ok (.tup [a, b]) (.tuple #[u, v]) := by
  refine .tup _ [u, v] rfl (fun i x y e1 e2 => ?_)
  match i with
  | 0 => cases e1; cases e2; exact h1
  | 1 => cases e1; cases e2; exact h2
  | i + 2 => cases e1
theorem fc_itoa (n : Int) (h : -9223372036854775808 ≤ n ∧ n ≤ 9223372036854775807) : FC Tryz.prog 103 [VI n] (app emp []) (VS (itoaB n)) (app emp []) := by
  refine FC.ofTab (us := [.int .i64 n]) (v := .string ⟨(Lib.itoa n).toArray⟩) (fun st m w ok xs hl hv => ?_) (fun st m w ok => .t _ _ (.sc _ rfl)) (fun w hT => ?_)
  · match xs, hl with
    | [x], _ =>
      have := VRel.sc_inv (hv 0 _ _ rfl rfl)
      rw [this]
  · have ht : Lib.TabIs Tryz.prog w "internal/strconv.uint64pow10" .u64 Lib.pow10Tab := by
      obtain ⟨cs, h1, h2⟩ := hT.var ("internal/strconv.uint64pow10", _) (List.mem_cons_self ..) 4 (by kernel_rfl)
      unfold Lib.TabIs
      rw [← h2]; exact h1
    refine (Tryz.strconv_Itoa n h.1 h.2 w ht).mono ?_
    rintro e w' ⟨rfl, k, os, rfl⟩
    refine ⟨rfl, rfl, rfl, rfl, ?_, fun b hb => ?_⟩
    · show w.heap.size ≤ (w.heap ++ os).size
      simp
    · show (w.heap ++ os)[b]? = _
      rw [Array.getElem?_append_left hb]
theorem fc_atoi1 (s : ByteArray) (hs : s.size ≤ 1048576) (v : Int) (h : Lib.atoiAll s.data.toList = .ok v) : FC Tryz.prog 116 [VS s] (app emp []) (.tup [VI v, .t (.sc .nilIface)]) (app emp []) := by
  refine FC.ofTab (us := [.string s]) (v := .tuple #[.int .i64 v, .nilIface]) (fun st m w ok xs hl hv => ?_) (fun st m w ok => two_rel (.t _ _ (.sc _ rfl)) (.t _ _ (.sc _ rfl))) (fun w hT => ?_)
  · match xs, hl with
    | [x], _ =>
      have := VRel.sc_inv (hv 0 _ _ rfl rfl)
      rw [this]
  · refine (Tryz.strconv_Atoi_ok s (by omega) v h w).mono ?_
    rintro e w' ⟨rfl, hw⟩
    refine ⟨rfl, ?_⟩
    rcases hw with rfl | ⟨t, rfl⟩
    · exact RowKit.Below.refl _ _
    · exact Lib.bytesWorld_below _ _ _
/-- What Atoi gives beside an error. -/
def atoiZ (s : ByteArray) : Int := match Lib.atoiAll s.data.toList with
  | .range => Lib.atoiSat s.data.toList
  | _ => 0
theorem fc_atoi0 (s : ByteArray) (hs : s.size ≤ 1048576) (h : ∀ v, Lib.atoiAll s.data.toList ≠ .ok v) : FC Tryz.prog 116 [VS s] (app emp []) (.tup [VI (atoiZ s), .ifc]) (app emp []) := by
  refine FC.ofTabR (us := [.string s]) (R := fun u => ∃ t x, u = .tuple #[.int .i64 (atoiZ s), .iface t x]) (fun st m w ok xs hl hv => ?_) (fun st m w ok u hu => ?_) (fun w hT => ?_)
  · match xs, hl with
    | [x], _ =>
      have := VRel.sc_inv (hv 0 _ _ rfl rfl)
      rw [this]
  · obtain ⟨t, x, rfl⟩ := hu
    exact two_rel (.t _ _ (.sc _ rfl)) (.ifc _ _)
  · have sy : ∃ tp p, w.var? Tryz.prog "strconv.ErrSyntax" = some #[.iface tp p] := by
      obtain ⟨cs, h1, tp, p, h2⟩ := hT.var ("strconv.ErrSyntax", _) (List.mem_cons_of_mem _ (List.mem_cons_self ..)) 2 (by kernel_rfl)
      exact ⟨tp, p, by rw [← h2]; exact h1⟩
    have ra : ∃ tp p, w.var? Tryz.prog "strconv.ErrRange" = some #[.iface tp p] := by
      obtain ⟨cs, h1, tp, p, h2⟩ := hT.var ("strconv.ErrRange", _) (List.mem_cons_of_mem _ (List.mem_cons_of_mem _ (List.mem_cons_self ..))) 3 (by kernel_rfl)
      exact ⟨tp, p, by rw [← h2]; exact h1⟩
    cases ha : Lib.atoiAll s.data.toList with
    | ok v => exact absurd ha (h v)
    | range =>
      have hz : atoiZ s = Lib.atoiSat s.data.toList := by unfold atoiZ; rw [ha]
      obtain ⟨tp, p, hv⟩ := ra
      refine (Tryz.strconv_Atoi_range s (by omega) ha (.iface tp p) w (by have h0 := World.var?_cell Tryz.laysC172.m16 hv 0; exact h0) (Or.inr ⟨tp, p, rfl⟩)).mono ?_
      rintro e w' ⟨N, rfl, _, _, hb⟩
      exact ⟨⟨_, rfl, _, _, by rw [hz]⟩, hb⟩
    | _ =>
      have hz : atoiZ s = 0 := by unfold atoiZ; rw [ha]
      obtain ⟨tp, p, hv⟩ := sy
      refine (Tryz.strconv_Atoi_syntax s (by omega) ha (.iface tp p) w (by have h0 := World.var?_cell Tryz.laysC172.m15 hv 0; exact h0) (Or.inr ⟨tp, p, rfl⟩)).mono ?_
      rintro e w' ⟨N, rfl, _, _, hb⟩
      exact ⟨⟨_, rfl, _, _, by rw [hz]⟩, hb⟩
end Go.Ch
end
section
set_option linter.unusedVariables false
set_option linter.unusedSimpArgs false
set_option maxRecDepth 100000
set_option maxHeartbeats 4000000
open Go Go.Proofs Go.Ab
namespace Go.Ch
theorem fc_itemsD (d : Doc) (n : Node) (hl : d.nodes.length ≤ 1048576) (hs : SortN d.nodes) (hb : NodeB n) (he : nodeE n = 0) : FC Tryz.prog 79 [.t (docT d), .t (nodeT n)] (app emp []) (VL 1 intT (itemsD d.nodes n)) (app emp []) := by
 refine .go Tryz.f79 ?_
 have b1 := hb.dr1
 have ho := drawE_pos (draw_of he)
 have hrl := raw_len ho
 have hsh : shownF (rawI n.draw) 0 ≤ (rawI n.draw).length := shown_le _ 0 rfl (Nat.zero_le _)
 have hsl : (shownD n).length ≤ 2097152 := by unfold shownD; rw [List.length_take]; omega
 refine .loop (α := Nat × (List Int)) [.r [], .r [], .r [(2, X (Xc1 48 (fc_rawI n.draw (by omega) (by assumption)) X0))], .r [(2, X (Xc0 (fc_dshown (rawI n.draw)) X0)), (3, X (Xst ditT 4 (rawI n.draw) (shownF (rawI n.draw) 0 : Int)) (by omega)), (4, X (Xl ditT ((rawI n.draw).take (shownF (rawI n.draw) 0))))], .le (.eq 20 (VL 4 ditT ((rawI n.draw).take (shownF (rawI n.draw) 0))) (VL 4 ditT (shownD n)) (.of_eq rfl)), .le (.eq 21 (VI (((rawI n.draw).take (shownF (rawI n.draw) 0)).length : Int)) (VI ((shownD n).length : Int)) (.of_eq rfl)), .le (.nR 5 1)] 113 (fun (i, o) => ([(2, .ptr 0 0), (5, .row 112 o.length), (20, VL 4 ditT (shownD n)), (21, VI ((shownD n).length : Int)), (22, VI (i : Int))], [(0, .box [VL 9 nodeT d.nodes]), (112, OR 1 intT o)])) (fun (i, o) => i ≤ (shownD n).length ∧ o = ((shownD n).take i).filterMap (itemD d.nodes)) (fun (i, o) => (shownD n).length - i) (0, []) ?_ ?_
 ·
  exact ⟨by omega, rfl⟩
 rintro ⟨i, o⟩ I4 ih4
 try dsimp only at I4
 have ol : o.length ≤ i := by rw [I4.2]; exact Nat.le_trans (List.length_filterMap_le _ _) (by rw [List.length_take]; omega)
 refine .bp [.r []] (decide ((i : Int) < ((shownD n).length : Int))) (fun h4 => ?_) (fun h4 => ?_)
 ·
  refine .mid [.r [(0, X (Xi ditT (shownD n) (i : Int)))], .r [(2, X (Xc0 (fc_get ((((shownD n).getD i default)).attrs) ({ data := #[110, 111, 100, 101] })) X0))]] ?_
  have hxm : (shownD n).getD i default ∈ shownD n := getDX_mem (by omega)
  have hsz : (getA (((shownD n).getD i default)).attrs { data := #[110, 111, 100, 101] } 0).size ≤ 1048576 := getA_size (raw_vals (fun o ho => (hb.dr2 o ho).2.2) (List.mem_of_mem_take hxm)) _ _ 0 rfl
  rcases hav : Lib.atoiAll (getA (((shownD n).getD i default)).attrs { data := #[110, 111, 100, 101] } 0).data.toList with v | _ | _
  ·
   have hv := hav
   have hvb := Lib.atoiAll_bounds hav
   have hnum := num_ok hav
   refine .bp [.r [(1, X (Xc0 (fc_atoi1 (getA ((((shownD n).getD i default)).attrs) ({ data := #[110, 111, 100, 101] }) 0) (by assumption) v hv) X0))], .r [(4, Xv 1 (!false) (Xc0 (fc_itoa v (by omega)) X0)), (6, Xv 2 (!false) X0), (7, X (Xk' false))]] (false || !(seq (itoaB v) (getA ((((shownD n).getD i default)).attrs) ({ data := #[110, 111, 100, 101] }) 0))) (fun h8 => ?_) (fun h8 => ?_)
   ·
    refine .back [.r [(0, X (Xn ((i : Int) + 1)))]] [(0, 0), (112, 112)] (ih4 ((i + 1), o) ?_ ?_)
    ·
     refine ⟨by omega, ?_⟩
     rw [items_next (by omega), itemD_none (hnum.trans (if_neg (by rw [h8.resolve_left (by decide)]; decide))), I4.2]; simp
    ·
     ((try dsimp only); omega)
   ·
    refine .bp [.r [(2, X (Xc0 (fc_findN d v (by assumption) (by assumption)) X0))], .r [(3, Xv 1 (hasN (d).nodes v) X0), (5, Xv 2 (hasN (d).nodes v) (Xi nodeT d.nodes (lobN (d).nodes v : Int)) (fun hg => by skip; exact ⟨(by omega), (by have := (hasN_iff.1 hg).1; omega)⟩)), (6, Xv 1 (hasN (d).nodes v) X0), (7, Xv 1 (hasN (d).nodes v) X0), (8, Xv 1 (hasN (d).nodes v) X0), (9, X (Xk (hasN (d).nodes v)))]] ((hasN (d).nodes v) && ((((d.nodes.getD (lobN (d).nodes v) default)).kind) == 1)) (fun h10 => ?_) (fun h10 => ?_)
    ·
     refine .back [.r [(3, X (rowC intT [v] (Xap 1 intT 112 o [v])))], .r [(0, X (Xn ((i : Int) + 1)))]] [(0, 0), (112, 112)] (ih4 ((i + 1), (o ++ [v])) ?_ ?_)
     ·
      refine ⟨by omega, ?_⟩
      rw [items_next (by omega), itemD_some (hnum.trans (if_pos (by simpa using h8))), if_pos h10, I4.2]; rfl
     ·
      ((try dsimp only); omega)
    ·
     refine .back [.r [(0, X (Xn ((i : Int) + 1)))]] [(0, 0), (112, 112)] (ih4 ((i + 1), o) ?_ ?_)
     ·
      refine ⟨by omega, ?_⟩
      rw [items_next (by omega), itemD_some (hnum.trans (if_pos (by simpa using h8))), if_neg (by rintro ⟨q1, q2⟩; rcases h10 with q | q; (rw [q1] at q; cases q); (exact q q2)), I4.2]; simp
     ·
      ((try dsimp only); omega)
  ·
   have hv : ∀ v, Lib.atoiAll (getA (((shownD n).getD i default)).attrs { data := #[110, 111, 100, 101] } 0).data.toList ≠ .ok v := fun v q => by rw [hav] at q; cases q
   have hnum := num_no hv
   refine .bp [.r [(1, X (Xc0 (fc_atoi0 (getA ((((shownD n).getD i default)).attrs) ({ data := #[110, 111, 100, 101] }) 0) (by assumption) hv) X0))], .r [(3, X (Xskip (!true) (.junk)) rfl), (4, X (Xskip (!true) (.junk)) rfl), (5, X (Xskip (!true) (.junk)) rfl), (6, X (Xskip (!true) (VB false)) rfl), (7, X (Xk' true))]] (true || false) (fun h8 => ?_) (fun h8 => ?_)
   ·
    refine .back [.r [(0, X (Xn ((i : Int) + 1)))]] [(0, 0), (112, 112)] (ih4 ((i + 1), o) ?_ ?_)
    ·
     refine ⟨by omega, ?_⟩
     rw [items_next (by omega), itemD_none hnum, I4.2]; simp
    ·
     ((try dsimp only); omega)
   ·
    exfalso
    simp at h8
  ·
   have hv : ∀ v, Lib.atoiAll (getA (((shownD n).getD i default)).attrs { data := #[110, 111, 100, 101] } 0).data.toList ≠ .ok v := fun v q => by rw [hav] at q; cases q
   have hnum := num_no hv
   refine .bp [.r [(1, X (Xc0 (fc_atoi0 (getA ((((shownD n).getD i default)).attrs) ({ data := #[110, 111, 100, 101] }) 0) (by assumption) hv) X0))], .r [(3, X (Xskip (!true) (.junk)) rfl), (4, X (Xskip (!true) (.junk)) rfl), (5, X (Xskip (!true) (.junk)) rfl), (6, X (Xskip (!true) (VB false)) rfl), (7, X (Xk' true))]] (true || false) (fun h8 => ?_) (fun h8 => ?_)
   ·
    refine .back [.r [(0, X (Xn ((i : Int) + 1)))]] [(0, 0), (112, 112)] (ih4 ((i + 1), o) ?_ ?_)
    ·
     refine ⟨by omega, ?_⟩
     rw [items_next (by omega), itemD_none hnum, I4.2]; simp
    ·
     ((try dsimp only); omega)
   ·
    exfalso
    simp at h8
 ·
  have e1 : ((itemsD d.nodes n) : List Int) = o := by
   rw [I4.2, List.take_of_length_le (by omega)]; rfl
  exact .finE [.r [], .le (.fr 4 [(o.length : Nat) = (List.map intT o).length] ⟨lm, trivial⟩)] [] (fun z0 : List Int => (VL 1 intT z0, [])) _ _ e1
end Go.Ch
end
section
set_option linter.unusedVariables false
namespace Go.Ab
variable {P : Program}

/-- What a store keeps of another one, as far as no world is looked at. -/
structure KN (st : Store) (m : Place) (z : Nat) (st' : Store) (m' : Place) : Prop where
  keep : ∀ id o, st id = some o → ∃ o', st' id = some o' ∧ o.len ≤ o'.len ∧ (o.len = o'.len → m' id = m id) ∧ (o.live = false → o'.live = false) ∧
    (∀ b, m'.has id b → m.has id b ∨ z ≤ b ∨ ∃ i oi, st i = some oi ∧ oi.live = true ∧ m.has i b) ∧ o.same o'
  new : ∀ id o, st' id = some o → st id = none → ∀ b, m'.has id b → z ≤ b ∨ ∃ i oi, st i = some oi ∧ oi.live = true ∧ m.has i b
theorem KN.refl (st : Store) (m : Place) (z : Nat) : KN st m z st m := ⟨fun _ o h => ⟨o, h, Nat.le_refl _, fun _ => rfl, id, fun _ q => .inl q, o.same_refl⟩, fun id o h h' => by rw [h'] at h; cases h⟩
theorem FrameExt.kn {F : Fen P} {st st' : Store} {m m' : Place} {w w' : World} (h : FrameExt F st m w st' m' w') : KN st m w.heap.size st' m' := ⟨h.keep, h.new⟩
theorem KN.back {st st' : Store} {m m' : Place} {z : Nat} (h : KN st m z st' m') {i b : Nat} {oi : Ob} (hi : st' i = some oi) (hl : oi.live = true) (hb : m'.has i b) : z ≤ b ∨ ∃ j oj, st j = some oj ∧ oj.live = true ∧ m.has j b := by
  cases h0 : st i with
  | none => exact h.new i oi hi h0 b hb
  | some o =>
    obtain ⟨o', ho', _, _, hlv, hpl, _⟩ := h.keep i o h0
    rw [hi] at ho'
    cases ho'
    have hol : o.live = true := by
      cases hh : o.live with
      | true => rfl
      | false => rw [hlv hh] at hl; cases hl
    rcases hpl b hb with hp | hp | hp
    · exact .inr ⟨i, o, h0, hol, hp⟩
    · exact .inl hp
    · exact .inr hp
theorem KN.trans {st st1 st2 : Store} {m m1 m2 : Place} {z z1 : Nat} (h : KN st m z st1 m1) (k : KN st1 m1 z1 st2 m2) (hz : z ≤ z1) : KN st m z st2 m2 := by
  have two : ∀ b, (z1 ≤ b ∨ ∃ i oi, st1 i = some oi ∧ oi.live = true ∧ m1.has i b) → z ≤ b ∨ ∃ i oi, st i = some oi ∧ oi.live = true ∧ m.has i b := by
    rintro b (q | ⟨i, oi, q1, q2, q3⟩)
    · exact .inl (by omega)
    · exact h.back q1 q2 q3
  refine ⟨fun id o ho => ?_, fun id o ho hn b hb => ?_⟩
  · obtain ⟨o1, ho1, hl, hm, hlv, hpl, hsh⟩ := h.keep id o ho
    obtain ⟨o2, ho2, hl', hm', hlv', hpl', hsh'⟩ := k.keep id o1 ho1
    refine ⟨o2, ho2, Nat.le_trans hl hl', fun e => ?_, fun e => hlv' (hlv e), fun b hb => ?_, Ob.same_trans hsh hsh'⟩
    · rw [hm' (by omega), hm (by omega)]
    · rcases hpl' b hb with hp | hp
      · exact hpl b hp
      · exact .inr (two b hp)
  · cases h1 : st1 id with
    | none => exact two b (k.new id o ho h1 b hb)
    | some o1 =>
      obtain ⟨o2, _, _, _, _, hpl, _⟩ := k.keep id o1 h1
      rcases hpl b hb with hp | hp
      · exact h.new id o1 h1 hn b hp
      · exact two b hp

theorem SRel.fence {F1 F2 : Fen P} {st : Store} {m : Place} {w : World} (hS : SRel F1 st m w) (hok : ∀ b, okB F1 st m w b → okB F2 st m w b) (ha : ∀ id o b, st id = some o → m.has id b → ¬ F2 b) (hl : ∀ b, F2 b → b < w.heap.size)
    (hh : ∀ b o, F2.says b o → w.heap[b]? = some o) : SRel F2 st m w :=
  ⟨fun id o ho => (hS.objs id o ho).ext (fun _ _ h => ⟨h, rfl⟩) hok, hS.inj, ha, hS.lt, hl, hh⟩

/-- What is packed behind a function value: the objects, call by call ('St'); the blocks that it has from the start ('g0'); those of them that no data lie in ('X'); the blocks of others ('gC'); values that stand in every call ('va', 'vu'); what else is known of the world ('E'). -/
structure Pk (P : Program) where
  F : Fen P
  w0 : World
  g0 : List Nat
  gC : List Nat
  X : Nat → Prop
  hX : ∀ b, X b → b ∈ g0
  St : List (List Tree) → Store
  S0 : Store
  m0 : Place
  va : Nat → AVal
  vu : Nat → Value
  E : List (List Tree) → World → Prop
  hE : ∀ pre w w', E pre w → (∀ b ∈ g0, w'.heap[b]? = w.heap[b]?) → E pre w'
  sD : ∀ b o, F.says b o → b < w0.heap.size ∧ b ∉ g0 ∧ b ∉ gC
  low : ∀ b, F b → b < w0.heap.size
  rnd : Option Nat
variable {k : Pk P} {g : List Nat} {z : Nat} {st : Store} {m : Place} {w w' : World} {b : Nat}
def Pk.D (k : Pk P) (b : Nat) : Prop := b < k.w0.heap.size ∧ b ∉ k.g0 ∧ b ∉ k.gC ∧ ¬ k.F.bar b
def Pk.may (k : Pk P) (g : List Nat) (b : Nat) : Prop := (b ∈ g ∧ ¬ k.X b) ∨ k.D b
/-- The fence of a call. -/
def Pk.fy (k : Pk P) (g : List Nat) (z : Nat) : Fen P where
  mem b := k.F b ∨ (b < z ∧ ¬ k.may g b)
  bar b := b < z ∧ ¬ k.may g b ∧ ∀ x, ¬ k.F.says b x
  says := k.F.says
  sub b o h := .inl (k.F.sub b o h)
  sup b h := .inr ⟨h.1, h.2.1⟩
  tab := k.F.tab
  opn b o h hb := hb.2.2 o h
  cel := k.F.cel
  rnd := k.rnd
  lo := 0
theorem Pk.saysD {o : Obj} (h : k.F.says b o) : k.D b := ⟨(k.sD b o h).1, (k.sD b o h).2.1, (k.sD b o h).2.2, k.F.opn b o h⟩
theorem Pk.ok_may (h : okB (k.fy g z) st m w b) (hz : b < z) : k.may g b := Classical.byContradiction fun hn => h.2.1 ⟨hz, hn, fun x hx => hn (.inr (Pk.saysD hx))⟩
theorem Pk.ok_mk (h : b < w.heap.size) (hm : k.may g b) (hl : ∀ id o, st id = some o → o.live = true → ¬ m.has id b) : okB (k.fy g z) st m w b := ⟨h, fun hb => hb.2.1 hm, hl⟩
structure Pk.At (k : Pk P) (pre : List (List Tree)) (g : List Nat) (m : Place) (w : World) : Prop where
  rel : SRel (k.fy g w.heap.size) (k.St pre) m w
  kn : KN k.S0 k.m0 k.w0.heap.size (k.St pre) m
  own : ∀ id o b, k.St pre id = some o → m.has id b → b ∈ g ∧ ¬ k.X b
  g0 : ∀ b ∈ k.g0, b ∈ g
  gn : ∀ b ∈ g, b ∈ k.g0 ∨ k.w0.heap.size ≤ b
  gl : ∀ b ∈ g, b < w.heap.size
  sz : k.w0.heap.size ≤ w.heap.size
  val : ∀ t, VRel (k.St pre) m w (okB (k.fy g w.heap.size) (k.St pre) m w) (k.va t) (k.vu t)
/-- Elsewhere the world may change. -/
theorem Pk.At.move {pre : List (List Tree)} (h : k.At pre g m w) (hsz : w.heap.size ≤ w'.heap.size) (hs : Still (okB (k.fy g w.heap.size) (k.St pre) m w) w w') (hb : ∀ id o b, k.St pre id = some o → m.has id b → w'.heap[b]? = w.heap[b]?)
    (hx : ∀ id Y p, k.St pre id = some (.ext Y p) → Y.holds p (m.g id) w → (∀ b, Y.D b → okB (k.fy g w.heap.size) (k.St pre) m w b) → Y.holds p (m.g id) w') : k.At pre g m w' := by
  have hok : ∀ b, okB (k.fy g w.heap.size) (k.St pre) m w b → okB (k.fy g w'.heap.size) (k.St pre) m w' b := fun b hb => Pk.ok_mk (by have := hb.1; omega) (Pk.ok_may hb hb.1) hb.2.2
  refine ⟨⟨fun id o ho => (h.rel.objs id o ho).still hok hs (fun Y p e => hx id Y p (e ▸ ho)) (fun b q => hb id o b ho q), h.rel.inj, fun id o b ho hm hf => ?_, fun id o b ho hm => Nat.lt_of_lt_of_le (h.rel.lt id o b ho hm) hsz, fun b hf => ?_, fun b o hh => ?_⟩, h.kn, h.own, h.g0, h.gn,
    fun b q => Nat.lt_of_lt_of_le (h.gl b q) hsz, Nat.le_trans h.sz hsz, fun t => (h.val t).still hok hs⟩
  · rcases hf with hf | hf
    · exact h.rel.avoid id o b ho hm (.inl hf)
    · exact hf.2 (.inl (h.own id o b ho hm))
  · rcases hf with hf | hf
    · have := k.low b hf; have := h.sz; omega
    · exact hf.1
  · have h1 := h.rel.hold b o hh
    obtain ⟨us, e, z, rfl⟩ := k.F.cel b o hh
    have hlt := (Array.getElem?_eq_some_iff.1 h1).1
    by_cases hlv : ∃ id o, k.St pre id = some o ∧ o.live = true ∧ m.has id b
    · obtain ⟨id, o, q1, q2, q3⟩ := hlv
      rw [hb id o b q1 q3]; exact h1
    · rw [hs b us e z (Pk.ok_mk hlt (.inr (Pk.saysD hh)) (fun id o q1 q2 q3 => hlv ⟨id, o, q1, q2, q3⟩)) h1]; exact h1
def Pk.holds (k : Pk P) (pre : List (List Tree)) (g : List Nat) (w : World) : Prop := (∃ m, k.At pre g m w) ∧ k.E pre w
def Pk.spec (k : Pk P) (fn : Value) (kind : (∃ f cap, fn = .func (.func f) #[] cap) ∨ ∃ l, fn = .func (.yield l) #[] #[]) (goes : List (List Tree) → Bool) (adm : List (List Tree) → List Tree → Prop) : YSpec where
  fn := fn
  kind := kind
  goes := goes
  adm := adm
  D := k.D
  holds := k.holds
  stab := by
    rintro pre g w w' ⟨⟨m, h⟩, hE⟩ hsz hg hD
    have hs : ∀ b, okB (k.fy g w.heap.size) (k.St pre) m w b → w'.heap[b]? = w.heap[b]? := fun b hb => by
      rcases Pk.ok_may hb hb.1 with q | q
      · exact hg b q.1
      · exact hD b q
    exact ⟨⟨m, h.move hsz (fun b us e z hb _ => hs b hb) (fun id o b ho hm => hg b (h.own id o b ho hm).1) (fun id Y p ho hh hY => Y.stab _ _ _ _ hh hsz (fun b hb => hg b (h.own id _ b ho (.inr hb)).1) (fun b hb => hs b (hY b hb)))⟩,
      k.hE pre w w' hE (fun b hb => hg b (h.g0 b hb))⟩
  stabD := by
    rintro pre g w w' q ⟨⟨m, h⟩, hE⟩ hq hqg hsz hb
    refine ⟨⟨m, h.move (by omega) (fun b us e z _ hc => hb b (fun e => by subst e; rw [hq] at hc; cases hc)) (fun id o b ho hm => hb b (fun e => hqg (e ▸ (h.own id o b ho hm).1))) (fun id Y p ho hh hY => Y.stabD _ _ _ _ q hh hq (fun hm => hqg (h.own id _ q ho (.inr hm)).1) hsz hb)⟩,
      k.hE pre w w' hE (fun b hg => hb b (fun e => hqg (e ▸ h.g0 b hg)))⟩

/-! ### One call more -/
def grow (g : List Nat) (z z' : Nat) : List Nat := g ++ List.range' z (z' - z)
theorem mem_grow {z' : Nat} : b ∈ grow g z z' ↔ b ∈ g ∨ (z ≤ b ∧ b < z') := by
  unfold grow
  rw [List.mem_append, List.mem_range'_1]
  constructor
  · rintro (h | h)
    · exact .inl h
    · exact .inr ⟨h.1, by omega⟩
  · rintro (h | h)
    · exact .inl h
    · exact .inr ⟨h.1, by omega⟩
theorem Pk.At.next {pre pre' : List (List Tree)} {m' : Place} (h : k.At pre g m w) (hS : SRel (k.fy g w.heap.size) (k.St pre') m' w') (hF : KN (k.St pre) m w.heap.size (k.St pre') m') (hsz : w.heap.size ≤ w'.heap.size)
    (hv : ∀ t, VRel (k.St pre') m' w' (okB (k.fy g w.heap.size) (k.St pre') m' w') (k.va t) (k.vu t)) : k.At pre' (grow g w.heap.size w'.heap.size) m' w' := by
  have hXlt : ∀ b, k.X b → b < w.heap.size := fun b hb => h.gl b (h.g0 b (k.hX b hb))
  have own : ∀ id o b, k.St pre' id = some o → m'.has id b → b ∈ grow g w.heap.size w'.heap.size ∧ ¬ k.X b := by
    intro id o b ho hm
    have hlt := hS.lt id o b ho hm
    have old : (∃ i oi, k.St pre i = some oi ∧ m.has i b) ∨ w.heap.size ≤ b := by
      cases h0 : k.St pre id with
      | none =>
        rcases hF.new id o ho h0 b hm with q | ⟨i, oi, q1, _, q2⟩
        · exact .inr q
        · exact .inl ⟨i, oi, q1, q2⟩
      | some o0 =>
        obtain ⟨o', _, _, _, _, hp, _⟩ := hF.keep id o0 h0
        rcases hp b hm with q | q | ⟨i, oi, q1, _, q2⟩
        · exact .inl ⟨id, o0, h0, q⟩
        · exact .inr q
        · exact .inl ⟨i, oi, q1, q2⟩
    rcases old with ⟨i, oi, q1, q2⟩ | q
    · obtain ⟨r1, r2⟩ := h.own i oi b q1 q2
      exact ⟨mem_grow.2 (.inl r1), r2⟩
    · exact ⟨mem_grow.2 (.inr ⟨q, hlt⟩), fun hx => by have := hXlt b hx; omega⟩
  have hok : ∀ b, okB (k.fy g w.heap.size) (k.St pre') m' w' b → okB (k.fy (grow g w.heap.size w'.heap.size) w'.heap.size) (k.St pre') m' w' b := fun b hb => by
    refine Pk.ok_mk hb.1 ?_ hb.2.2
    by_cases hlt : b < w.heap.size
    · rcases Pk.ok_may hb hlt with q | q
      · exact .inl ⟨mem_grow.2 (.inl q.1), q.2⟩
      · exact .inr q
    · exact .inl ⟨mem_grow.2 (.inr ⟨by omega, hb.1⟩), fun hx => by have := hXlt b hx; omega⟩
  refine ⟨hS.fence hok (fun id o b ho hm hf => ?_) (fun b hf => ?_) hS.hold, h.kn.trans hF h.sz, own, fun b hb => mem_grow.2 (.inl (h.g0 b hb)), fun b hb => ?_, fun b hb => ?_, Nat.le_trans h.sz hsz, fun t => (hv t).ext (fun _ _ h => ⟨h, rfl⟩) hok⟩
  · rcases hf with hf | hf
    · exact hS.avoid id o b ho hm (.inl hf)
    · exact hf.2 (.inl (own id o b ho hm))
  · rcases hf with hf | hf
    · have := k.low b hf; have := h.sz; omega
    · exact hf.1
  · rcases mem_grow.1 hb with q | q
    · exact h.gn b q
    · have := h.sz; exact .inr (by omega)
  · rcases mem_grow.1 hb with q | q
    · have := h.gl b q; omega
    · exact q.2
end Go.Ab
end
