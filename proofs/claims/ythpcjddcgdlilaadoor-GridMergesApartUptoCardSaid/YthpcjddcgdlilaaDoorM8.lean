/- Merged rectangles: valid lists of them. -/
import Derived.Test.YthpcjddcgdlilaaDoorM1
import Derived.Test.YthpcjddcgdlilaaDoorM2
import Derived.Test.YthpcjddcgdlilaaDoorM3
import Derived.Test.YthpcjddcgdlilaaDoorM4
import Derived.Test.YthpcjddcgdlilaaDoorM5
import Derived.Test.YthpcjddcgdlilaaDoorM6
import Derived.Test.YthpcjddcgdlilaaDoorM7
import Derived.Test.YthpcjddcgdlilaaDoorRows
section
set_option linter.unusedVariables false
namespace Go.Ch
open Go Go.Ab

theorem mergE_all {l : List Rect} {m n : Int} : ∀ (k i : Nat), l.length - i = k →
    (mergE l m n i = 0 ↔ ∀ j, i ≤ j → j < l.length → insB (l.getD j default) m n = true ∧ ¬ ((l.getD j default).h = 1 ∧ (l.getD j default).w = 1) ∧ (0 < j → befB (l.getD (j - 1) default) (l.getD j default) = true) ∧ anyM (l.take j) (l.getD j default) = false)
  | 0, i, h => by
    rw [mergE, if_neg (by omega)]
    exact ⟨fun _ j h1 h2 => by omega, fun _ => rfl⟩
  | k + 1, i, h => by
    have ih := mergE_all (l := l) (m := m) (n := n) k (i + 1) (by omega)
    rw [mergE, if_pos (by omega)]
    by_cases c1 : insB (l.getD i default) m n = false
    · rw [if_pos c1]
      refine ⟨fun q => (by cases q), fun q => ?_⟩
      have := (q i (Nat.le_refl _) (by omega)).1
      rw [c1] at this; cases this
    · rw [if_neg c1]
      by_cases c2 : (l.getD i default).h = 1 ∧ (l.getD i default).w = 1
      · rw [if_pos c2]
        exact ⟨fun q => (by cases q), fun q => absurd c2 (q i (Nat.le_refl _) (by omega)).2.1⟩
      · rw [if_neg c2]
        by_cases c3 : 0 < i ∧ befB (l.getD (i - 1) default) (l.getD i default) = false
        · rw [if_pos c3]
          refine ⟨fun q => (by cases q), fun q => ?_⟩
          have := (q i (Nat.le_refl _) (by omega)).2.2.1 c3.1
          rw [c3.2] at this; cases this
        · rw [if_neg c3]
          by_cases c4 : anyM (l.take i) (l.getD i default) = true
          · rw [if_pos c4]
            refine ⟨fun q => (by cases q), fun q => ?_⟩
            have := (q i (Nat.le_refl _) (by omega)).2.2.2
            rw [c4] at this; cases this
          · rw [if_neg c4, ih]
            refine ⟨fun q j h1 h2 => ?_, fun q j h1 h2 => q j (by omega) h2⟩
            by_cases e : i = j
            · subst e
              refine ⟨by simpa using c1, c2, fun h0 => ?_, by simpa using c4⟩
              cases hb : befB (l.getD (i - 1) default) (l.getD i default) with
              | true => rfl
              | false => exact absurd ⟨h0, hb⟩ c3
            · exact q j (by omega) h2
theorem bef_trans {a b c : Rect} (h1 : befB a b = true) (h2 : befB b c = true) : befB a c = true := by
  rw [befB_iff] at *; omega
/-- A valid list of rectangles. -/
structure MV (l : List Rect) (m n : Int) : Prop where
  ins : ∀ r ∈ l, insB r m n = true
  big : ∀ r ∈ l, ¬ (r.h = 1 ∧ r.w = 1)
  pw : l.Pairwise (fun a b => befB a b = true ∧ meetB a b = false)
theorem mergE_iff {l : List Rect} {m n : Int} : mergE l m n 0 = 0 ↔ MV l m n := by
  rw [mergE_all _ 0 rfl]
  constructor
  · intro h
    refine ⟨fun r hr => ?_, fun r hr => ?_, ?_⟩
    · obtain ⟨j, hj, rfl⟩ := mem_getDX hr
      exact (h j (Nat.zero_le _) hj).1
    · obtain ⟨j, hj, rfl⟩ := mem_getDX hr
      exact (h j (Nat.zero_le _) hj).2.1
    · have hb : ∀ d p, p + d + 1 < l.length → befB (l.getD p default) (l.getD (p + d + 1) default) = true := by
        intro d
        induction d with
        | zero => intro p hp; exact (h (p + 0 + 1) (Nat.zero_le _) hp).2.2.1 (by omega)
        | succ d ih =>
          intro p hp
          have h1 := ih p (by omega)
          have h2 := (h (p + (d + 1) + 1) (Nat.zero_le _) hp).2.2.1 (by omega)
          rw [show p + (d + 1) + 1 - 1 = p + d + 1 by omega] at h2
          exact bef_trans h1 h2
      rw [List.pairwise_iff_getElem]
      intro p q hp hq hpq
      have e1 : l[p] = l.getD p default := by simp [List.getD, List.getElem?_eq_getElem hp]
      have e2 : l[q] = l.getD q default := by simp [List.getD, List.getElem?_eq_getElem hq]
      rw [e1, e2]
      refine ⟨?_, ?_⟩
      · have := hb (q - p - 1) p (by omega)
        rwa [show p + (q - p - 1) + 1 = q by omega] at this
      · have h3 := (h q (Nat.zero_le _) hq).2.2.2
        cases hm : meetB (l.getD p default) (l.getD q default) with
        | false => rfl
        | true =>
          have := anyM_take.2 ⟨p, hpq, hp, hm⟩
          rw [h3] at this; cases this
  · intro h j _ hj
    have hpw := List.pairwise_iff_getElem.1 h.pw
    have hg : ∀ p (hp : p < l.length), l[p] = l.getD p default := fun p hp => by simp [List.getD, List.getElem?_eq_getElem hp]
    refine ⟨h.ins _ (getDX_mem hj), h.big _ (getDX_mem hj), fun h0 => ?_, ?_⟩
    · have := (hpw (j - 1) j (by omega) hj (by omega)).1
      rwa [hg, hg] at this
    · cases ha : anyM (l.take j) (l.getD j default) with
      | false => rfl
      | true =>
        obtain ⟨p, p1, p2, p3⟩ := anyM_take.1 ha
        have := (hpw p j p2 hj p1).2
        rw [hg, hg, p3] at this; cases this
/-- Apart: no two of them meet. -/
def Apart (l : List Rect) : Prop := l.Pairwise (fun a b => meetB a b = false)
theorem addQ_apart {l : List Rect} {r : Rect} (h : Apart l) : Apart (addQ l r) := by
  unfold addQ Apart
  rw [List.pairwise_append]
  refine ⟨h.filter _, List.pairwise_singleton _ _, fun a ha b hb => ?_⟩
  rw [List.mem_singleton.1 hb]
  unfold delL at ha
  simpa using (List.mem_filter.1 ha).2
theorem foldl_apart : ∀ (ms l : List Rect), Apart l → Apart (ms.foldl addQ l)
  | [], l, h => h
  | r :: ms, l, h => foldl_apart ms (addQ l r) (addQ_apart h)
theorem addQ_all {P : Rect → Prop} {l : List Rect} {r : Rect} (h : ∀ q ∈ l, P q) (hr : P r) : ∀ q ∈ addQ l r, P q := fun q hq => by
  unfold addQ delL at hq
  rcases List.mem_append.1 hq with hq | hq
  · exact h q (List.mem_filter.1 hq).1
  · rw [List.mem_singleton.1 hq]; exact hr
theorem foldl_all {P : Rect → Prop} : ∀ (ms l : List Rect), (∀ q ∈ l, P q) → (∀ r ∈ ms, P r) → ∀ q ∈ ms.foldl addQ l, P q
  | [], l, h, _ => h
  | r :: ms, l, h, hm => foldl_all ms (addQ l r) (addQ_all h (hm r (by simp))) (fun x hx => hm x (by simp [hx]))
theorem meet_f {a b : Rect} (h : meetB a b = false) : ¬ (a.row < b.row + b.h ∧ b.row < a.row + a.h ∧ a.col < b.col + b.w ∧ b.col < a.col + a.w) := fun q => by
  rw [meetB_iff.2 q] at h; cases h
theorem bef_of_apart {a b : Rect} {m n : Int} (ha : insB a m n = true) (hb : insB b m n = true) (h1 : befB b a = false) (h2 : meetB a b = false) : befB a b = true := by
  have u := insB_iff.1 ha
  have v := insB_iff.1 hb
  have w := meet_f h2
  rw [bef_f] at h1
  rw [befB_iff]
  omega
theorem apart_perm {l k : List Rect} (h : l.Perm k) (ha : Apart k) : Apart l :=
  (List.Perm.pairwise_iff (fun {a b} (q : meetB a b = false) => by rw [meetB_comm]; exact q) h).2 ha
theorem sort_mv {l : List Rect} {m n : Int} (h1 : ∀ r ∈ l, insB r m n = true) (h2 : ∀ r ∈ l, ¬ (r.h = 1 ∧ r.w = 1)) (h3 : Apart l) : MV (sortQ l) m n := by
  have hp := sortQ_perm l
  have i1 : ∀ r ∈ sortQ l, insB r m n = true := fun r hr => h1 r (hp.mem_iff.1 hr)
  refine ⟨i1, fun r hr => h2 r (hp.mem_iff.1 hr), ?_⟩
  have ha := apart_perm hp h3
  rw [List.pairwise_iff_getElem]
  intro i j hi hj hij
  have ha' := List.pairwise_iff_getElem.1 ha i j hi hj hij
  refine ⟨?_, ha'⟩
  have hs := sortQ_sorted l i j hij (by rw [sortQ_len] at hj; exact hj)
  rw [show (sortQ l).getD j default = (sortQ l)[j] by simp [List.getD, List.getElem?_eq_getElem hj], show (sortQ l).getD i default = (sortQ l)[i] by simp [List.getD, List.getElem?_eq_getElem hi]] at hs
  exact bef_of_apart (i1 _ (List.getElem_mem hi)) (i1 _ (List.getElem_mem hj)) hs ha'
end Go.Ch
end
section
set_option linter.unusedVariables false
namespace Go.Ch
open Go Go.Ab

theorem hull_last : ∀ {l : List AxStep} (hl : Form l) (f t first last old now : Int), 0 ≤ now →
    (hullS l f t first last old now).2 = last ∨ ∃ p, old ≤ p ∧ f ≤ p ∧ p < t ∧ 0 ≤ placeS l p old now ∧ (hullS l f t first last old now).2 = placeS l p old now + 1
  | [], _, f, t, first, last, old, now, h0 => .inl rfl
  | s :: l, hl, f, t, first, last, old, now, h0 => by
    have hn := hl.head.2.2
    have hk := kinds hl.head
    rw [hullS]
    by_cases k1 : s.kind = 1
    · rw [if_neg (by omega : ¬ ((s.kind = 0 ∧ max f old < min t (old + s.n)) ∧ last = 0)), if_neg (by omega : ¬ (s.kind = 0 ∧ max f old < min t (old + s.n))), if_pos k1, if_neg (by omega : ¬ s.kind = 2)]
      rcases hull_last hl.tail f t first last old (now + s.n) (by omega) with h | ⟨p, p1, p2, p3, p4, p5⟩
      · exact .inl h
      · exact .inr ⟨p, p1, p2, p3, by rw [placeS, if_pos k1]; exact p4, by rw [placeS, if_pos k1]; exact p5⟩
    · by_cases k0 : s.kind = 0
      · rw [if_neg k1, if_neg (by omega : ¬ s.kind = 2)]
        have hpl : ∀ p, old + s.n ≤ p → placeS (s :: l) p old now = placeS l p (old + s.n) (now + s.n) := fun p hp => by rw [placeS, if_neg k1, if_pos k0, if_neg (by omega)]
        have hps : ∀ p, p < old + s.n → placeS (s :: l) p old now = now + p - old := fun p hp => by rw [placeS, if_neg k1, if_pos k0, if_pos hp]
        rcases hull_last hl.tail f t (if (s.kind = 0 ∧ max f old < min t (old + s.n)) ∧ last = 0 then now + max f old - old else first) (if s.kind = 0 ∧ max f old < min t (old + s.n) then now + min t (old + s.n) - old else last) (old + s.n) (now + s.n) (by omega) with h | ⟨p, p1, p2, p3, p4, p5⟩
        · by_cases c : s.kind = 0 ∧ max f old < min t (old + s.n)
          · have hp := hps (min t (old + s.n) - 1) (by omega)
            refine .inr ⟨min t (old + s.n) - 1, by omega, by omega, by omega, by omega, ?_⟩
            rw [h, hp, if_pos c]; omega
          · rw [h, if_neg c]; exact .inl rfl
        · exact .inr ⟨p, by omega, p2, p3, by rw [hpl p p1]; exact p4, by rw [hpl p p1]; exact p5⟩
      · have k2 : s.kind = 2 := by omega
        rw [if_neg (by omega : ¬ ((s.kind = 0 ∧ max f old < min t (old + s.n)) ∧ last = 0)), if_neg (by omega : ¬ (s.kind = 0 ∧ max f old < min t (old + s.n))), if_neg k1, if_pos k2]
        rcases hull_last hl.tail f t first last (old + s.n) now h0 with h | ⟨p, p1, p2, p3, p4, p5⟩
        · exact .inl h
        · have hpl : placeS (s :: l) p old now = placeS l p (old + s.n) now := by rw [placeS, if_neg k1, if_neg k0, if_neg (by omega)]
          exact .inr ⟨p, by omega, p2, p3, by rw [hpl]; exact p4, by rw [hpl]; exact p5⟩
/-- A kept row's place lies in what there is afterwards. -/
theorem place_lt : ∀ {l : List AxStep} (hl : Form l) (p fr tq : Int), fr ≤ p → 0 ≤ placeS l p fr tq → placeS l p fr tq < tq + newU (ex l)
  | [], _, p, fr, tq, h, h0 => by simp [placeS] at h0
  | s :: l, hl, p, fr, tq, h, h0 => by
    have hn := hl.head.2.2
    have hk := kinds hl.head
    have e : (newU (ex (s :: l)) : Int) = (if s.kind = 2 then 0 else s.n) + newU (ex l) := by
      rw [ex, new_rep, Int.toNat_of_nonneg (by omega)]
    rw [e]
    rw [placeS] at h0 ⊢
    by_cases k1 : s.kind = 1
    · rw [if_pos k1] at h0 ⊢
      rw [if_neg (show ¬ s.kind = 2 by omega)]
      have := place_lt hl.tail p fr (tq + s.n) h h0
      omega
    · rw [if_neg k1] at h0 ⊢
      by_cases k0 : s.kind = 0
      · rw [if_pos k0] at h0 ⊢
        rw [if_neg (show ¬ s.kind = 2 by omega)]
        by_cases c : p < fr + s.n
        · rw [if_pos c] at h0 ⊢
          have : (0 : Int) ≤ newU (ex l) := by omega
          omega
        · rw [if_neg c] at h0 ⊢
          have := place_lt hl.tail p (fr + s.n) (tq + s.n) (by omega) h0
          omega
      · rw [if_neg k0] at h0 ⊢
        by_cases c : p < fr + s.n
        · rw [if_pos c] at h0; omega
        · rw [if_neg c] at h0 ⊢
          rw [if_pos (show s.kind = 2 by omega)]
          have := place_lt hl.tail p (fr + s.n) tq (by omega) h0
          omega
/-- What one range leaves ends where the other's rest begins, or before. -/
theorem hull_apart {l : List AxStep} (hl : Form l) {f1 t1 f2 t2 : Int} (h0 : 0 ≤ f1) (h : t1 ≤ f2) (hn1 : (hullS l f1 t1 0 0 0 0).2 ≠ 0) (hn2 : (hullS l f2 t2 0 0 0 0).2 ≠ 0) : (hullS l f1 t1 0 0 0 0).2 ≤ (hullS l f2 t2 0 0 0 0).1 := by
  rcases hull_last hl f1 t1 0 0 0 0 (Int.le_refl _) with e | ⟨p, p1, p2, p3, p4, p5⟩
  · exact absurd e hn1
  · rcases hull_left hl f2 t2 0 0 0 p (Int.le_refl _) p1 (by omega) p4 with e | e
    · exact absurd e hn2
    · omega
theorem hull_new {l : List AxStep} (hl : Form l) (f t : Int) : (hullS l f t 0 0 0 0).2 ≤ newU (ex l) := by
  rcases hull_last hl f t 0 0 0 0 (Int.le_refl _) with e | ⟨p, p1, p2, p3, p4, p5⟩
  · rw [e]; omega
  · have := place_lt hl p 0 0 p1 p4
    omega
/-- Two rectangles that are apart stay so, where both are left. -/
theorem thr_apart {a b : Rect} {rows cols : List AxStep} (ha : QIn rows cols a) (hb : QIn rows cols b) (h : meetB a b = false) (h1 : 1 ≤ a.h) (h2 : 1 ≤ a.w) (h3 : 1 ≤ b.h) (h4 : 1 ≤ b.w)
    (va : thrB (thrR a rows cols) = true) (vb : thrB (thrR b rows cols) = true) : meetB (thrR a rows cols) (thrR b rows cols) = false := by
  have hm := meet_f h
  cases hc : meetB (thrR a rows cols) (thrR b rows cols) with
  | false => rfl
  | true =>
    exfalso
    rw [meetB_iff] at hc
    unfold thrB at va vb
    rw [decide_eq_true_eq] at va vb
    have hap : ∀ (l : List AxStep) (f1 t1 f2 t2 : Int), Form l → 0 ≤ f1 → t1 ≤ f2 → (hullS l f1 t1 0 0 0 0).1 < (hullS l f1 t1 0 0 0 0).2 → (hullS l f2 t2 0 0 0 0).1 < (hullS l f2 t2 0 0 0 0).2 → 0 ≤ (hullS l f1 t1 0 0 0 0).1 → 0 ≤ (hullS l f2 t2 0 0 0 0).1 → (hullS l f1 t1 0 0 0 0).2 ≤ (hullS l f2 t2 0 0 0 0).1 :=
      fun l f1 t1 f2 t2 hl h0 hle n1 n2 z1 z2 => hull_apart hl h0 hle (by omega) (by omega)
    unfold thrR at hc va vb
    obtain ⟨_, ra, ca⟩ := ha
    obtain ⟨_, rb, cb⟩ := hb
    by_cases c1 : 0 < rows.length <;> by_cases c2 : 0 < cols.length
    all_goals simp only [c1, c2, if_true, if_false] at hc va vb
    · obtain ⟨v1, w1⟩ := ra c1
      obtain ⟨_, w2⟩ := rb c1
      obtain ⟨v2, w3⟩ := ca c2
      obtain ⟨_, w4⟩ := cb c2
      have b1 := hull_bd v1 w1; have b2 := hull_bd v1 w2; have b3 := hull_bd v2 w3; have b4 := hull_bd v2 w4
      by_cases q1 : a.row + a.h ≤ b.row
      · have := hap rows a.row (a.row + a.h) b.row (b.row + b.h) v1.1 w1.1 q1 (by omega) (by omega) (by omega) (by omega); omega
      · by_cases q2 : b.row + b.h ≤ a.row
        · have := hap rows b.row (b.row + b.h) a.row (a.row + a.h) v1.1 w2.1 q2 (by omega) (by omega) (by omega) (by omega); omega
        · by_cases q3 : a.col + a.w ≤ b.col
          · have := hap cols a.col (a.col + a.w) b.col (b.col + b.w) v2.1 w3.1 q3 (by omega) (by omega) (by omega) (by omega); omega
          · have := hap cols b.col (b.col + b.w) a.col (a.col + a.w) v2.1 w4.1 (show b.col + b.w ≤ a.col by omega) (by omega) (by omega) (by omega) (by omega); omega
    · obtain ⟨v1, w1⟩ := ra c1
      obtain ⟨_, w2⟩ := rb c1
      have b1 := hull_bd v1 w1; have b2 := hull_bd v1 w2
      by_cases q1 : a.row + a.h ≤ b.row
      · have := hap rows a.row (a.row + a.h) b.row (b.row + b.h) v1.1 w1.1 q1 (by omega) (by omega) (by omega) (by omega); omega
      · have := hap rows b.row (b.row + b.h) a.row (a.row + a.h) v1.1 w2.1 (show b.row + b.h ≤ a.row by omega) (by omega) (by omega) (by omega) (by omega); omega
    · obtain ⟨v2, w3⟩ := ca c2
      obtain ⟨_, w4⟩ := cb c2
      have b3 := hull_bd v2 w3; have b4 := hull_bd v2 w4
      by_cases q3 : a.col + a.w ≤ b.col
      · have := hap cols a.col (a.col + a.w) b.col (b.col + b.w) v2.1 w3.1 q3 (by omega) (by omega) (by omega) (by omega); omega
      · have := hap cols b.col (b.col + b.w) a.col (a.col + a.w) v2.1 w4.1 (show b.col + b.w ≤ a.col by omega) (by omega) (by omega) (by omega) (by omega); omega
    · omega
theorem keepQ_apart {rows cols : List AxStep} {split : List Rect} : ∀ {l : List Rect}, Apart l → (∀ r ∈ l, QIn rows cols r ∧ 1 ≤ r.h ∧ 1 ≤ r.w) → Apart (keepQ l rows cols split)
  | [], _, _ => List.Pairwise.nil
  | a :: l, h, hq => by
    obtain ⟨p1, p2⟩ := List.pairwise_cons.1 h
    have ih := keepQ_apart (l := l) (split := split) p2 (fun r hr => hq r (by simp [hr]))
    unfold keepQ at *
    rw [List.filterMap_cons]
    unfold keepO at *
    by_cases c : thrB (thrR a rows cols) = true ∧ hasQ split (thrR a rows cols) = false
    · rw [if_pos c]
      refine List.pairwise_cons.2 ⟨fun y hy => ?_, ih⟩
      obtain ⟨b, hb, he⟩ := List.mem_filterMap.1 hy
      split at he
      · rename_i c2
        cases he
        obtain ⟨q1, q2, q3⟩ := hq a (by simp)
        obtain ⟨r1, r2, r3⟩ := hq b (by simp [hb])
        exact thr_apart q1 r1 (p1 b hb) q2 q3 r2 r3 c.1 c2.1
      · cases he
    · rw [if_neg c]; exact ih
theorem keepQ_ins {rows cols : List AxStep} {split l : List Rect} {m n : Int} (hl : ∀ r ∈ l, insB r m n = true ∧ QIn rows cols r) : ∀ q ∈ keepQ l rows cols split, insB q (nwS m rows) (nwS n cols) = true ∧ ¬ (q.h = 1 ∧ q.w = 1) := fun q hq => by
  unfold keepQ at hq
  obtain ⟨r, hr, he⟩ := List.mem_filterMap.1 hq
  unfold keepO at he
  split at he
  · rename_i c
    cases he
    obtain ⟨h1, _, ra, ca⟩ := hl r hr
    have u := insB_iff.1 h1
    have hb := c.1
    unfold thrB at hb
    rw [decide_eq_true_eq] at hb
    rw [insB_iff]
    unfold thrR nwS newI at *
    by_cases c1 : 0 < rows.length <;> by_cases c2 : 0 < cols.length
    all_goals simp only [c1, c2, if_true, if_false] at hb ⊢
    · obtain ⟨v1, w1⟩ := ra c1
      obtain ⟨v2, w2⟩ := ca c2
      have b1 := hull_bd v1 w1; have b2 := hull_bd v2 w2
      have n1 := hull_new v1.1 r.row (r.row + r.h); have n2 := hull_new v2.1 r.col (r.col + r.w)
      omega
    · obtain ⟨v1, w1⟩ := ra c1
      have b1 := hull_bd v1 w1
      have n1 := hull_new v1.1 r.row (r.row + r.h)
      omega
    · obtain ⟨v2, w2⟩ := ca c2
      have b2 := hull_bd v2 w2
      have n2 := hull_new v2.1 r.col (r.col + r.w)
      omega
    · omega
  · cases he
/-- The merged rectangles after an edit are valid. -/
theorem raw_mv {x : Grid} {e : GEd} (hm : MV x.merges x.rows x.cols) (hr : RawIn x e) (he : ∀ r ∈ e.merge, insB r (nwS x.rows e.rows) (nwS x.cols e.cols) = true ∧ ¬ (r.h = 1 ∧ r.w = 1)) : MV (rawGr x e).merges (rawGr x e).rows (rawGr x e).cols := by
  have hk := keepQ_ins (rows := e.rows) (cols := e.cols) (split := e.split) (l := x.merges) (m := x.rows) (n := x.cols) (fun r h => ⟨hm.ins r h, hr.q r h⟩)
  have ha : Apart x.merges := hm.pw.imp (fun h => h.2)
  have hka := keepQ_apart (rows := e.rows) (cols := e.cols) (split := e.split) ha (fun r h => ⟨hr.q r h, by have := insB_iff.1 (hm.ins r h); omega, by have := insB_iff.1 (hm.ins r h); omega⟩)
  have hall := foldl_all (P := fun q => insB q (nwS x.rows e.rows) (nwS x.cols e.cols) = true ∧ ¬ (q.h = 1 ∧ q.w = 1)) e.merge _ hk he
  exact sort_mv (fun r h => (hall r h).1) (fun r h => (hall r h).2) (foldl_apart _ _ hka)
end Go.Ch
end
section
set_option linter.unusedVariables false
namespace Go.Ch
open Go Go.Ab

theorem mvR_in {a : List AxStep} {p m : Int} (hp : PIn a p) (h0 : 0 ≤ p ∧ p < m) (hn : ¬ (0 < a.length ∧ mvR a p < 0)) : 0 ≤ mvR a p ∧ mvR a p < nwS m a := by
  unfold mvR at hn ⊢
  unfold nwS newI
  by_cases c : 0 < a.length
  · rw [if_pos c] at hn ⊢
    rw [if_pos c]
    obtain ⟨v, p0, _⟩ := hp c
    have h1 : 0 ≤ placeS a p 0 0 := by
      refine Classical.byContradiction fun q => hn ⟨c, by omega⟩
    have := place_lt v.1 p 0 0 p0 h1
    omega
  · rw [if_neg c, if_neg c]; exact h0
theorem mov_cell {rows cols : List AxStep} {c d : Cell} {m n : Int} (hr : PIn rows c.row) (hc : PIn cols c.col) (h : cellE c m n false = 0) (hd : mvC rows cols c = some d) : cellE d (nwS m rows) (nwS n cols) false = 0 := by
  obtain ⟨a1, a2, rfl⟩ := mvC_some hd
  obtain ⟨h1, h2, h3, h4, h5⟩ := cellE_iff.1 h
  have b1 := mvR_in (m := m) hr ⟨h1.1, h1.2.1⟩ a1
  have b2 := mvR_in (m := n) hc ⟨h1.2.2.1, h1.2.2.2⟩ a2
  exact cellE_iff.2 ⟨⟨b1.1, b1.2, b2.1, b2.2⟩, h2, h3, h4, h5⟩
/-- The cells after an edit are valid. -/
theorem raw_cells {x : Grid} {e : GEd} (h1 : cellsE x.cells x.rows x.cols false 0 = 0) (h2 : cellsE e.cells 2147483647 2147483647 true 0 = 0) (hr : RawIn x e) (hf : ∀ c ∈ e.cells, c.row < nwS x.rows e.rows ∧ c.col < nwS x.cols e.cols) :
    cellsE (rawGr x e).cells (rawGr x e).rows (rawGr x e).cols false 0 = 0 := by
  obtain ⟨a1, a2⟩ := cellsE_iff.1 h1
  obtain ⟨b1, b2⟩ := cellsE_iff.1 h2
  refine cellsE_iff.2 ⟨fun c hc => ?_, put_asc _ _ b2 (mov_asc a2 hr.p1 hr.p2)⟩
  rcases put_mem _ _ c hc with ⟨h, he⟩ | h
  · obtain ⟨q1, q2, q3, q4, _⟩ := cellE_iff.1 (b1 c h)
    have := hf c h
    exact cellE_iff.2 ⟨⟨q1.1, this.1, q1.2.2.1, this.2⟩, q2, q3, q4, fun _ => he⟩
  · obtain ⟨c0, hc0, hm⟩ := List.mem_filterMap.1 h
    exact mov_cell (hr.p1 c0 hc0) (hr.p2 c0 hc0) (a1 c0 hc0) hm
theorem gridE_iff {g : Grid} : gridE g = 0 ↔ (0 ≤ g.rows ∧ g.rows ≤ 2147483647 ∧ 0 ≤ g.cols ∧ g.cols ≤ 2147483647) ∧ cellsE g.cells g.rows g.cols false 0 = 0 ∧ MV g.merges g.rows g.cols := by
  unfold gridE
  by_cases c1 : g.rows < 0 ∨ 2147483647 < g.rows ∨ g.cols < 0 ∨ 2147483647 < g.cols
  · rw [if_pos c1]; exact ⟨fun q => (by cases q), fun q => by omega⟩
  · rw [if_neg c1]
    by_cases c2 : cellsE g.cells g.rows g.cols false 0 = 0
    · rw [if_neg (fun q => q c2), mergE_iff]
      exact ⟨fun q => ⟨by omega, c2, q⟩, fun q => q.2.2⟩
    · rw [if_pos c2]
      exact ⟨fun q => absurd q c2, fun q => q.2.1⟩
/-- A grid after an edit is valid. -/
theorem raw_valid {x : Grid} {e : GEd} (h : AppIn x e) : gridE (rawGr x e) = 0 := by
  obtain ⟨hg, he, hf, hr, _⟩ := h
  obtain ⟨g1, g2, g3⟩ := gridE_iff.1 hg
  have b1 := nwS_bd (n := x.rows) he.okr (by omega)
  have b2 := nwS_bd (n := x.cols) he.okc (by omega)
  exact gridE_iff.2 ⟨⟨b1.1, b1.2, b2.1, b2.2⟩, raw_cells g2 he.cells hr hf.cells, raw_mv g3 hr (fun r hm => ⟨hf.merge r hm, (he.merge r hm).2⟩)⟩
end Go.Ch
end
section
set_option linter.unusedVariables false
namespace Go.Ch
open Go Go.Ab

end Go.Ch
end
section
set_option linter.unusedVariables false
namespace Go.Ch
open Go Go.Ab

theorem sameC_self (c : Cell) : sameC c c = true := by
  unfold sameC
  simp only [Bool.and_eq_true, beq_iff_eq, true_and]
  exact ⟨⟨seq_iff.2 rfl, trivial⟩, sameL_self c.attrs⟩
theorem sameCells_self (a : List Cell) : ∀ (k i : Nat), a.length - i = k → sameCells a a i = true
  | 0, i, h => by rw [sameCells, if_neg (by omega)]
  | k + 1, i, h => by rw [sameCells, if_pos (by omega), if_pos (sameC_self _)]; exact sameCells_self a k (i + 1) (by omega)
end Go.Ch
end
section
set_option linter.unusedVariables false
namespace Go.Ch
open Go Go.Ab

/-- Lengths of a grid's lists. -/
structure LimG (k : Nat) (g : Grid) : Prop where
  c : g.cells.length ≤ k
  m : g.merges.length ≤ k
  a : CAN 1000000000000 g.cells
structure LimE (k : Nat) (e : GEd) : Prop where
  c : e.cells.length ≤ k
  s : e.split.length ≤ k
  m : e.merge.length ≤ k
  a : CAN 1000000000000 e.cells
theorem LimG.mono {k l : Nat} {g : Grid} (h : LimG k g) (hk : k ≤ l) : LimG l g := ⟨Nat.le_trans h.c hk, Nat.le_trans h.m hk, h.a⟩
theorem LimE.mono {k l : Nat} {g : GEd} (h : LimE k g) (hk : k ≤ l) : LimE l g := ⟨Nat.le_trans h.c hk, Nat.le_trans h.s hk, Nat.le_trans h.m hk, h.a⟩
theorem pin_of {a : List AxStep} {n p : Int} (v : Valid a) (f : 0 < a.length → oldI a = n) (h0 : 0 ≤ p) (h : p < n) : PIn a p := fun q => ⟨v, h0, by rw [f q]; exact h⟩
theorem app_in {k : Nat} {x : Grid} {e : GEd} (hk : k ≤ 10000000000) (hg : gridE x = 0) (he : EdOk e) (hf : FitOk x e) (lx : LimG k x) (le : LimE k e) : AppIn x e := by
  obtain ⟨g1, g2, g3⟩ := gridE_iff.1 hg
  obtain ⟨a1, a2⟩ := cellsE_iff.1 g2
  refine ⟨hg, he, hf, ⟨fun _ => he.okr, fun _ => he.okc, by have := lx.c; omega, by have := le.c; omega, by have := lx.m; omega, by have := le.m; omega, lx.a, le.a, fun c hc => ?_, fun c hc => ?_, fun r hr => ?_, fun r hr => ?_⟩, by have := le.s; omega⟩
  · have := (cellE_iff.1 (a1 c hc)).1
    exact pin_of he.okr hf.rows this.1 this.2.1
  · have := (cellE_iff.1 (a1 c hc)).1
    exact pin_of he.okc hf.cols this.2.2.1 this.2.2.2
  · have hi := g3.ins r hr
    have := insB_iff.1 hi
    exact ⟨RB_ins hi (by omega) (by omega), fun q => ⟨he.okr, by omega, by omega, by rw [hf.rows q]; omega⟩, fun q => ⟨he.okc, by omega, by omega, by rw [hf.cols q]; omega⟩⟩
  · exact RB_ins (he.merge r hr).1 (by decide) (by decide)
/-! ### Differences -/
theorem foldl_len : ∀ (ms l : List Rect), (ms.foldl addQ l).length ≤ l.length + ms.length
  | [], l => by simp
  | r :: ms, l => by
    have := foldl_len ms (addQ l r)
    have := addQ_len l r
    rw [List.foldl_cons, List.length_cons]; omega
theorem raw_mlen (x : Grid) (e : GEd) : (rawGr x e).merges.length ≤ x.merges.length + e.merge.length := by
  show (sortQ (e.merge.foldl addQ (keepQ x.merges e.rows e.cols e.split))).length ≤ _
  rw [(sortQ_perm _).length_eq]
  have := foldl_len e.merge (keepQ x.merges e.rows e.cols e.split)
  have := keepQ_len x.merges e.rows e.cols e.split
  omega
/-! ### The undone axes -/
theorem ins_mono {r : Rect} {m n m' n' : Int} (h : insB r m n = true) (h1 : m ≤ m') (h2 : n ≤ n') : insB r m' n' = true := by
  have := insB_iff.1 h
  exact insB_iff.2 (by omega)
theorem chkA_nil : chkA false [] 0 = 0 := by decide +kernel
theorem textG_nil : textG { data := #[] } = true := textG_end (by decide)
/-- What an edit and its undoing give. -/
structure UndOk (x : Grid) (e : GEd) : Prop where
  und : UndIn x e
  app : AppIn (rawGr x e) (undoE x e)
  back : rawGr (rawGr x e) (undoE x e) = x
end Go.Ch
end
section
set_option linter.unusedVariables false
namespace Go.Ch
open Go Go.Ab

theorem asc_app : ∀ {a b : List Cell}, Asc a → Asc b → (∀ x ∈ a, ∀ y ∈ b, ordC x y < 0) → Asc (a ++ b)
  | [], b, _, h, _ => h
  | x :: a, b, h1, h2, h3 => ⟨fun y hy => by
      rcases List.mem_append.1 hy with hy | hy
      · exact h1.1 y hy
      · exact h3 x (by simp) y hy, asc_app h1.2 h2 (fun z hz y hy => h3 z (by simp [hz]) y hy)⟩
theorem asc_one : ∀ {l : List Cell}, l.length ≤ 1 → Asc l
  | [], _ => trivial
  | [c], _ => ⟨fun x hx => (by cases hx), trivial⟩
  | a :: b :: l, h => by simp at h
theorem flat_succ {f : Nat → List Cell} (k : Nat) : (List.range (k + 1)).flatMap f = (List.range k).flatMap f ++ f k := by
  rw [List.range_succ, List.flatMap_append]; simp
theorem row_all (f : Nat → List Cell) (r : Nat) (P : Cell → Prop) (h1 : ∀ k, ∀ c ∈ f k, c.row = (r : Int) ∧ c.col = (k : Int) ∧ P c) (h2 : ∀ k, (f k).length ≤ 1) :
    ∀ k : Nat, (∀ c ∈ (List.range k).flatMap f, c.row = (r : Int) ∧ 0 ≤ c.col ∧ c.col < (k : Int) ∧ P c) ∧ Asc ((List.range k).flatMap f)
  | 0 => ⟨fun c hc => by simp at hc, trivial⟩
  | k + 1 => by
    obtain ⟨i1, i2⟩ := row_all f r P h1 h2 k
    rw [flat_succ]
    refine ⟨fun c hc => ?_, asc_app i2 (asc_one (h2 k)) (fun x hx y hy => ?_)⟩
    · rcases List.mem_append.1 hc with hc | hc
      · obtain ⟨q1, q2, q3, q4⟩ := i1 c hc
        exact ⟨q1, q2, by omega, q4⟩
      · obtain ⟨q1, q2, q4⟩ := h1 k c hc
        exact ⟨q1, by omega, by omega, q4⟩
    · obtain ⟨q1, q2, q3, q4⟩ := i1 x hx
      obtain ⟨p1, p2, p4⟩ := h1 k y hy
      rw [ordC_lt]; omega
theorem tab_all (f : Nat → Nat → List Cell) (n : Nat) (P : Cell → Prop) (h1 : ∀ r k, ∀ c ∈ f r k, c.row = (r : Int) ∧ c.col = (k : Int) ∧ P c) (h2 : ∀ r k, (f r k).length ≤ 1) :
    ∀ r : Nat, (∀ c ∈ (List.range r).flatMap (fun r => (List.range n).flatMap (f r)), 0 ≤ c.row ∧ c.row < (r : Int) ∧ 0 ≤ c.col ∧ c.col < (n : Int) ∧ P c) ∧ Asc ((List.range r).flatMap (fun r => (List.range n).flatMap (f r)))
  | 0 => ⟨fun c hc => by simp at hc, trivial⟩
  | r + 1 => by
    obtain ⟨i1, i2⟩ := tab_all f n P h1 h2 r
    obtain ⟨j1, j2⟩ := row_all (f r) r P (h1 r) (h2 r) n
    rw [flat_succ]
    refine ⟨fun c hc => ?_, asc_app i2 j2 (fun x hx y hy => ?_)⟩
    · rcases List.mem_append.1 hc with hc | hc
      · obtain ⟨q1, q2, q3, q4, q5⟩ := i1 c hc
        exact ⟨q1, by omega, q3, q4, q5⟩
      · obtain ⟨q1, q2, q3, q4⟩ := j1 c hc
        exact ⟨by omega, by omega, q2, q3, q4⟩
    · obtain ⟨q1, q2, q3, q4, q5⟩ := i1 x hx
      obtain ⟨p1, p2, p3, p4⟩ := j1 y hy
      rw [ordC_lt]; omega
/-- A cell with one of two texts alone. -/
def DrC (text : ByteArray) (c : Cell) : Prop := (c.text = text ∨ c.text = { data := #[] }) ∧ c.ref = 0 ∧ c.attrs = []
theorem edC_mem {raw : List Int} {text : ByteArray} {cols : Nat} (r k : Nat) (c : Cell) (h : c ∈ edC raw text cols r k) : c.row = (r : Int) ∧ c.col = (k : Int) ∧ DrC text c := by
  unfold edC at h
  split at h
  · cases h
  · split at h
    · rw [List.mem_singleton.1 h]; exact ⟨rfl, rfl, .inl rfl, rfl, rfl⟩
    · split at h
      · rw [List.mem_singleton.1 h]; exact ⟨rfl, rfl, .inr rfl, rfl, rfl⟩
      · cases h
theorem edA_all (raw : List Int) (text : ByteArray) (cols r : Nat) : (∀ c ∈ edA raw text cols r, 0 ≤ c.row ∧ c.row < (r : Int) ∧ 0 ≤ c.col ∧ c.col < (cols : Int) ∧ DrC text c) ∧ Asc (edA raw text cols r) :=
  tab_all (edC raw text cols) cols (DrC text) (fun r k c h => edC_mem r k c h) (fun r k => edC_len raw text cols r k) r
theorem newI_nil {l : List AxStep} (h : ¬ 0 < l.length) : newI l = 0 := by
  have : l = [] := List.length_eq_zero_iff.1 (by omega)
  subst this; rfl
theorem nwS_new {n p : Int} {l : List AxStep} (h0 : 0 ≤ p) (h : p < newI l) : nwS n l = newI l := by
  unfold nwS
  by_cases c : 0 < l.length
  · rw [if_pos c]
  · rw [newI_nil c] at h; omega
theorem edM_mem {raw : List Int} {rows cols : Int} {ms : Bool} {r : Rect} (h : r ∈ edM raw rows cols ms) : 1 < rows ∧ 1 < cols ∧ insB r rows cols = true ∧ r.h = 2 ∧ r.w = 2 := by
  unfold edM at h
  split at h
  · rename_i q
    have b1 := withinI_bd (raw.getD 0 default) (lo := 0) (hi := rows - 2) (by omega)
    have b2 := withinI_bd (raw.getD (raw.length - 1) default) (lo := 0) (hi := cols - 2) (by omega)
    rw [List.mem_singleton.1 h]
    exact ⟨q.2.1, q.2.2.1, insB_iff.2 (by simp only []; omega), rfl, rfl⟩
  · cases h
structure EdtOk (x : Grid) (e : GEd) : Prop where
  ed : EdOk e
  fit : FitOk x e
  lim : LimE 1000000 e
  split : e.split = []
  cells : ∀ c ∈ e.cells, c.attrs = []
  nr : newI e.rows ≤ 1000 ∧ newI e.cols ≤ 1000
  lr : oldI e.rows = x.rows ∧ oldI e.cols = x.cols
theorem edit_ok {x : Grid} (raw : List Int) {text : ByteArray} (ms : Bool) (hr : 0 ≤ x.rows ∧ x.rows ≤ 100) (hc : 0 ≤ x.cols ∧ x.cols ≤ 100) (ht : textG text = true) : EdtOk x (editE x raw text ms) := by
  obtain ⟨r1, r2, r3, r4⟩ := fit_ok (raw.take (raw.length / 2)) x.rows hr.1 (by omega)
  obtain ⟨c1, c2, c3, c4⟩ := fit_ok (raw.drop (raw.length / 2)) x.cols hc.1 (by omega)
  generalize hR : stepsL (fitU (raw.take (raw.length / 2)) x.rows.toNat) 0 [] = R at r1 r2 r3 r4
  generalize hC : stepsL (fitU (raw.drop (raw.length / 2)) x.cols.toNat) 0 [] = C at c1 c2 c3 c4
  have he : editE x raw text ms = ⟨R, C, edA raw text (newI C).toNat (newI R).toNat, [], edM raw (newI R) (newI C) ms⟩ := by
    unfold editE fitR; rw [hR, hC]
  rw [he]
  obtain ⟨a1, a2⟩ := edA_all raw text (newI C).toNat (newI R).toNat
  have hl := edA_len raw text (newI C).toNat (newI R).toNat
  have hm : (newI R).toNat * (newI C).toNat ≤ 302 * 302 := Nat.mul_le_mul (by omega) (by omega)
  have hml : (edM raw (newI R) (newI C) ms).length ≤ 1 := by unfold edM; split <;> simp
  have hcell : ∀ c ∈ edA raw text (newI C).toNat (newI R).toNat, 0 ≤ c.row ∧ c.row < newI R ∧ 0 ≤ c.col ∧ c.col < newI C ∧ DrC text c := fun c h => by
    obtain ⟨q1, q2, q3, q4, q5⟩ := a1 c h
    exact ⟨q1, by omega, q3, by omega, q5⟩
  refine ⟨⟨r1, c1, cellsE_iff.2 ⟨fun c h => ?_, a2⟩, fun r h => (by cases h), fun r h => ?_⟩, ⟨fun _ => r2, fun _ => c2, fun c h => ?_, fun r h => (by cases h), fun r h => ?_⟩, ⟨by show (edA raw text (newI C).toNat (newI R).toNat).length ≤ _; omega, Nat.zero_le _, by show (edM raw (newI R) (newI C) ms).length ≤ _; omega, fun c h => ?_⟩, rfl, fun c h => (hcell c h).2.2.2.2.2.2, ⟨by show newI R ≤ _; omega, by show newI C ≤ _; omega⟩, r2, c2⟩
  · obtain ⟨q1, q2, q3, q4, q5, q6, q7⟩ := hcell c h
    refine cellE_iff.2 ⟨by omega, by omega, ?_, ?_, fun q => by cases q⟩
    · rcases q5 with q5 | q5 <;> rw [q5]
      · exact ht
      · exact textG_nil
    · rw [q7]; exact chkA_nil
  · obtain ⟨q1, q2, q3, q4, q5⟩ := edM_mem h
    exact ⟨ins_mono q3 (by omega) (by omega), by omega⟩
  · obtain ⟨q1, q2, q3, q4, q5⟩ := hcell c h
    show c.row < nwS x.rows R ∧ c.col < nwS x.cols C
    rw [nwS_new q1 q2, nwS_new q3 q4]; exact ⟨q2, q4⟩
  · obtain ⟨q1, q2, q3, q4, q5⟩ := edM_mem h
    show insB r (nwS x.rows R) (nwS x.cols C) = true
    rw [nwS_new (p := 0) (by decide) (by omega), nwS_new (p := 0) (by decide) (by omega)]; exact q3
  · rw [(hcell c h).2.2.2.2.2.2]; exact Nat.zero_le _
/-! ### The board -/
def BdC (c : Cell) : Prop := (∃ v : Int, (2 ≤ v ∧ v ≤ 4) ∧ c.text = bdT v) ∧ c.ref = 0 ∧ c.attrs = []
end Go.Ch
end
section
set_option linter.unusedVariables false
namespace Go.Ch
open Go Go.Ab

structure UndAll (x : Grid) (e : GEd) : Prop where
  app : AppIn x e
  und : UndIn x e
  app2 : AppIn (rawGr x e) (undoE x e)
  len : (rawGr x e).merges.length ≤ 100000000000
  sz : SzC (rawGr x e).cells
  back : rawGr (rawGr x e) (undoE x e) = x
  ok : gridE (rawGr x e) = 0
theorem small_iff {x : Grid} {e : GEd} : smallB x e = true ↔ ((x.rows ≤ 30 ∧ x.cols ≤ 30) ∧ sumN e.rows ≤ 60) ∧ sumN e.cols ≤ 60 := by
  unfold smallB
  simp only [Bool.and_eq_true, decide_eq_true_eq]
theorem txN : textG { data := #[110] } = true := by decide +kernel
end Go.Ch
end
section
set_option linter.unusedVariables false
namespace Go.Ch
open Go Go.Ab

def sumTo (f : Nat → Int) : Nat → Int
  | 0 => 0
  | n + 1 => sumTo f n + f n
theorem sumTo_add (f g : Nat → Int) : ∀ n, sumTo (fun i => f i + g i) n = sumTo f n + sumTo g n
  | 0 => rfl
  | n + 1 => by rw [sumTo, sumTo, sumTo, sumTo_add f g n]; omega
theorem sumTo_zero : ∀ n, sumTo (fun _ => 0) n = 0
  | 0 => rfl
  | n + 1 => by rw [sumTo, sumTo_zero n]; rfl
theorem sumTo_bd {f : Nat → Int} {k : Int} (h : ∀ i, 0 ≤ f i ∧ f i ≤ k) (hk : 0 ≤ k) : ∀ n : Nat, 0 ≤ sumTo f n ∧ sumTo f n ≤ n * k
  | 0 => by simp [sumTo]
  | n + 1 => by
    have := sumTo_bd h hk n
    have := h n
    rw [sumTo, Int.natCast_add, Int.add_mul]
    omega
theorem sumTo_ind (a b k : Int) (ha : 0 ≤ a) (hb : a ≤ b) : ∀ n : Nat, sumTo (fun i => if a ≤ (i : Int) ∧ (i : Int) < b then k else 0) n = (max a (min b n) - a) * k
  | 0 => by
    have : max a (min b ((0 : Nat) : Int)) - a = 0 := by omega
    rw [this, Int.zero_mul]; rfl
  | n + 1 => by
    rw [sumTo, sumTo_ind a b k ha hb n]
    by_cases c : a ≤ (n : Int) ∧ (n : Int) < b
    · rw [if_pos c]
      have e1 : max a (min b (n : Int)) = n := by omega
      have e2 : max a (min b ((n + 1 : Nat) : Int)) = n + 1 := by omega
      rw [e1, e2, show (n : Int) + 1 - a = (n - a) + 1 by omega, Int.add_mul, Int.one_mul]
    · rw [if_neg c]
      have : max a (min b (n : Int)) = max a (min b ((n + 1 : Nat) : Int)) := by omega
      rw [this, Int.add_zero]
/-- The rectangle holds the position. -/
def inQ (q : Rect) (r c : Int) : Bool := decide ((q.row ≤ r ∧ r < q.row + q.h) ∧ (q.col ≤ c ∧ c < q.col + q.w))
/-- The rectangle of a position. -/
def covQ (l : List Rect) (r c : Int) (i : Nat) : Rect := if i < l.length then (if inQ (l.getD i default) r c = true then l.getD i default else covQ l r c (i + 1)) else ⟨r, c, 1, 1⟩
termination_by l.length - i
def anyQ (l : List Rect) (r c : Int) : Bool := l.any (fun q => inQ q r c)
theorem covQ_spec (l : List Rect) (r c : Int) : ∀ (k i : Nat), l.length - i = k → (anyQ (l.drop i) r c = false ∧ covQ l r c i = ⟨r, c, 1, 1⟩) ∨ (anyQ (l.drop i) r c = true ∧ covQ l r c i ∈ l)
  | 0, i, h => by rw [covQ, if_neg (by omega), List.drop_eq_nil_of_le (by omega)]; exact .inl ⟨rfl, rfl⟩
  | k + 1, i, h => by
    have hi : i < l.length := by omega
    rw [covQ, if_pos hi, drop_succD hi]
    unfold anyQ
    rw [List.any_cons]
    by_cases hp : inQ (l.getD i default) r c = true
    · rw [if_pos hp, hp]; exact .inr ⟨rfl, getDX_mem hi⟩
    · rw [if_neg hp]
      rcases covQ_spec l r c k (i + 1) (by omega) with ⟨a, b⟩ | ⟨a, b⟩
      · refine .inl ⟨?_, b⟩
        unfold anyQ at a
        rw [a]; simpa using hp
      · refine .inr ⟨?_, b⟩
        unfold anyQ at a
        rw [a, Bool.or_true]
/-- Ones and zeros: the position lies in one of the rectangles. -/
def cnt1 (l : List Rect) (r : Int) (c : Nat) : Int := if anyQ l r c = true then 1 else 0
def cntR (l : List Rect) (C : Nat) (r : Nat) : Int := sumTo (cnt1 l r) C
def cntA (l : List Rect) (R C : Nat) : Int := sumTo (cntR l C) R
def areaL (l : List Rect) : Int := (l.map fun q => q.h * q.w).sum
theorem mul_big {h w : Int} (h1 : 1 ≤ h) (h2 : 1 ≤ w) (h3 : ¬ (h = 1 ∧ w = 1)) : 1 < h * w := by
  by_cases c : h = 1
  · rw [c, Int.one_mul]; omega
  · have := Int.mul_le_mul (a := 2) (b := 1) (c := h) (d := w) (by omega) h2 (by decide) (by omega)
    omega
/-- What the loop asks of a position. -/
theorem cov_cnt {l : List Rect} {m n : Int} (hl : ∀ r ∈ l, insB r m n = true ∧ ¬ (r.h = 1 ∧ r.w = 1)) (r : Int) (c : Nat) : cnt1 l r c = if 1 < (covQ l r c 0).h * (covQ l r c 0).w then 1 else 0 := by
  unfold cnt1
  rcases covQ_spec l r c _ 0 rfl with ⟨a, b⟩ | ⟨a, b⟩
  · rw [List.drop_zero] at a
    rw [a, b, if_neg (by decide), if_neg (show ¬ (1 : Int) < 1 * 1 by decide)]
  · rw [List.drop_zero] at a
    obtain ⟨h1, h2⟩ := hl _ b
    have := insB_iff.1 h1
    rw [if_pos a, if_pos (mul_big (by omega) (by omega) h2)]
theorem cntA_nil (R C : Nat) : cntA [] R C = 0 := by
  unfold cntA
  have : cntR [] C = fun _ => 0 := by
    funext r
    unfold cntR
    have : cnt1 [] r = fun _ => 0 := by funext c; rfl
    rw [this, sumTo_zero]
  rw [this, sumTo_zero]
theorem cntA_one {q : Rect} {m n : Int} (h : insB q m n = true) : cntA [q] m.toNat n.toNat = q.h * q.w := by
  have u := insB_iff.1 h
  unfold cntA
  have : cntR [q] n.toNat = fun r : Nat => if q.row ≤ (r : Int) ∧ (r : Int) < q.row + q.h then q.w else 0 := by
    funext r
    unfold cntR
    by_cases c : q.row ≤ (r : Int) ∧ (r : Int) < q.row + q.h
    · rw [if_pos c]
      have e : cnt1 [q] r = fun k : Nat => if q.col ≤ (k : Int) ∧ (k : Int) < q.col + q.w then 1 else 0 := by
        funext k
        unfold cnt1 anyQ inQ
        simp only [List.any_cons, List.any_nil, Bool.or_false, decide_eq_true_eq]
        by_cases d : q.col ≤ (k : Int) ∧ (k : Int) < q.col + q.w
        · rw [if_pos ⟨c, d⟩, if_pos d]
        · rw [if_neg (fun p => d p.2), if_neg d]
      rw [e, sumTo_ind _ _ _ (by omega) (by omega), Int.mul_one]; omega
    · rw [if_neg c]
      have e : cnt1 [q] r = fun _ => 0 := by
        funext k
        unfold cnt1 anyQ inQ
        simp only [List.any_cons, List.any_nil, Bool.or_false, decide_eq_true_eq]
        rw [if_neg (fun p => c p.1)]
      rw [e, sumTo_zero]
  rw [this, sumTo_ind _ _ _ (by omega) (by omega)]
  congr 1; omega
theorem cntA_cons {q : Rect} {l : List Rect} {R C : Nat} (h : ∀ p ∈ l, meetB q p = false) : cntA (q :: l) R C = cntA [q] R C + cntA l R C := by
  unfold cntA
  rw [← sumTo_add]
  congr 1
  funext r
  unfold cntR
  rw [← sumTo_add]
  congr 1
  funext c
  unfold cnt1 anyQ
  rw [List.any_cons, List.any_cons, List.any_nil, Bool.or_false]
  cases h1 : inQ q r c with
  | false => rw [Bool.false_or, if_neg (show ¬ (false = true) by decide), Int.zero_add]
  | true =>
    have h2 : (l.any fun q => inQ q r c) = false := by
      rw [List.any_eq_false]
      intro p hp h3
      have := meet_f (h p hp)
      unfold inQ at h1 h3
      rw [decide_eq_true_eq] at h1 h3
      omega
    rw [h2]; rfl
theorem area_cnt {m n : Int} : ∀ {l : List Rect}, (∀ r ∈ l, insB r m n = true) → Apart l → areaL l = cntA l m.toNat n.toNat
  | [], _, _ => (cntA_nil _ _).symm
  | q :: l, h, ha => by
    obtain ⟨h1, h2⟩ := List.pairwise_cons.1 ha
    rw [cntA_cons h1, cntA_one (h q (by simp)), ← area_cnt (fun r hr => h r (by simp [hr])) h2]
    rfl
theorem area_take (l : List Rect) (i : Nat) (h : i < l.length) : areaL (l.take (i + 1)) = areaL (l.take i) + (l.getD i default).h * (l.getD i default).w := by
  unfold areaL
  rw [take_succD h, List.map_append, List.sum_append]
  simp
/-- A product of sides. -/
theorem side_bd {q : Rect} {m n : Int} (h : insB q m n = true) (hm : m ≤ 100000) (hn : n ≤ 100000) : 1 ≤ q.h * q.w ∧ q.h * q.w ≤ 10000000000 := by
  have u := insB_iff.1 h
  have h1 := Int.mul_le_mul (a := 1) (b := 1) (c := q.h) (d := q.w) (by omega) (by omega) (by decide) (by omega)
  have h2 := Int.mul_le_mul (a := q.h) (b := q.w) (c := 100000) (d := 100000) (by omega) (by omega) (by omega) (by decide)
  omega
theorem area_bd {m n : Int} (hm : m ≤ 100000) (hn : n ≤ 100000) : ∀ {l : List Rect}, (∀ r ∈ l, insB r m n = true) → 0 ≤ areaL l ∧ areaL l ≤ l.length * 10000000000
  | [], _ => by simp [areaL]
  | q :: l, h => by
    have := area_bd hm hn (l := l) (fun r hr => h r (by simp [hr]))
    have := side_bd (h q (by simp)) hm hn
    have e : areaL (q :: l) = q.h * q.w + areaL l := rfl
    rw [e, List.length_cons, Int.natCast_add, Int.add_mul]
    omega
theorem cnt1_bd (l : List Rect) (r : Int) (c : Nat) : 0 ≤ cnt1 l r c ∧ cnt1 l r c ≤ 1 := by unfold cnt1; split <;> decide
end Go.Ch
end
section
set_option linter.unusedVariables false
namespace Go.Ch
open Go Go.Ab

theorem sameCs_eq {a b : List Cell} (h : a = b) : sameCs a b = true := by
  subst h
  unfold sameCs
  rw [if_pos rfl, sameCells_self _ _ 0 rfl]
/-- A grid whose rectangles lie apart, of a size that can be counted. -/
structure ApIn (h : Grid) : Prop where
  mv : MV h.merges h.rows h.cols
  rb : 0 ≤ h.rows ∧ h.rows ≤ 1000
  cb : 0 ≤ h.cols ∧ h.cols ≤ 1000
  ml : h.merges.length ≤ 100000000
theorem ap_take {h : Grid} (u : ApIn h) (i : Nat) : 0 ≤ areaL (h.merges.take i) ∧ areaL (h.merges.take i) ≤ 1000000000000000000 := by
  have := area_bd (m := h.rows) (n := h.cols) (by have := u.rb; omega) (by have := u.cb; omega) (l := h.merges.take i) (fun r hr => u.mv.ins r (List.mem_of_mem_take hr))
  have h2 : (h.merges.take i).length ≤ h.merges.length := by rw [List.length_take]; omega
  have := u.ml
  omega
theorem ap_all {h : Grid} (u : ApIn h) : 0 ≤ areaL h.merges ∧ areaL h.merges ≤ 1000000000000000000 := by
  have := ap_take u h.merges.length
  rwa [List.take_length] at this
theorem cntR_bd (l : List Rect) (C r : Nat) : 0 ≤ cntR l C r ∧ cntR l C r ≤ C := by
  have := sumTo_bd (cnt1_bd l r) (by decide) C
  unfold cntR; omega
theorem ap_row {h : Grid} (u : ApIn h) (r : Nat) (hr : r ≤ h.rows.toNat) : (0 ≤ areaL h.merges ∧ areaL h.merges ≤ 1000000000000000000) ∧ 0 ≤ sumTo (cntR h.merges h.cols.toNat) r ∧ sumTo (cntR h.merges h.cols.toNat) r ≤ 1000000 := by
  have h1 := sumTo_bd (fun i => cntR_bd h.merges h.cols.toNat i) (by omega) r
  have h2 : (r : Int) * (h.cols.toNat : Int) ≤ 1000 * 1000 := Int.mul_le_mul (by have := u.rb; omega) (by have := u.cb; omega) (by omega) (by decide)
  exact ⟨ap_all u, h1.1, by omega⟩
theorem ap_col (h : Grid) (r c : Nat) : 0 ≤ sumTo (cnt1 h.merges r) c ∧ sumTo (cnt1 h.merges r) c ≤ c := by
  have := sumTo_bd (cnt1_bd h.merges r) (by decide) c
  omega
theorem ap_mem {h : Grid} (u : ApIn h) (i : Nat) (hi : i < h.merges.length) : (1 ≤ (h.merges.getD i default).h * (h.merges.getD i default).w ∧ (h.merges.getD i default).h * (h.merges.getD i default).w ≤ 10000000000) :=
  side_bd (u.mv.ins _ (getDX_mem hi)) (by have := u.rb; omega) (by have := u.cb; omega)
theorem ap_cov {h : Grid} (u : ApIn h) (r c : Nat) : (1 ≤ (covQ h.merges r c 0).h * (covQ h.merges r c 0).w ∧ (covQ h.merges r c 0).h * (covQ h.merges r c 0).w ≤ 10000000000) ∧ cnt1 h.merges r c = if 1 < (covQ h.merges r c 0).h * (covQ h.merges r c 0).w then 1 else 0 := by
  refine ⟨?_, cov_cnt (fun q hq => ⟨u.mv.ins q hq, u.mv.big q hq⟩) r c⟩
  rcases covQ_spec h.merges r c _ 0 rfl with ⟨a, b⟩ | ⟨a, b⟩
  · rw [b]; exact (show (1 : Int) ≤ 1 * 1 ∧ (1 : Int) * 1 ≤ 10000000000 by decide)
  · exact side_bd (u.mv.ins _ b) (by have := u.rb; omega) (by have := u.cb; omega)
theorem ap_end {h : Grid} (u : ApIn h) : areaL h.merges - sumTo (cntR h.merges h.cols.toNat) h.rows.toNat = 0 := by
  have := area_cnt u.mv.ins (u.mv.pw.imp (fun q => q.2))
  unfold cntA at this
  omega
theorem ap_rb {h : Grid} (u : ApIn h) : AllRB h.merges := fun q hq => RB_ins (u.mv.ins q hq) (by have := u.rb; omega) (by have := u.cb; omega)
structure ApAll (x : Grid) (e : GEd) : Prop where
  app : AppIn x e
  app2 : AppIn x ⟨e.rows, e.cols, e.cells, e.split, []⟩
  same : sameCs (rawGr x e).cells (rawGr x ⟨e.rows, e.cols, e.cells, e.split, []⟩).cells = true
  rb : AllRB (rawGr x e).merges
  ap : ApIn (rawGr x e)
theorem apart_all {x : Grid} (raw : List Int) (hg : gridE x = 0) (hs : smallB x ⟨[], [], [], [], []⟩ = true) (lx : LimG 90000000 x) : ApAll x (editE x raw { data := #[110] } true) := by
  have h := (small_iff.1 hs).1.1
  obtain ⟨⟨g1, g2, g3, g4⟩, _, _⟩ := gridE_iff.1 hg
  have e := edit_ok raw true ⟨g1, by omega⟩ ⟨g3, by omega⟩ txN
  generalize editE x raw { data := #[110] } true = ed at e
  have ha := app_in (k := 90000000) (by decide) hg e.ed e.fit lx (e.lim.mono (by decide))
  have hb : AppIn x ⟨ed.rows, ed.cols, ed.cells, ed.split, []⟩ := app_in (k := 90000000) (by decide) hg ⟨e.ed.okr, e.ed.okc, e.ed.cells, e.ed.split, fun r hr => (by cases hr)⟩ ⟨e.fit.rows, e.fit.cols, e.fit.cells, e.fit.split, fun r hr => (by cases hr)⟩ lx ⟨by have := e.lim.c; show ed.cells.length ≤ _; omega, by have := e.lim.s; show ed.split.length ≤ _; omega, Nat.zero_le _, e.lim.a⟩
  obtain ⟨v1, v2, v3⟩ := gridE_iff.1 (raw_valid ha)
  have bd : ∀ {n : Int} {l : List AxStep}, Valid l → n ≤ 30 → newI l ≤ 1000 → nwS n l ≤ 1000 := fun {n l} v hn hl => by unfold nwS; split <;> omega
  have ap : ApIn (rawGr x ed) := ⟨v3, ⟨v1.1, bd e.ed.okr (by omega) e.nr.1⟩, ⟨v1.2.2.1, bd e.ed.okc (by omega) e.nr.2⟩, by have := raw_mlen x ed; have := lx.m; have := e.lim.m; omega⟩
  exact ⟨ha, hb, sameCs_eq rfl, ap_rb ap, ap⟩
end Go.Ch
end
section
set_option linter.unusedVariables false
set_option linter.unusedSimpArgs false
set_option maxRecDepth 100000
set_option maxHeartbeats 4000000
open Go Go.Proofs Go.Ab
namespace Go.Ch
theorem fc_cover (x : Grid) (m n : Int) (hb : -1000000000000 ≤ m ∧ m ≤ 1000000000000 ∧ -1000000000000 ≤ n ∧ n ≤ 1000000000000) (hl : x.merges.length ≤ 100000000000) (hr : AllRB x.merges) : FC Tryd.prog 11 [.t (gridT x), VI m, VI n] (app emp []) (.t (rectT (covQ x.merges m n 0))) (app emp []) := by
 refine .go Tryd.f11 ?_
 refine .loop (α := Nat) [.r [], .r [], .r [(2, X (Xl rectT x.merges))]] 88 (fun i => ([(1, VI m), (2, VI n), (6, .ptr 8 0), (7, .ptr 40 0), (14, VL 4 rectT x.merges), (15, VI (x.merges.length : Int)), (16, VI (i : Int))], [(8, .box [VI 0, VI 0, VI 0, VI 0]), (40, .box [VI m, VI n, VI 1, VI 1])])) (fun i => i ≤ x.merges.length ∧ covQ x.merges m n 0 = covQ x.merges m n i) (fun i => x.merges.length - i) (0 : Nat) ?_ ?_
 ·
  exact ⟨by omega, rfl⟩
 rintro i I3 ih3
 try dsimp only at I3
 refine .br [.r []] (decide ((i : Int) < (x.merges.length : Int))) (fun h3 => ?_) (fun h3 => ?_)
 ·
  (try simp only [decide_eq_true_eq, decide_eq_false_iff_not, Int.not_lt, Int.not_le] at h3)
  have hm := hr _ (getDX_mem (l := x.merges) (i := i) (by omega))
  unfold RB at hm
  refine .br [.r [(0, X (Xi rectT x.merges (i : Int)))], .r [(7, Xv 1 (decide (m ≥ (((x.merges.getD i default)).row))) X0), (8, Xv 2 (decide (m ≥ (((x.merges.getD i default)).row))) (Xn (m - (((x.merges.getD i default)).row)))), (10, Xv 1 (decide (m ≥ (((x.merges.getD i default)).row))) X0), (11, Xv 2 (decide (m ≥ (((x.merges.getD i default)).row))) X0), (12, X (Xk (decide (m ≥ (((x.merges.getD i default)).row))))), (16, Xv 1 (decide (m ≥ (((x.merges.getD i default)).row)) && decide ((m - (((x.merges.getD i default)).row)) < (((x.merges.getD i default)).h))) X0), (17, Xv 2 (decide (m ≥ (((x.merges.getD i default)).row)) && decide ((m - (((x.merges.getD i default)).row)) < (((x.merges.getD i default)).h))) X0), (18, X (Xk (decide (m ≥ (((x.merges.getD i default)).row)) && decide ((m - (((x.merges.getD i default)).row)) < (((x.merges.getD i default)).h))))), (22, Xv 1 ((decide (m ≥ (((x.merges.getD i default)).row)) && decide ((m - (((x.merges.getD i default)).row)) < (((x.merges.getD i default)).h))) && decide (n ≥ (((x.merges.getD i default)).col))) X0), (23, Xv 2 ((decide (m ≥ (((x.merges.getD i default)).row)) && decide ((m - (((x.merges.getD i default)).row)) < (((x.merges.getD i default)).h))) && decide (n ≥ (((x.merges.getD i default)).col))) (Xn (n - (((x.merges.getD i default)).col)))), (25, Xv 1 ((decide (m ≥ (((x.merges.getD i default)).row)) && decide ((m - (((x.merges.getD i default)).row)) < (((x.merges.getD i default)).h))) && decide (n ≥ (((x.merges.getD i default)).col))) X0), (26, Xv 2 ((decide (m ≥ (((x.merges.getD i default)).row)) && decide ((m - (((x.merges.getD i default)).row)) < (((x.merges.getD i default)).h))) && decide (n ≥ (((x.merges.getD i default)).col))) X0), (27, X (Xk ((decide (m ≥ (((x.merges.getD i default)).row)) && decide ((m - (((x.merges.getD i default)).row)) < (((x.merges.getD i default)).h))) && decide (n ≥ (((x.merges.getD i default)).col)))))]] (((decide (m ≥ (((x.merges.getD i default)).row)) && decide ((m - (((x.merges.getD i default)).row)) < (((x.merges.getD i default)).h))) && decide (n ≥ (((x.merges.getD i default)).col))) && decide ((n - (((x.merges.getD i default)).col)) < (((x.merges.getD i default)).w))) (fun h5 => ?_) (fun h5 => ?_)
  ·
   (try simp only [decide_eq_true_eq, decide_eq_false_iff_not, Int.not_lt, Int.not_le, ge_iff_le, Bool.and_eq_true, Bool.and_eq_false_iff, Bool.not_eq_true', Bool.not_eq_false'] at h5)
   have e1 : ((covQ x.merges m n 0) : Rect) = ((x.merges.getD i default)) := by
    rw [I3.2, covQ, if_pos (by omega), if_pos (by (unfold inQ; rw [decide_eq_true_eq]; omega))]
   exact .finVE [.r []] [] [] (fun z0 => (.t (rectT z0), [])) (((x.merges.getD i default)) : Rect) ((covQ x.merges m n 0) : Rect) e1
  ·
   (try simp only [decide_eq_true_eq, decide_eq_false_iff_not, Int.not_lt, Int.not_le, ge_iff_le, Bool.and_eq_true, Bool.and_eq_false_iff, Bool.not_eq_true', Bool.not_eq_false'] at h5)
   refine .back [.r [(0, X (Xn ((i : Int) + 1)))]] [(8, 8), (40, 40)] (ih3 ((i + 1) : Nat) ?_ ?_)
   ·
    refine ⟨by omega, ?_⟩
    rw [I3.2, covQ, if_pos (by omega), if_neg (by (unfold inQ; rw [decide_eq_true_eq]; omega))]
   ·
    ((try dsimp only); omega)
 ·
  (try simp only [decide_eq_true_eq, decide_eq_false_iff_not, Int.not_lt, Int.not_le] at h3)
  have e2 : ((covQ x.merges m n 0) : Rect) = ({ row := m, col := n, h := 1, w := 1 } : Rect) := by
   rw [I3.2, covQ, if_neg (by omega)]
  exact .finVE [.r []] [] [] (fun z0 => (.t (rectT z0), [])) (({ row := m, col := n, h := 1, w := 1 } : Rect) : Rect) ((covQ x.merges m n 0) : Rect) e2

theorem fc_law26 (x : Grid) (raw : List Int) (lx : LimG 1048576 x) (zx : SzC x.cells) : FC Tryd.prog 3 [.t (gridT x), VL 1 intT raw] (app emp []) (VB true) (app emp []) := by
 refine .go Tryd.f3 ?_
 refine .len 1 (fun hl1 => ?_)
 have lm := lx.m
 refine .br [.r [], .r [(0, X (Xc0 fc_grids X0))], .f, .r [(1, X (Xc0 (fc_gridError x (by omega) (by assumption)) X0)), (5, Xg (!((gridE x) != 0)) (Xf [(0, 2), (1, 2), (2, 5), (3, 4), (4, 4)])), (6, Xv 2 (!((gridE x) != 0)) (Xc0 (fc_small x ({ rows := [], cols := [], cells := [], split := [], merge := [] } : GEd) valid_nil valid_nil) X0)), (7, Xv 1 (!((gridE x) != 0)) X0), (8, X (Xk' ((gridE x) != 0)))]] (((gridE x) != 0) || !(smallB x ({ rows := [], cols := [], cells := [], split := [], merge := [] } : GEd))) (fun h3 => ?_) (fun h3 => ?_)
 ·
  (try simp only [Bool.not_eq_true', Bool.not_eq_false', Bool.or_eq_true, Bool.or_eq_false_iff, bne_iff_ne, bne_eq_false_iff_eq, ne_eq] at h3)
  exact .fin [.r []] []
 ·
  (try simp only [Bool.not_eq_true', Bool.not_eq_false', Bool.or_eq_true, Bool.or_eq_false_iff, bne_iff_ne, bne_eq_false_iff_eq, ne_eq] at h3)
  have hgx := h3.1
  have sm := (small_iff.1 h3.2).1.1
  have gb := (gridE_iff.1 hgx).1
  obtain ⟨U1, U2, U3, U4, U5⟩ := apart_all raw hgx h3.2 (lx.mono (show 1048576 ≤ 90000000 by decide))
  refine .br [.r [(2, X (Xc1 120 (fc_editing x raw ({ data := #[110] }) true (by omega) (by omega)) X0))], .r [(2, X (Xc1 160 (fc_gapply x ((editE x raw ({ data := #[110] }) true)) (by assumption)) X0))], .r [], .le (.nB 128 4 4), .r [(2, X (Xc1 249 (fc_gapply x ({ rows := ((editE x raw ({ data := #[110] }) true)).rows, cols := ((editE x raw ({ data := #[110] }) true)).cols, cells := ((editE x raw ({ data := #[110] }) true)).cells, split := ((editE x raw ({ data := #[110] }) true)).split, merge := [] } : GEd) (by assumption)) (rowC rectT [] X0)))], .r [(4, Xv 1 (!false) X0), (5, X (Xk' false)), (8, Xv 1 (!(false || false)) X0), (10, Xv 1 (!(false || false)) X0), (11, Xv 2 (!(false || false)) (Xc0 (fc_sameCells (((rawGr x ((editE x raw ({ data := #[110] }) true)))).cells) (((rawGr x ({ rows := ((editE x raw ({ data := #[110] }) true)).rows, cols := ((editE x raw ({ data := #[110] }) true)).cols, cells := ((editE x raw ({ data := #[110] }) true)).cells, split := ((editE x raw ({ data := #[110] }) true)).split, merge := [] } : GEd))).cells)) X0)), (12, Xv 1 (!(false || false)) X0), (13, X (Xk' (false || false)))]] ((false || false) || !(sameCs (((rawGr x ((editE x raw ({ data := #[110] }) true)))).cells) (((rawGr x ({ rows := ((editE x raw ({ data := #[110] }) true)).rows, cols := ((editE x raw ({ data := #[110] }) true)).cols, cells := ((editE x raw ({ data := #[110] }) true)).cells, split := ((editE x raw ({ data := #[110] }) true)).split, merge := [] } : GEd))).cells))) (fun h9 => ?_) (fun h9 => ?_)
  ·
   (try simp only [Bool.not_eq_true', Bool.not_eq_false', Bool.or_eq_true, Bool.or_eq_false_iff] at h9)
   exfalso
   rw [U3] at h9; simp at h9
  ·
   (try simp only [Bool.not_eq_true', Bool.not_eq_false', Bool.or_eq_true, Bool.or_eq_false_iff] at h9)
   have hrb := U5.rb
   have hcb := U5.cb
   have hml := U5.ml
   refine .loop (α := Int × Nat) [.r [], .r [(2, X (Xl rectT (((rawGr x ((editE x raw ({ data := #[110] }) true)))).merges)))]] 457 (fun (a, i) => ([(6, .ptr 192 0), (10, VI a), (58, VL 4 rectT (((rawGr x ((editE x raw ({ data := #[110] }) true)))).merges)), (59, VI ((((rawGr x ((editE x raw ({ data := #[110] }) true)))).merges).length : Int)), (60, VI (i : Int))], [(192, .box [VI (((rawGr x ((editE x raw ({ data := #[110] }) true)))).rows), VI (((rawGr x ((editE x raw ({ data := #[110] }) true)))).cols), VL 5 cellT (((rawGr x ((editE x raw ({ data := #[110] }) true)))).cells), VL 4 rectT (((rawGr x ((editE x raw ({ data := #[110] }) true)))).merges)])])) (fun (a, i) => i ≤ (rawGr x (editE x raw { data := #[110] } true)).merges.length ∧ a = areaL ((rawGr x (editE x raw { data := #[110] } true)).merges.take i)) (fun (a, i) => (rawGr x (editE x raw { data := #[110] } true)).merges.length - i) (0, 0) ?_ ?_
   ·
    exact ⟨by omega, rfl⟩
   rintro ⟨a, i⟩ I13 ih13
   try dsimp only at I13
   have ab := ap_take U5 i
   refine .br [.r []] (decide ((i : Int) < ((((rawGr x ((editE x raw ({ data := #[110] }) true)))).merges).length : Int))) (fun h13 => ?_) (fun h13 => ?_)
   ·
    (try simp only [decide_eq_true_eq, decide_eq_false_iff_not, Int.not_lt, Int.not_le] at h13)
    have hq := ap_mem U5 i (by omega)
    refine .back [.r [(0, X (Xi rectT (((rawGr x ((editE x raw ({ data := #[110] }) true)))).merges) (i : Int)))], .r [(5, X (Xn (((((((rawGr x ((editE x raw ({ data := #[110] }) true)))).merges).getD i default)).h) * ((((((rawGr x ((editE x raw ({ data := #[110] }) true)))).merges).getD i default)).w)))), (6, X (Xn (a + (((((((rawGr x ((editE x raw ({ data := #[110] }) true)))).merges).getD i default)).h) * ((((((rawGr x ((editE x raw ({ data := #[110] }) true)))).merges).getD i default)).w)))))], .r [(0, X (Xn ((i : Int) + 1)))]] [(192, 192)] (ih13 ((a + (((((((rawGr x ((editE x raw ({ data := #[110] }) true)))).merges).getD i default)).h) * ((((((rawGr x ((editE x raw ({ data := #[110] }) true)))).merges).getD i default)).w))), (i + 1)) ?_ ?_)
    ·
     refine ⟨by omega, ?_⟩
     rw [I13.2, area_take _ _ (by omega)]
    ·
     ((try dsimp only); omega)
   ·
    (try simp only [decide_eq_true_eq, decide_eq_false_iff_not, Int.not_lt, Int.not_le] at h13)
    refine .loop (α := Int × Nat) [.r []] 489 (fun (b, r) => ([(6, .ptr 192 0), (10, VI b), (73, VI (((rawGr x ((editE x raw ({ data := #[110] }) true)))).rows)), (74, VI (r : Int))], [(192, .box [VI (((rawGr x ((editE x raw ({ data := #[110] }) true)))).rows), VI (((rawGr x ((editE x raw ({ data := #[110] }) true)))).cols), VL 5 cellT (((rawGr x ((editE x raw ({ data := #[110] }) true)))).cells), VL 4 rectT (((rawGr x ((editE x raw ({ data := #[110] }) true)))).merges)])])) (fun (b, r) => r ≤ (rawGr x (editE x raw { data := #[110] } true)).rows.toNat ∧ b = areaL (rawGr x (editE x raw { data := #[110] } true)).merges - sumTo (cntR (rawGr x (editE x raw { data := #[110] } true)).merges (rawGr x (editE x raw { data := #[110] } true)).cols.toNat) r) (fun (b, r) => (rawGr x (editE x raw { data := #[110] } true)).rows.toNat - r) (a, 0) ?_ ?_
    ·
     exact ⟨by omega, by rw [I13.2, List.take_of_length_le (by omega)]; simp [sumTo]⟩
    rintro ⟨b, r⟩ I18 ih18
    try dsimp only at I18
    have bb := ap_row U5 r I18.1
    refine .br [.r []] (decide ((r : Int) < (((rawGr x ((editE x raw ({ data := #[110] }) true)))).rows))) (fun h18 => ?_) (fun h18 => ?_)
    ·
     (try simp only [decide_eq_true_eq, decide_eq_false_iff_not, Int.not_lt, Int.not_le] at h18)
     refine .loop (α := Int × Nat) [.r [], .r []] 537 (fun (d, c) => ([(6, .ptr 192 0), (10, VI d), (13, VI (r : Int)), (73, VI (((rawGr x ((editE x raw ({ data := #[110] }) true)))).rows)), (74, VI (r : Int)), (78, VI (((rawGr x ((editE x raw ({ data := #[110] }) true)))).cols)), (79, VI (c : Int))], [(192, .box [VI (((rawGr x ((editE x raw ({ data := #[110] }) true)))).rows), VI (((rawGr x ((editE x raw ({ data := #[110] }) true)))).cols), VL 5 cellT (((rawGr x ((editE x raw ({ data := #[110] }) true)))).cells), VL 4 rectT (((rawGr x ((editE x raw ({ data := #[110] }) true)))).merges)])])) (fun (d, c) => c ≤ (rawGr x (editE x raw { data := #[110] } true)).cols.toNat ∧ d = b - sumTo (cnt1 (rawGr x (editE x raw { data := #[110] } true)).merges r) c) (fun (d, c) => (rawGr x (editE x raw { data := #[110] } true)).cols.toNat - c) (b, 0) ?_ ?_
     ·
      exact ⟨by omega, by simp [sumTo]⟩
     rintro ⟨d, c⟩ I21 ih21
     try dsimp only at I21
     have cb := ap_col (rawGr x (editE x raw { data := #[110] } true)) r c
     refine .br [.r []] (decide ((c : Int) < (((rawGr x ((editE x raw ({ data := #[110] }) true)))).cols))) (fun h21 => ?_) (fun h21 => ?_)
     ·
      (try simp only [decide_eq_true_eq, decide_eq_false_iff_not, Int.not_lt, Int.not_le] at h21)
      have hc := ap_cov U5 r c
      refine .br [.r [], .r [(3, X (Xc0 (fc_cover ((rawGr x ((editE x raw ({ data := #[110] }) true)))) (r : Int) (c : Int) (by omega) (by omega) (by assumption)) X0))], .r [(4, X (Xn ((((covQ (((rawGr x ((editE x raw ({ data := #[110] }) true))))).merges (r : Int) (c : Int) 0)).h) * (((covQ (((rawGr x ((editE x raw ({ data := #[110] }) true))))).merges (r : Int) (c : Int) 0)).w))))]] (decide (((((covQ (((rawGr x ((editE x raw ({ data := #[110] }) true))))).merges (r : Int) (c : Int) 0)).h) * (((covQ (((rawGr x ((editE x raw ({ data := #[110] }) true))))).merges (r : Int) (c : Int) 0)).w)) > 1)) (fun h24 => ?_) (fun h24 => ?_)
      ·
       (try simp only [decide_eq_true_eq, decide_eq_false_iff_not, Int.not_lt, Int.not_le, gt_iff_lt] at h24)
       refine .back [.r [(1, X (Xn (d - 1)))], .r [(0, X (Xn ((c : Int) + 1)))]] [(192, 192)] (ih21 ((d - 1), (c + 1)) ?_ ?_)
       ·
        refine ⟨by omega, ?_⟩
        rw [I21.2, sumTo, hc.2, if_pos (by omega)]; omega
       ·
        ((try dsimp only); omega)
      ·
       (try simp only [decide_eq_true_eq, decide_eq_false_iff_not, Int.not_lt, Int.not_le, gt_iff_lt] at h24)
       refine .back [.r [(0, X (Xn ((c : Int) + 1)))]] [(192, 192)] (ih21 (d, (c + 1)) ?_ ?_)
       ·
        refine ⟨by omega, ?_⟩
        rw [I21.2, sumTo, hc.2, if_neg (by omega)]; omega
       ·
        ((try dsimp only); omega)
     ·
      (try simp only [decide_eq_true_eq, decide_eq_false_iff_not, Int.not_lt, Int.not_le] at h21)
      refine .back [.r [(0, X (Xn ((r : Int) + 1)))]] [(192, 192)] (ih18 (d, (r + 1)) ?_ ?_)
      ·
       refine ⟨by omega, ?_⟩
       rw [I21.2, I18.2, sumTo, show c = (rawGr x (editE x raw { data := #[110] } true)).cols.toNat by omega]; unfold cntR; omega
      ·
       ((try dsimp only); omega)
    ·
     (try simp only [decide_eq_true_eq, decide_eq_false_iff_not, Int.not_lt, Int.not_le] at h18)
     have e1 : ((b == 0) : Bool) = true := by
      rw [I18.2, show r = (rawGr x (editE x raw { data := #[110] } true)).rows.toNat by omega]; rw [ap_end U5]; rfl
     exact .finE [.r []] [] (fun z0 => (VB z0, [])) ((b == 0) : Bool) (true : Bool) e1.symm
end Go.Ch
end
section
set_option linter.unusedVariables false
namespace Go.Ab
open Go Go.Proofs.YthpcjddcgdlilaaDoor
variable {P : Program} {W : World}

def RdM (P : Program) (t : TypeId) (k : Nat) {α : Type} (f : α → Tree) (μ : α → Nat) : Prop :=
  (∀ a, Elt k (f a)) ∧ P.cellsOf t = k ∧ ∀ (H : Type) (enc : TypeId × Value → H) (W : World) (fuel : Nat) (cs : List Value) (x : DataW H × List MemPlace),
    DataW.trod enc P W 0 (fun _ => true) true fuel t cs = some x → ∃ a : α, CellsR W (f a).cells cs ∧ μ a ≤ Rows.uptoBulk x.1

theorem bulk_pos {H : Type} (d : DataW H) : 1 ≤ Rows.uptoBulk d := by
  cases d with
  | lit l => cases l <;> simp [Rows.uptoBulk]
  | _ => simp [Rows.uptoBulk]

theorem RdM.int {t : TypeId} {k : IntKind} (ht : P.underlying t = some (.int k)) (hc : P.cellsOf t = 1) : RdM P t 1 (fun z : Int => .sc (.int k z)) (fun _ => 1) := by
  refine ⟨fun _ => elt1, hc, fun H enc W fuel cs x h => ?_⟩
  obtain ⟨n, rfl, _, _⟩ := DataW.trod_int ht h
  exact ⟨n, cells1 rfl (.sc _ rfl), bulk_pos _⟩
/-- An integer with its bounds. -/
theorem RdM.i64 {t : TypeId} (ht : P.underlying t = some (.int .i64)) (hc : P.cellsOf t = 1) : RdM P t 1 (fun z : { z : Int // -9223372036854775808 ≤ z ∧ z ≤ 9223372036854775807 } => .sc (.int .i64 z.1)) (fun _ => 1) := by
  refine ⟨fun _ => elt1, hc, fun H enc W fuel cs x h => ?_⟩
  obtain ⟨n, rfl, _, hw⟩ := DataW.trod_int ht h
  exact ⟨⟨n, by simpa [Lit.wf, IntKind.min, IntKind.max, IntKind.signed, IntKind.bits] using hw⟩, cells1 rfl (.sc _ rfl), bulk_pos _⟩
theorem RdM.bool {t : TypeId} (ht : P.underlying t = some .bool) (hc : P.cellsOf t = 1) : RdM P t 1 (fun b : Bool => .sc (.bool b)) (fun _ => 1) := by
  refine ⟨fun _ => elt1, hc, fun H enc W fuel cs x h => ?_⟩
  obtain ⟨n, rfl, _⟩ := DataW.trod_bool ht h
  exact ⟨n, cells1 rfl (.sc _ rfl), bulk_pos _⟩
theorem RdM.str {t : TypeId} (ht : P.underlying t = some .string) (hc : P.cellsOf t = 1) : RdM P t 1 (fun s : ByteArray => .sc (.string s)) (fun s => s.size + 1) := by
  refine ⟨fun _ => elt1, hc, fun H enc W fuel cs x h => ?_⟩
  obtain ⟨n, rfl, rfl, _⟩ := DataW.trod_string ht h
  exact ⟨n, cells1 rfl (.sc _ rfl), by simp [Rows.uptoBulk]⟩

theorem sum_le {α H : Type} {μ : α → Nat} : ∀ {l : List α} {es : List (DataW H)}, l.length = es.length → (∀ (i : Nat) (a : α) (d : DataW H), l[i]? = some a → es[i]? = some d → μ a ≤ Rows.uptoBulk d) → (l.map μ).sum ≤ Rows.uptoBulkAll es
  | [], es, _, _ => by simp
  | a :: l, [], h, _ => by simp at h
  | a :: l, d :: es, h, hi => by
    have h0 := hi 0 a d rfl rfl
    have ih := sum_le (l := l) (es := es) (by simpa using h) (fun i a' d' h1 h2 => hi (i + 1) a' d' (by simpa using h1) (by simpa using h2))
    simp only [List.map_cons, List.sum_cons, Rows.uptoBulkAll]
    omega

theorem RdM.slice {t e : TypeId} {k : Nat} {α : Type} {f : α → Tree} {μ : α → Nat} (ht : P.underlying t = some (.slice e)) (hk : 0 < k) (hc : P.cellsOf t = 1) (he : RdM P e k f μ) : RdM P t 1 (fun l : List α => .lst k (l.map f)) (fun l => (l.map μ).sum + 1) := by
  obtain ⟨h1, h2, h3⟩ := he
  refine ⟨fun l => ⟨rfl, fun T hT => by simp [Tree.cells] at hT; subst hT; rfl⟩, hc, fun H enc W fuel cs x h => ?_⟩
  have hx : ∀ l : List α, ∀ x ∈ l.map f, Elt k x := fun l x hx => by
    obtain ⟨a, _, rfl⟩ := List.mem_map.1 hx
    exact h1 a
  rcases DataW.trod_slice ht h with ⟨rfl, hx0⟩ | ⟨a, len, cap, elems, rest, n, _, rfl, hxe, hb, hl, hm, hlen, hel, _, _⟩
  · refine ⟨[], cells1 rfl (.lst k [] none 0 [] hk (fun x hx => by simp at hx) (Nat.le_refl _) (by simp [maxLen]) (fun h => absurd rfl h) (by simp) (fun j T u hT => by simp [flat] at hT)), ?_⟩
    exact bulk_pos _
  · have key : ∀ i, i < len → ∃ y : α, (∃ cs', cs'.length = k ∧ (∀ r, r < k → W.cell? (a.add (i * k + r)) = cs'[r]?) ∧ CellsR W (f y).cells cs') ∧ ∀ d, (elems.map (·.1))[i]? = some d → μ y ≤ Rows.uptoBulk d := by
      intro i hi
      have h4 := hel i hi
      have h5 : elems[i]? = some elems[i] := by rw [List.getElem?_eq_getElem (by omega)]
      rw [h5, h2] at h4
      obtain ⟨cs', h6, h7⟩ := Option.bind_eq_some_iff.1 h4
      obtain ⟨q1, q2, q3⟩ := World.cells?_some h6
      obtain ⟨y, hy, hμ⟩ := h3 H enc W n cs' _ h7
      refine ⟨y, ⟨cs', q2, fun r hr => ?_, hy⟩, fun d hd => ?_⟩
      · rw [← q3 r hr]
        rw [Addr.add_add]
      · rw [List.getElem?_map, h5] at hd
        simp only [Option.map_some, Option.some.injEq] at hd
        subst hd; exact hμ
    obtain ⟨l, hl1, hl2'⟩ := list_of len _ key
    have hl2 := fun i a h => (hl2' i a h).1
    have hspot : l ≠ [] → ∃ u, W.cell? a = some u := by
      intro hne
      have h0 : 0 < len := by rw [← hl1]; exact List.length_pos_iff.2 hne
      obtain ⟨cs', c1, c2, c3⟩ := hl2 0 l[0] (by rw [List.getElem?_eq_getElem (by omega)])
      have := c2 0 hk
      simp only [Nat.zero_mul, Nat.add_zero] at this
      rw [List.getElem?_eq_getElem (by omega)] at this
      have e : a.add 0 = a := by simp [Addr.add]
      rw [e] at this
      exact ⟨_, this⟩
    refine ⟨l, cells1 rfl ?_, ?_⟩
    rotate_left
    · rw [hxe]
      simp only [Rows.uptoBulk]
      have := sum_le (μ := μ) (l := l) (es := elems.map (·.1)) (by simp [hl1, hlen]) (fun i y d h1 h2 => (hl2' i y h1).2 d h2)
      omega
    have hget : ∀ j, j < len * k → ∃ u, W.cell? (a.add j) = some u ∧ ∀ T, (flat (l.map f))[j]? = some T → TRep W (fun b => b < W.heap.size) T u := by
      intro j hj
      have hi : j / k < len := Nat.div_lt_of_lt_mul (by rw [Nat.mul_comm]; exact hj)
      have hr : j % k < k := Nat.mod_lt _ hk
      have hji : j = j / k * k + j % k := by rw [Nat.mul_comm]; exact (Nat.div_add_mod j k).symm
      obtain ⟨cs', c1, c2, c3⟩ := hl2 (j / k) l[j / k] (by rw [List.getElem?_eq_getElem (by omega)])
      have c4 := c2 (j % k) hr
      rw [← hji, List.getElem?_eq_getElem (by omega)] at c4
      refine ⟨_, c4, fun T hT => ?_⟩
      rw [hji, flat_get (hx l) (i := j / k) (X := f l[j / k]) (by simp [List.getElem?_eq_getElem (show j / k < l.length by omega)]) hr] at hT
      exact c3.2 (j % k) T _ hT (by rw [List.getElem?_eq_getElem (by omega)])
    obtain ⟨us, hu1, hu2⟩ := list_of (len * k) _ hget
    have hlm : (l.map f).length = len := by simp [hl1]
    have := TRep.lst (w := W) (ok := fun b => b < W.heap.size) k (l.map f) (some a) cap us hk (hx l) (by omega) hm (fun hne => ?_) (by rw [hlm]; exact hu1) (fun j T u hT hu => (hu2 j u hu).2 T hT)
    · rw [hlm] at this; exact this
    · obtain ⟨u, hu⟩ := hspot (fun e => hne (by rw [e]; rfl))
      have hs := World.cell?_spot hu
      obtain ⟨b, o, sp⟩ := a
      simp only at hs
      subst hs
      refine ⟨b, o, rfl, ?_, fun j u hj => ?_⟩
      · simp only [World.cell?] at hu
        by_cases hb : b < W.heap.size
        · exact hb
        · rw [Array.getElem?_eq_none (by omega)] at hu; simp at hu
      · have := (hu2 j u hj).1
        rw [add_lit'] at this
        exact this

theorem RdM.map {t : TypeId} {k : Nat} {α β : Type} {f : α → Tree} {μ : α → Nat} {f' : β → Tree} {μ' : β → Nat} (h : RdM P t k f μ) (g : α → β) (hf : ∀ a, f' (g a) = f a) (hm : ∀ a, μ' (g a) ≤ μ a) (he : ∀ b, Elt k (f' b)) : RdM P t k f' μ' := by
  obtain ⟨h1, h2, h3⟩ := h
  refine ⟨he, h2, fun H enc W fuel cs x hx => ?_⟩
  obtain ⟨a, ha, hb⟩ := h3 H enc W fuel cs x hx
  exact ⟨g a, by rw [hf]; exact ha, Nat.le_trans (hm a) hb⟩

/-- The fields of a struct, from a cell on. -/
def RdFM (P : Program) (off : Nat) (fs : List Field) (k : Nat) {β : Type} (g : β → List Tree) (μ : β → Nat) : Prop :=
  (∀ b, (g b).length = k ∧ ∀ T ∈ g b, T.isCell = true) ∧ ∀ (H : Type) (enc : TypeId × Value → H) (W : World) (n : Nat) (cs : List Value) (ys : List (DataW H × List MemPlace)),
    ys.length = fs.length → (∀ (i : Nat) (f : Field), fs[i]? = some f → DataW.trod enc P W 0 (fun _ => true) true n f.type ((cs.drop f.offset).take (P.cellsOf f.type)) = ys[i]?) →
    ∃ b : β, (∀ (j : Nat) (T : Tree) (u : Value), (g b)[j]? = some T → cs[off + j]? = some u → TRep W (fun b => b < W.heap.size) T u) ∧ μ b ≤ Rows.uptoBulkAll (ys.map (·.1))
theorem RdFM.nil {off : Nat} : RdFM P off [] 0 (fun _ : Unit => []) (fun _ => 0) :=
  ⟨fun _ => ⟨rfl, fun T hT => by simp at hT⟩, fun H enc W n cs ys h1 h2 => ⟨(), fun j T u hT => by simp at hT, Nat.zero_le _⟩⟩
theorem RdFM.cons {off : Nat} {f : Field} {fs : List Field} {k1 k2 : Nat} {α β : Type} {f1 : α → Tree} {μ1 : α → Nat} {g2 : β → List Tree} {μ2 : β → Nat} (ho : f.offset = off) (h : RdM P f.type k1 f1 μ1) (hs : RdFM P (off + k1) fs k2 g2 μ2) : RdFM P off (f :: fs) (k1 + k2) (fun p : α × β => (f1 p.1).cells ++ g2 p.2) (fun p => μ1 p.1 + μ2 p.2) := by
  obtain ⟨h1, h2, h3⟩ := h
  obtain ⟨s1, s2⟩ := hs
  refine ⟨fun p => ⟨by rw [List.length_append, (h1 p.1).1, (s1 p.2).1], fun T hT => ?_⟩, fun H enc W n cs ys hl hy => ?_⟩
  · rcases List.mem_append.1 hT with hT | hT
    · exact (h1 p.1).2 T hT
    · exact (s1 p.2).2 T hT
  · cases ys with
    | nil => simp at hl
    | cons y ys =>
      have e0 := hy 0 f rfl
      simp only [List.getElem?_cons_zero, ho, h2] at e0
      obtain ⟨a, ⟨ha1, ha2⟩, ha3⟩ := h3 H enc W n _ _ e0
      obtain ⟨b, hb, hb3⟩ := s2 H enc W n cs ys (by simpa using hl) (fun i f' hf => by simpa using hy (i + 1) f' (by simpa using hf))
      refine ⟨(a, b), fun j T u hT hu => ?_, by simp only [List.map_cons, Rows.uptoBulkAll]; omega⟩
      by_cases hj : j < (f1 a).cells.length
      · rw [List.getElem?_append_left hj] at hT
        have hk : j < k1 := by rw [(h1 a).1] at hj; exact hj
        refine ha2 j T u hT ?_
        rw [List.getElem?_take, if_pos hk, List.getElem?_drop]
        exact hu
      · rw [List.getElem?_append_right (by show (f1 a).cells.length ≤ j; omega)] at hT
        rw [(h1 a).1] at hj hT
        refine hb (j - k1) T u hT ?_
        rw [← hu]; congr 1; omega
theorem RdM.struct {t : TypeId} {fs : Array Field} {k : Nat} {β : Type} {g : β → List Tree} {μ : β → Nat} (ht : P.underlying t = some (.struct fs)) (hc : P.cellsOf t = k) (h : RdFM P 0 fs.toList k g μ) : RdM P t k (fun b => .agg (g b)) (fun b => μ b + 1) := by
  obtain ⟨s1, s2⟩ := h
  refine ⟨fun b => s1 b, hc, fun H enc W fuel cs x hx => ?_⟩
  obtain ⟨xs, n, _, hxe, hl, hlen, hf⟩ := DataW.trod_struct ht hx
  obtain ⟨b, hb, hμ⟩ := s2 H enc W n cs xs (by simpa using hlen) (fun i f hi => hf i f (by simpa using hi))
  refine ⟨b, ⟨by rw [hl, hc]; exact (s1 b).1.symm, fun j T u hT hu => hb j T u hT (by simpa using hu)⟩, ?_⟩
  rw [hxe]; simp only [Rows.uptoBulk]; omega

/-- A one-cell argument. -/
theorem RdM.arg {t : TypeId} {α : Type} {f : α → Tree} {μ : α → Nat} (h : RdM P t 1 f μ) (h1 : ∀ a, (f a).isCell = true) {H : Type} {enc : TypeId × Value → H} {v : Value} {d : DataW H} {ps : List MemPlace} (hd : DataW.Trod enc P W 0 (fun _ => true) true t v d ps) (hv : v.cells.toList = [v]) :
    ∃ a, TRep W (fun b => b < W.heap.size) (f a) v ∧ μ a ≤ Rows.uptoBulk d := by
  obtain ⟨fuel, hf⟩ := hd
  obtain ⟨a, ⟨c1, c2⟩, c3⟩ := h.2.2 H enc W fuel _ _ hf
  refine ⟨a, c2 0 _ _ ?_ (by rw [hv]; rfl), c3⟩
  cases hfa : f a with
  | agg cs => have := h1 a; rw [hfa] at this; cases this
  | sc v => rfl
  | lst k xs => rfl
theorem bulk_bound {H : Type} {l : List (DataW H)} (hk : Rows.uptoSmall H l = true) : Rows.uptoBulkAll l ≤ 1048576 := of_decide_eq_true hk
theorem sum_mem {α : Type} {μ : α → Nat} {l : List α} {a : α} (h : a ∈ l) : μ a ≤ (l.map μ).sum := by
  induction l with
  | nil => cases h
  | cons b l ih =>
    simp only [List.map_cons, List.sum_cons]
    rcases List.mem_cons.1 h with rfl | h
    · omega
    · have := ih h; omega
theorem sum_len {α : Type} {μ : α → Nat} (hμ : ∀ a, 1 ≤ μ a) (l : List α) : l.length ≤ (l.map μ).sum := by
  induction l with
  | nil => simp
  | cons b l ih => have := hμ b; simp only [List.map_cons, List.sum_cons, List.length_cons]; omega
end Go.Ab
end
