/- Where rows are after a change: places, gaps, ranges. -/
import Derived.Test.YtbdbibmbfmlobaaAxisFacts
set_option linter.unusedVariables false
set_option linter.unusedSimpArgs false
namespace Go.Ch
open Go Go.Ab

def placeS : List AxStep → Int → Int → Int → Int
  | [], _, _, _ => -1
  | s :: l, p, fr, to => if s.kind = 1 then placeS l p fr (to + s.n) else if s.kind = 0 then (if p < fr + s.n then to + p - fr else placeS l p (fr + s.n) (to + s.n)) else (if p < fr + s.n then -1 else placeS l p (fr + s.n) to)
def gapS : List AxStep → Int → Bool → Int → Int → Int
  | [], _, _, _, to => to
  | s :: l, at_, r, fr, to => gapS l at_ r (if s.kind = 1 then fr else fr + s.n) (if s.kind = 1 ∧ (fr < at_ ∨ (fr = at_ ∧ r = true)) then to + s.n else if s.kind = 0 then to + min s.n (max 0 (at_ - fr)) else to)
def hullS : List AxStep → Int → Int → Int → Int → Int → Int → Int × Int
  | [], _, _, first, last, _, _ => (first, last)
  | s :: l, f, t, first, last, old, now =>
    hullS l f t (if (s.kind = 0 ∧ max f old < min t (old + s.n)) ∧ last = 0 then now + max f old - old else first) (if s.kind = 0 ∧ max f old < min t (old + s.n) then now + min t (old + s.n) - old else last)
      (if s.kind = 1 then old else old + s.n) (if s.kind = 2 then now else now + s.n)

theorem gap_ge : ∀ {l : List AxStep} (hl : Form l) (a : Int) (r : Bool) (fr to : Int), to ≤ gapS l a r fr to
  | [], _, a, r, fr, to => Int.le_refl _
  | s :: l, hl, a, r, fr, to => by
    have ih := gap_ge hl.tail a r (if s.kind = 1 then fr else fr + s.n) (if s.kind = 1 ∧ (fr < a ∨ (fr = a ∧ r = true)) then to + s.n else if s.kind = 0 then to + min s.n (max 0 (a - fr)) else to)
    have hn := hl.head.2.2
    rw [gapS]
    refine Int.le_trans ?_ ih
    split
    · omega
    · split <;> omega
theorem gap_mono : ∀ {l : List AxStep} (hl : Form l) (a fr to to' : Int), to ≤ to' → gapS l a false fr to ≤ gapS l a true fr to'
  | [], _, a, fr, to, to', h => h
  | s :: l, hl, a, fr, to, to', h => by
    have hn := hl.head.2.2
    rw [gapS, gapS]
    refine gap_mono hl.tail a _ _ _ ?_
    by_cases k1 : s.kind = 1
    · by_cases c : fr < a
      · rw [if_pos ⟨k1, .inl c⟩, if_pos ⟨k1, .inl c⟩]; omega
      · have n1 : ¬ (s.kind = 1 ∧ (fr < a ∨ (fr = a ∧ false = true))) := by
          rintro ⟨_, h | h⟩
          · omega
          · cases h.2
        have k0 : ¬ s.kind = 0 := by omega
        rw [if_neg n1, if_neg k0]
        split
        · omega
        · exact h
    · rw [if_neg (show ¬ (s.kind = 1 ∧ (fr < a ∨ (fr = a ∧ false = true))) from fun e => k1 e.1), if_neg (show ¬ (s.kind = 1 ∧ (fr < a ∨ (fr = a ∧ true = true))) from fun e => k1 e.1)]
      split <;> omega
theorem gap_past : ∀ {l : List AxStep} (hl : Form l) (a : Int) (r : Bool) (fr to : Int), a < fr → gapS l a r fr to = to
  | [], _, a, r, fr, to, h => rfl
  | s :: l, hl, a, r, fr, to, h => by
    have hn := hl.head.2.2
    rw [gapS, if_neg (by omega : ¬ (s.kind = 1 ∧ (fr < a ∨ (fr = a ∧ r = true))))]
    rw [gap_past hl.tail a r _ _ (by split <;> omega)]
    split <;> omega
theorem place_ge : ∀ {l : List AxStep} (hl : Form l) (p fr to : Int), 0 ≤ to → fr ≤ p → -1 ≤ placeS l p fr to
  | [], _, p, fr, to, h, _ => by simp [placeS]
  | s :: l, hl, p, fr, to, h, hp => by
    have hn := hl.head.2.2
    rw [placeS]
    split
    · exact place_ge hl.tail p fr _ (by omega) hp
    · split
      · split
        · omega
        · exact place_ge hl.tail p _ _ (by omega) (by omega)
      · split
        · omega
        · exact place_ge hl.tail p _ _ h (by omega)
/-- A row that is kept is behind what is added at its gap. -/
theorem gap_place : ∀ {l : List AxStep} (hl : Form l) (p fr to : Int), fr ≤ p → 0 ≤ placeS l p fr to → gapS l p true fr to ≤ placeS l p fr to
  | [], _, p, fr, to, h, h0 => by simp [placeS] at h0
  | s :: l, hl, p, fr, to, h, h0 => by
    have hn := hl.head.2.2
    have hk := kinds hl.head
    rw [placeS] at h0 ⊢
    rw [gapS]
    by_cases k1 : s.kind = 1
    · rw [if_pos k1] at h0 ⊢
      rw [if_pos k1, if_pos ⟨k1, by rcases Int.lt_or_eq_of_le h with h | h; exact .inl h; exact .inr ⟨h, rfl⟩⟩]
      exact gap_place hl.tail p fr _ h h0
    · rw [if_neg k1] at h0 ⊢
      rw [if_neg k1, if_neg (by omega : ¬ (s.kind = 1 ∧ (fr < p ∨ (fr = p ∧ true = true))))]
      by_cases k0 : s.kind = 0
      · rw [if_pos k0] at h0 ⊢
        rw [if_pos k0]
        by_cases c : p < fr + s.n
        · rw [if_pos c] at h0 ⊢
          rw [gap_past hl.tail p true _ _ (by omega)]; omega
        · rw [if_neg c] at h0 ⊢
          rw [show min s.n (max 0 (p - fr)) = s.n by omega]
          exact gap_place hl.tail p _ _ (by omega) h0
      · rw [if_neg k0] at h0 ⊢
        rw [if_neg k0]
        by_cases c : p < fr + s.n
        · rw [if_pos c] at h0; omega
        · rw [if_neg c] at h0 ⊢
          exact gap_place hl.tail p _ _ (by omega) h0
/-- A gap is behind the kept rows before it. -/
theorem place_gap : ∀ {l : List AxStep} (hl : Form l) (p q fr to : Int), fr ≤ p → p < q → 0 ≤ placeS l p fr to → placeS l p fr to + 1 ≤ gapS l q false fr to
  | [], _, p, q, fr, to, h, hq, h0 => by simp [placeS] at h0
  | s :: l, hl, p, q, fr, to, h, hq, h0 => by
    have hn := hl.head.2.2
    rw [placeS] at h0 ⊢
    rw [gapS]
    by_cases k1 : s.kind = 1
    · rw [if_pos k1] at h0 ⊢
      rw [if_pos k1, if_pos ⟨k1, by omega⟩]
      exact place_gap hl.tail p q fr _ h hq h0
    · rw [if_neg k1] at h0 ⊢
      rw [if_neg k1, if_neg (by omega : ¬ (s.kind = 1 ∧ (fr < q ∨ (fr = q ∧ false = true))))]
      by_cases k0 : s.kind = 0
      · rw [if_pos k0] at h0 ⊢
        rw [if_pos k0]
        by_cases c : p < fr + s.n
        · rw [if_pos c] at h0 ⊢
          have := gap_ge hl.tail q false (fr + s.n) (to + min s.n (max 0 (q - fr)))
          omega
        · rw [if_neg c] at h0 ⊢
          rw [show min s.n (max 0 (q - fr)) = s.n by omega]
          exact place_gap hl.tail p q _ _ (by omega) hq h0
      · rw [if_neg k0] at h0 ⊢
        rw [if_neg k0]
        by_cases c : p < fr + s.n
        · rw [if_pos c] at h0; omega
        · rw [if_neg c] at h0 ⊢
          exact place_gap hl.tail p q _ _ (by omega) hq h0
theorem hull_keep : ∀ {l : List AxStep} (hl : Form l) (f t first last old now : Int), 0 < last → last ≤ now → (hullS l f t first last old now).1 = first ∧ last ≤ (hullS l f t first last old now).2
  | [], _, f, t, first, last, old, now, h, h2 => ⟨rfl, Int.le_refl _⟩
  | s :: l, hl, f, t, first, last, old, now, h, h2 => by
    have hn := hl.head.2.2
    rw [hullS, if_neg (by omega : ¬ ((s.kind = 0 ∧ max f old < min t (old + s.n)) ∧ last = 0))]
    by_cases c : s.kind = 0 ∧ max f old < min t (old + s.n)
    · rw [if_pos c, if_neg (show ¬ s.kind = 2 by omega)]
      have ih := hull_keep hl.tail f t first (now + min t (old + s.n) - old) (if s.kind = 1 then old else old + s.n) (now + s.n) (by omega) (by omega)
      exact ⟨ih.1, by have := ih.2; omega⟩
    · rw [if_neg c]
      exact hull_keep hl.tail f t first last _ _ h (by split <;> omega)
theorem hull_in : ∀ {l : List AxStep} (hl : Form l) (f t first last old now p : Int), 0 ≤ now → old ≤ p → f ≤ p → p < t → (last = 0 ∨ (0 < last ∧ first ≤ now ∧ last ≤ now)) → 0 ≤ placeS l p old now →
    (hullS l f t first last old now).1 ≤ placeS l p old now ∧ placeS l p old now < (hullS l f t first last old now).2
  | [], _, f, t, first, last, old, now, p, h1, h2, h3, h4, h5, h0 => by simp [placeS] at h0
  | s :: l, hl, f, t, first, last, old, now, p, h1, h2, h3, h4, h5, h0 => by
    have hn := hl.head.2.2
    have hk := kinds hl.head
    rw [placeS] at h0 ⊢
    rw [hullS]
    by_cases k1 : s.kind = 1
    · rw [if_pos k1] at h0 ⊢
      rw [if_neg (by omega : ¬ ((s.kind = 0 ∧ max f old < min t (old + s.n)) ∧ last = 0)), if_neg (by omega : ¬ (s.kind = 0 ∧ max f old < min t (old + s.n))), if_pos k1, if_neg (by omega : ¬ s.kind = 2)]
      exact hull_in hl.tail f t first last old _ p (by omega) h2 h3 h4 (by omega) h0
    · rw [if_neg k1] at h0 ⊢
      rw [if_neg k1]
      by_cases k0 : s.kind = 0
      · rw [if_pos k0] at h0 ⊢
        rw [if_neg (by omega : ¬ s.kind = 2)]
        by_cases c : p < old + s.n
        · rw [if_pos c] at h0 ⊢
          have hc : s.kind = 0 ∧ max f old < min t (old + s.n) := ⟨k0, by omega⟩
          rw [if_pos hc]
          have := hull_keep hl.tail f t (if (s.kind = 0 ∧ max f old < min t (old + s.n)) ∧ last = 0 then now + max f old - old else first) (now + min t (old + s.n) - old) (old + s.n) (now + s.n) (by omega) (by omega)
          rw [this.1]
          refine ⟨?_, by have := this.2; omega⟩
          split <;> omega
        · rw [if_neg c] at h0 ⊢
          refine hull_in hl.tail f t _ _ _ _ p (by omega) (by omega) h3 h4 ?_ h0
          by_cases hc : s.kind = 0 ∧ max f old < min t (old + s.n)
          · rw [if_pos hc]
            right
            refine ⟨by omega, ?_, by omega⟩
            split <;> omega
          · rw [if_neg hc, if_neg (by omega : ¬ ((s.kind = 0 ∧ max f old < min t (old + s.n)) ∧ last = 0))]
            omega
      · rw [if_neg k0] at h0 ⊢
        rw [if_neg (by omega : ¬ ((s.kind = 0 ∧ max f old < min t (old + s.n)) ∧ last = 0)), if_neg (by omega : ¬ (s.kind = 0 ∧ max f old < min t (old + s.n))), if_pos (by omega : s.kind = 2)]
        by_cases c : p < old + s.n
        · rw [if_pos c] at h0; omega
        · rw [if_neg c] at h0 ⊢
          exact hull_in hl.tail f t first last _ now p h1 (by omega) h3 h4 h5 h0
theorem hull_none : ∀ {l : List AxStep} (hl : Form l) (f t old now : Int), 0 ≤ now → (∀ p, old ≤ p → f ≤ p → p < t → placeS l p old now < 0) → hullS l f t 0 0 old now = (0, 0)
  | [], _, f, t, old, now, h1, h => rfl
  | s :: l, hl, f, t, old, now, h1, h => by
    have hn := hl.head.2.2
    have hk := kinds hl.head
    have hc : ¬ (s.kind = 0 ∧ max f old < min t (old + s.n)) := by
      rintro ⟨k0, hlt⟩
      have := h (max f old) (by omega) (by omega) (by omega)
      rw [placeS, if_neg (by omega), if_pos k0, if_pos (by omega)] at this
      omega
    rw [hullS, if_neg (fun e => hc e.1), if_neg hc]
    refine hull_none hl.tail f t _ _ (by split <;> omega) (fun p p1 p2 p3 => ?_)
    by_cases k1 : s.kind = 1
    · rw [if_pos k1] at p1 ⊢
      rw [if_neg (by omega : ¬ s.kind = 2)]
      have := h p p1 p2 p3
      rw [placeS, if_pos k1] at this
      exact this
    · rw [if_neg k1] at p1 ⊢
      have := h p (by omega) p2 p3
      rw [placeS, if_neg k1] at this
      by_cases k0 : s.kind = 0
      · rw [if_pos k0, if_neg (by omega)] at this
        rw [if_neg (by omega : ¬ s.kind = 2)]; exact this
      · rw [if_neg k0, if_neg (by omega)] at this
        rw [if_pos (by omega : s.kind = 2)]; exact this
theorem place_le : ∀ {l : List AxStep} (hl : Form l) (p fr to : Int), 0 ≤ to → fr ≤ p → placeS l p fr to ≤ to + newU (ex l)
  | [], _, p, fr, to, h, _ => by simp [placeS, ex, newU]; omega
  | s :: l, hl, p, fr, to, h, hp => by
    have hn := hl.head.2.2
    have hnn : (s.n.toNat : Int) = s.n := Int.toNat_of_nonneg (by omega)
    have e : (newU (ex (s :: l)) : Int) = (if s.kind = 2 then (0 : Int) else s.n) + newU (ex l) := by rw [ex, new_rep, hnn]
    have n0 : (newU (ex l) : Int) ≥ 0 := Int.natCast_nonneg _
    rw [placeS, e]
    by_cases k1 : s.kind = 1
    · rw [if_pos k1, if_neg (show ¬ s.kind = 2 by omega)]
      have := place_le hl.tail p fr (to + s.n) (by omega) hp
      omega
    · rw [if_neg k1]
      by_cases k0 : s.kind = 0
      · rw [if_pos k0, if_neg (show ¬ s.kind = 2 by omega)]
        split
        · omega
        · have := place_le hl.tail p (fr + s.n) (to + s.n) (by omega) (by omega)
          omega
      · rw [if_neg k0]
        have h2 : s.kind = 2 := by have := kinds hl.head; omega
        rw [if_pos h2]
        split
        · omega
        · have := place_le hl.tail p (fr + s.n) to h (by omega)
          omega
end Go.Ch
