/- Parts of the proof: SpanPlain, SpanFacts, ChSpanF, SpanThr, ChPlace3, ChPlace4, Frame. -/
import Derived.Test.YtbdbibmbfmlobaaM1
import Derived.Test.YtbdbibmbfmlobaaM2
import Derived.Test.YtbdbibmbfmlobaaM3
import Derived.Test.YtbdbibmbfmlobaaM4
import Derived.Test.YtbdbibmbfmlobaaM5
import Derived.Test.YtbdbibmbfmlobaaM6
import Derived.Test.YtbdbibmbfmlobaaRows
import Derived.JoinedOf
import Derived.ProofKit
section
set_option linter.unusedVariables false
set_option linter.unusedSimpArgs false
namespace Go.Ch

/-- A set in its form, by index. -/
def VSp (l : List Span) : Prop := ∀ k, k < l.length → 0 ≤ (l.getD k default).fr ∧ (l.getD k default).fr < (l.getD k default).to ∧ (l.getD k default).to ≤ 2147483647 ∧ (0 < k → (l.getD (k - 1) default).to < (l.getD k default).fr)
theorem VSp_of {l : List Span} (h : chkS l 0 = 0) : VSp l := fun k hk => chkS_spec l 0 h k (by omega) hk
def Me (l : List Span) (x : Int) : Prop := ∃ k, k < l.length ∧ (l.getD k default).fr ≤ x ∧ x < (l.getD k default).to
theorem endS_even (l : List Span) (k : Nat) : endS l (2 * k) = (l.getD k default).fr := by
  unfold endS; rw [if_pos (by omega)]; congr 2; omega
theorem endS_odd (l : List Span) (k : Nat) : endS l (2 * k + 1) = (l.getD k default).to := by
  unfold endS; rw [if_neg (by omega)]; congr 2; omega
theorem end_step {l : List Span} (h : VSp l) {k : Nat} (hk : k + 1 < 2 * l.length) : endS l k < endS l (k + 1) := by
  by_cases e : k % 2 = 0
  · obtain ⟨m, rfl⟩ : ∃ m, k = 2 * m := ⟨k / 2, by omega⟩
    rw [endS_even, endS_odd]
    exact (h m (by omega)).2.1
  · obtain ⟨m, rfl⟩ : ∃ m, k = 2 * m + 1 := ⟨k / 2, by omega⟩
    rw [endS_odd, show 2 * m + 1 + 1 = 2 * (m + 1) by omega, endS_even]
    have := (h (m + 1) (by omega)).2.2.2 (by omega)
    simpa using this
theorem end_le {l : List Span} (h : VSp l) : ∀ (d k : Nat), k + d < 2 * l.length → endS l k ≤ endS l (k + d)
  | 0, k, _ => Int.le_refl _
  | d + 1, k, hk => by
    have h1 := end_le h d k (by omega)
    have h2 := end_step h (k := k + d) (by omega)
    rw [show k + (d + 1) = k + d + 1 by omega]
    omega
theorem end_mono {l : List Span} (h : VSp l) {j k : Nat} (hj : j ≤ k) (hk : k < 2 * l.length) : endS l j ≤ endS l k := by
  have := end_le h (k - j) j (by omega)
  rwa [show j + (k - j) = k by omega] at this
theorem end_nn {l : List Span} (h : VSp l) {k : Nat} (hk : k < 2 * l.length) : 0 ≤ endS l k := by
  have h0 := end_mono h (Nat.zero_le k) hk
  have h1 := h 0 (by omega)
  have h2 := endS_even l 0
  simp only [Nat.mul_zero] at h2
  omega
theorem end_max {l : List Span} (h : VSp l) {k : Nat} (hk : k < 2 * l.length) : endS l k ≤ 2147483647 := by
  have := h (k / 2) (by omega)
  unfold endS
  split <;> omega
/-- Where n ends are at most x and the others above it. -/
theorem me_parity {l : List Span} {x : Int} {n : Nat} (h1 : ∀ k, k < n → k < 2 * l.length → endS l k ≤ x) (h2 : ∀ k, n ≤ k → k < 2 * l.length → x < endS l k) (hn : n ≤ 2 * l.length) : Me l x ↔ n % 2 = 1 := by
  constructor
  · rintro ⟨k, hk, a, b⟩
    rw [← endS_even] at a
    rw [← endS_odd] at b
    have c1 : 2 * k < n := by
      by_cases c : 2 * k < n
      · exact c
      · have := h2 (2 * k) (by omega) (by omega); omega
    have c2 : n ≤ 2 * k + 1 := by
      by_cases c : n ≤ 2 * k + 1
      · exact c
      · have := h1 (2 * k + 1) (by omega) (by omega); omega
    omega
  · intro hp
    refine ⟨n / 2, by omega, ?_, ?_⟩
    · rw [← endS_even]; exact h1 _ (by omega) (by omega)
    · rw [← endS_odd]; exact h2 _ (by omega) (by omega)
theorem getD_app {l : List Span} {s : Span} {k : Nat} : (l ++ [s]).getD k default = if k < l.length then l.getD k default else if k = l.length then s else default := by
  simp only [List.getD_eq_getElem?_getD]
  by_cases h : k < l.length
  · rw [List.getElem?_append_left h, if_pos h]
  · rw [List.getElem?_append_right (by omega), if_neg h]
    by_cases e : k = l.length
    · subst e; simp
    · rw [if_neg e, List.getElem?_eq_none (by simp; omega)]; rfl
theorem getD_put {l : List Span} {s : Span} {i k : Nat} (hi : i < l.length) : (l.set i s).getD k default = if k = i then s else l.getD k default := by
  simp only [List.getD_eq_getElem?_getD, List.getElem?_set]
  by_cases e : i = k
  · subst e; simp [hi]
  · rw [if_neg e, if_neg (fun h => e h.symm)]
theorem add_ok {l : List Span} {p n : Int} (h : VSp l) (hp : ∀ k, k < l.length → (l.getD k default).to ≤ p) (h0 : 0 ≤ p) (hpn : p < n) (hn : n ≤ 2147483647) :
    VSp (addS l ⟨p, n⟩) ∧ (∀ k, k < (addS l ⟨p, n⟩).length → ((addS l ⟨p, n⟩).getD k default).to ≤ n) ∧ ∀ x, Me (addS l ⟨p, n⟩) x ↔ Me l x ∨ p ≤ x ∧ x < n := by
  unfold addS
  by_cases hc : 0 < l.length ∧ p ≤ (l.getD (l.length - 1) default).to
  · rw [if_pos hc]
    have hl := hp (l.length - 1) (by omega)
    have hv := h (l.length - 1) (by omega)
    have hto : (l.getD (l.length - 1) default).to = p := by have := hc.2; omega
    have hmx : max (l.getD (l.length - 1) default).to n = n := by omega
    simp only [hmx]
    refine ⟨fun k hk => ?_, fun k hk => ?_, fun x => ?_⟩
    · rw [List.length_set] at hk
      rw [getD_put (by omega), getD_put (by omega)]
      have hk' := h k hk
      by_cases e : k = l.length - 1
      · subst e
        rw [if_pos rfl]
        by_cases e2 : 0 < l.length - 1
        · rw [if_neg (by omega)]; exact ⟨hv.1, by simp only; omega, hn, hv.2.2.2⟩
        · exact ⟨hv.1, by simp only; omega, hn, fun h => absurd h e2⟩
      · rw [if_neg e, if_neg (by omega)]; exact hk'
    · rw [List.length_set] at hk
      rw [getD_put (by omega)]
      split
      · exact Int.le_refl _
      · have := hp k hk; omega
    · constructor
      · rintro ⟨k, hk, a, b⟩
        rw [List.length_set] at hk
        rw [getD_put (by omega)] at a b
        by_cases e : k = l.length - 1
        · rw [if_pos e] at a b
          by_cases hx : x < p
          · exact .inl ⟨l.length - 1, by omega, a, by omega⟩
          · exact .inr ⟨by omega, b⟩
        · rw [if_neg e] at a b
          exact .inl ⟨k, hk, a, b⟩
      · rintro (⟨k, hk, a, b⟩ | ⟨a, b⟩)
        · refine ⟨k, by rw [List.length_set]; exact hk, ?_, ?_⟩ <;> rw [getD_put (by omega)] <;> split
          · rename_i e; subst e; exact a
          · exact a
          · rename_i e; subst e; simp only; omega
          · exact b
        · refine ⟨l.length - 1, by rw [List.length_set]; omega, ?_, ?_⟩ <;> rw [getD_put (by omega), if_pos rfl]
          · simp only; omega
          · exact b
  · rw [if_neg hc]
    refine ⟨fun k hk => ?_, fun k hk => ?_, fun x => ?_⟩
    · rw [List.length_append, List.length_singleton] at hk
      rw [getD_app, getD_app]
      by_cases e : k < l.length
      · rw [if_pos e, if_pos (by omega)]; exact h k e
      · rw [if_neg e, if_pos (by omega)]
        refine ⟨h0, hpn, hn, fun hk0 => ?_⟩
        rw [if_pos (by omega)]
        have : k = l.length := by omega
        subst this
        have : ¬ (p ≤ (l.getD (l.length - 1) default).to) := fun hh => hc ⟨hk0, hh⟩
        simp only
        omega
    · rw [List.length_append, List.length_singleton] at hk
      rw [getD_app]
      by_cases e : k < l.length
      · rw [if_pos e]; have := hp k e; omega
      · rw [if_neg e, if_pos (by omega)]; exact Int.le_refl _
    · constructor
      · rintro ⟨k, hk, a, b⟩
        rw [List.length_append, List.length_singleton] at hk
        rw [getD_app] at a b
        by_cases e : k < l.length
        · rw [if_pos e] at a b; exact .inl ⟨k, e, a, b⟩
        · rw [if_neg e, if_pos (by omega)] at a b; exact .inr ⟨a, b⟩
      · rintro (⟨k, hk, a, b⟩ | ⟨a, b⟩)
        · refine ⟨k, by simp; omega, ?_, ?_⟩ <;> rw [getD_app, if_pos hk] <;> assumption
        · refine ⟨l.length, by simp, ?_, ?_⟩ <;> rw [getD_app, if_neg (by omega), if_pos rfl] <;> assumption
theorem skip_eq {l : List Span} {p : Int} : ∀ (i k : Nat), i ≤ k → k < skipS l i p → k < 2 * l.length ∧ endS l k = p := by
  intro i
  induction i using skipS.induct (l := l) (p := p) with
  | case1 i h ih =>
    intro k hk hs
    rw [skipS, if_pos h] at hs
    by_cases e : k = i
    · subst e; exact h
    · exact ih k (by omega) hs
  | case2 i h =>
    intro k hk hs
    rw [skipS, if_neg h] at hs
    omega

/-- What the walk over the ends keeps. -/
structure Inv (w : Bool → Bool → Bool) (a b out : List Span) (p : Int) (i j : Nat) : Prop where
  i2 : i ≤ 2 * a.length
  j2 : j ≤ 2 * b.length
  p0 : 0 ≤ p
  pm : p ≤ 2147483647
  al : ∀ k, k < i → endS a k ≤ p
  ah : ∀ k, i ≤ k → k < 2 * a.length → p ≤ endS a k
  bl : ∀ k, k < j → endS b k ≤ p
  bh : ∀ k, j ≤ k → k < 2 * b.length → p ≤ endS b k
  vo : VSp out
  to : ∀ k, k < out.length → (out.getD k default).to ≤ p
  me : ∀ x, x < p → (Me out x ↔ ∃ c d : Bool, (c = true ↔ Me a x) ∧ (d = true ↔ Me b x) ∧ w c d = true)
theorem exw {A B p q : Prop} [Decidable p] [Decidable q] {w : Bool → Bool → Bool} (hA : A ↔ p) (hB : B ↔ q) : (∃ c d : Bool, (c = true ↔ A) ∧ (d = true ↔ B) ∧ w c d = true) ↔ w (decide p) (decide q) = true := by
  constructor
  · rintro ⟨c, d, h1, h2, h3⟩
    have e1 : c = decide p := by
      cases c with
      | true => exact (decide_eq_true (hA.1 (h1.1 rfl))).symm
      | false => exact (decide_eq_false (fun hp => by have := h1.2 (hA.2 hp); cases this)).symm
    have e2 : d = decide q := by
      cases d with
      | true => exact (decide_eq_true (hB.1 (h2.1 rfl))).symm
      | false => exact (decide_eq_false (fun hp => by have := h2.2 (hB.2 hp); cases this)).symm
    rw [← e1, ← e2]; exact h3
  · intro h
    exact ⟨decide p, decide q, by rw [hA]; exact decide_eq_true_iff, by rw [hB]; exact decide_eq_true_iff, h⟩
theorem inv_step {w : Bool → Bool → Bool} {a b out : List Span} {p : Int} {i j : Nat} (ha : VSp a) (hb : VSp b) (I : Inv w a b out p i j) (h : i < 2 * a.length ∨ j < 2 * b.length) :
    Inv w a b (if p < nextS a b i j ∧ w (decide (i % 2 = 1)) (decide (j % 2 = 1)) = true then addS out ⟨p, nextS a b i j⟩ else out) (nextS a b i j) (skipS a i (nextS a b i j)) (skipS b j (nextS a b i j)) := by
  have na : i < 2 * a.length → nextS a b i j ≤ endS a i := fun hi => by unfold nextS; rw [if_pos hi]; split <;> omega
  have nb : j < 2 * b.length → nextS a b i j ≤ endS b j := fun hj => by unfold nextS; rw [if_pos hj]; omega
  have pn : p ≤ nextS a b i j := by
    unfold nextS
    by_cases hi : i < 2 * a.length <;> by_cases hj : j < 2 * b.length
    · have := I.ah i (Nat.le_refl _) hi; have := I.bh j (Nat.le_refl _) hj; rw [if_pos hj, if_pos hi]; omega
    · have := I.ah i (Nat.le_refl _) hi; rw [if_neg hj, if_pos hi]; omega
    · have := I.bh j (Nat.le_refl _) hj; have := I.pm; rw [if_pos hj, if_neg hi]; omega
    · omega
  have nm : nextS a b i j ≤ 2147483647 := by
    rcases h with h | h
    · have := na h; have := end_max ha h; omega
    · have := nb h; have := end_max hb h; omega
  generalize hn : nextS a b i j = n at *
  have nah : ∀ k, i ≤ k → k < 2 * a.length → n ≤ endS a k := fun k h1 h2 => by have := na (by omega); have := end_mono ha h1 h2; omega
  have nbh : ∀ k, j ≤ k → k < 2 * b.length → n ≤ endS b k := fun k h1 h2 => by have := nb (by omega); have := end_mono hb h1 h2; omega
  have i2 := skipS_ge a n i
  have j2 := skipS_ge b n j
  have key : VSp (if p < n ∧ w (decide (i % 2 = 1)) (decide (j % 2 = 1)) = true then addS out ⟨p, n⟩ else out) ∧
      (∀ k, k < (if p < n ∧ w (decide (i % 2 = 1)) (decide (j % 2 = 1)) = true then addS out ⟨p, n⟩ else out).length → ((if p < n ∧ w (decide (i % 2 = 1)) (decide (j % 2 = 1)) = true then addS out ⟨p, n⟩ else out).getD k default).to ≤ n) ∧
      ∀ x, Me (if p < n ∧ w (decide (i % 2 = 1)) (decide (j % 2 = 1)) = true then addS out ⟨p, n⟩ else out) x ↔ Me out x ∨ (p ≤ x ∧ x < n) ∧ w (decide (i % 2 = 1)) (decide (j % 2 = 1)) = true := by
    by_cases hc : p < n ∧ w (decide (i % 2 = 1)) (decide (j % 2 = 1)) = true
    · rw [if_pos hc]
      obtain ⟨q1, q2, q3⟩ := add_ok I.vo I.to I.p0 hc.1 nm
      exact ⟨q1, q2, fun x => by rw [q3]; simp [hc.2]⟩
    · rw [if_neg hc]
      refine ⟨I.vo, fun k hk => by have := I.to k hk; omega, fun x => ⟨.inl, ?_⟩⟩
      rintro (h | ⟨h1, h2⟩)
      · exact h
      · exact absurd ⟨by omega, h2⟩ hc
  obtain ⟨k1, k2, k3⟩ := key
  refine ⟨skipS_le a n i I.i2, skipS_le b n j I.j2, by have := I.p0; omega, nm, fun k hk => ?_, fun k hk hl => nah k (by omega) hl, fun k hk => ?_, fun k hk hl => nbh k (by omega) hl, k1, k2, fun x hx => ?_⟩
  · by_cases hki : k < i
    · have := I.al k hki; omega
    · exact Int.le_of_eq (skip_eq i k (by omega) hk).2
  · by_cases hki : k < j
    · have := I.bl k hki; omega
    · exact Int.le_of_eq (skip_eq j k (by omega) hk).2
  · rw [k3]
    by_cases hxp : x < p
    · rw [← I.me x hxp]
      exact ⟨fun h => by rcases h with h | h; exact h; omega, .inl⟩
    · have hA : Me a x ↔ i % 2 = 1 := me_parity (fun k h1 _ => by have := I.al k h1; omega) (fun k h1 h2 => by have := nah k h1 h2; omega) I.i2
      have hB : Me b x ↔ j % 2 = 1 := me_parity (fun k h1 _ => by have := I.bl k h1; omega) (fun k h1 h2 => by have := nbh k h1 h2; omega) I.j2
      rw [exw hA hB]
      constructor
      · rintro (⟨k, hk, h1, h2⟩ | h)
        · have := I.to k hk; omega
        · exact h.2
      · intro h; exact .inr ⟨⟨by omega, hx⟩, h⟩
theorem merge_inv {w : Bool → Bool → Bool} {a b : List Span} (ha : VSp a) (hb : VSp b) : ∀ (N : Nat) (out : List Span) (p : Int) (i j : Nat), (2 * a.length - i) + (2 * b.length - j) = N → Inv w a b out p i j →
    ∃ q, Inv w a b (mergeS w a b out p i j) q (2 * a.length) (2 * b.length) := by
  intro N
  induction N using Nat.strongRecOn with
  | _ N ih =>
    intro out p i j hN I
    by_cases h : i < 2 * a.length ∨ j < 2 * b.length
    · have hb' : ∀ k, k < 2 * b.length → endS b k ≤ 2147483648 := fun k hk => by have := end_max hb hk; omega
      rw [mergeS_step w a b out p i j h hb']
      have h1 := skip_prog a b i j h hb'
      have h2 := skipS_ge a (nextS a b i j) i
      have h3 := skipS_ge b (nextS a b i j) j
      exact ih _ (by omega) _ _ _ _ rfl (inv_step ha hb I h)
    · rw [mergeS_end w a b out p i j h]
      have := I.i2
      have := I.j2
      obtain rfl : i = 2 * a.length := by omega
      obtain rfl : j = 2 * b.length := by omega
      exact ⟨p, I⟩
theorem me_nn {l : List Span} (h : VSp l) {x : Int} (hx : Me l x) : 0 ≤ x ∧ x < 2147483647 := by
  obtain ⟨k, hk, a, b⟩ := hx
  have := h k hk
  omega
theorem merge_spec {w : Bool → Bool → Bool} (hw : w false false = false) {a b : List Span} (ha : VSp a) (hb : VSp b) :
    VSp (mergeS w a b [] 0 0 0) ∧ ∀ x, Me (mergeS w a b [] 0 0 0) x ↔ ∃ c d : Bool, (c = true ↔ Me a x) ∧ (d = true ↔ Me b x) ∧ w c d = true := by
  obtain ⟨q, I⟩ := merge_inv (w := w) ha hb _ [] 0 0 0 rfl ⟨by omega, by omega, by omega, by omega, fun k hk => by omega, fun k _ hk => end_nn ha hk, fun k hk => by omega, fun k _ hk => end_nn hb hk, fun k hk => by simp at hk, fun k hk => by simp at hk, fun x hx => by
    constructor
    · rintro ⟨k, hk, _⟩; simp at hk
    · rintro ⟨c, d, h1, h2, h3⟩
      have e1 : c = false := by cases c with | false => rfl | true => have := me_nn ha (h1.1 rfl); omega
      have e2 : d = false := by cases d with | false => rfl | true => have := me_nn hb (h2.1 rfl); omega
      subst e1; subst e2; rw [hw] at h3; cases h3⟩
  refine ⟨I.vo, fun x => ?_⟩
  by_cases hx : x < q
  · exact I.me x hx
  · have hA : Me a x ↔ (2 * a.length) % 2 = 1 := me_parity (fun k h1 _ => by have := I.al k h1; omega) (fun k h1 h2 => by omega) (Nat.le_refl _)
    have hB : Me b x ↔ (2 * b.length) % 2 = 1 := me_parity (fun k h1 _ => by have := I.bl k h1; omega) (fun k h1 h2 => by omega) (Nat.le_refl _)
    rw [exw hA hB, decide_eq_false (by omega), decide_eq_false (by omega), hw]
    constructor
    · rintro ⟨k, hk, h1, h2⟩; have := I.to k hk; omega
    · intro h; cases h
end Go.Ch
end
section
set_option linter.unusedVariables false
set_option linter.unusedSimpArgs false
namespace Go.Ch

/-- A set in its form, from the front. -/
def Vd : Int → List Span → Prop
  | _, [] => True
  | lo, s :: l => lo < s.fr ∧ s.fr < s.to ∧ s.to ≤ 2147483647 ∧ Vd s.to l
theorem VI_tail {s : Span} {l : List Span} (h : VSp (s :: l)) : VSp l := by
  intro k hk
  have := h (k + 1) (by simp; omega)
  refine ⟨by simpa using this.1, by simpa using this.2.1, by simpa using this.2.2.1, fun h0 => ?_⟩
  have h2 := this.2.2.2 (by omega)
  obtain ⟨m, rfl⟩ : ∃ m, k = m + 1 := ⟨k - 1, by omega⟩
  simpa using h2
theorem vd_of : ∀ {l : List Span} {lo : Int}, VSp l → (∀ s t, l = s :: t → lo < s.fr) → Vd lo l
  | [], _, _, _ => trivial
  | s :: l, lo, h, h0 => by
    have h1 := h 0 (by simp)
    simp only [List.getD_cons_zero] at h1
    refine ⟨h0 s l rfl, h1.2.1, h1.2.2.1, vd_of (VI_tail h) (fun s' t e => ?_)⟩
    subst e
    have h2 := (h 1 (by simp)).2.2.2 (by omega)
    simpa using h2
theorem vd {l : List Span} (h : VSp l) : Vd (-1) l := vd_of h (fun s t e => by
  subst e
  have := h 0 (by simp)
  simp only [List.getD_cons_zero] at this
  omega)
theorem me_cons {s : Span} {l : List Span} {x : Int} : Me (s :: l) x ↔ (s.fr ≤ x ∧ x < s.to) ∨ Me l x := by
  constructor
  · rintro ⟨k, hk, a, b⟩
    cases k with
    | zero => exact .inl ⟨by simpa using a, by simpa using b⟩
    | succ k => exact .inr ⟨k, by simp at hk; omega, by simpa using a, by simpa using b⟩
  · rintro (⟨a, b⟩ | ⟨k, hk, a, b⟩)
    · exact ⟨0, by simp, by simpa using a, by simpa using b⟩
    · exact ⟨k + 1, by simp; omega, by simpa using a, by simpa using b⟩
theorem me_nil {x : Int} : ¬ Me [] x := by rintro ⟨k, hk, _⟩; simp at hk
theorem me_lo : ∀ {l : List Span} {lo x : Int}, Vd lo l → Me l x → lo < x
  | [], _, _, _, h => absurd h me_nil
  | s :: l, lo, x, h, hm => by
    obtain ⟨h1, h2, h3, h4⟩ := h
    rcases me_cons.1 hm with hm | hm
    · omega
    · have := me_lo h4 hm; omega
theorem vd_uniq : ∀ {l l' : List Span} {lo lo' : Int}, Vd lo l → Vd lo' l' → (∀ x, Me l x ↔ Me l' x) → l = l'
  | [], [], _, _, _, _, _ => rfl
  | [], s :: l, _, _, _, h', hm => absurd ((hm s.fr).2 (me_cons.2 (.inl ⟨Int.le_refl _, h'.2.1⟩))) me_nil
  | s :: l, [], _, _, h, _, hm => absurd ((hm s.fr).1 (me_cons.2 (.inl ⟨Int.le_refl _, h.2.1⟩))) me_nil
  | s :: l, s' :: l', lo, lo', h, h', hm => by
    obtain ⟨h1, h2, h3, h4⟩ := h
    obtain ⟨k1, k2, k3, k4⟩ := h'
    have e1 : s'.fr ≤ s.fr := by
      rcases me_cons.1 ((hm s.fr).1 (me_cons.2 (.inl ⟨Int.le_refl _, h2⟩))) with h | h
      · exact h.1
      · have := me_lo k4 h; omega
    have e2 : s.fr ≤ s'.fr := by
      rcases me_cons.1 ((hm s'.fr).2 (me_cons.2 (.inl ⟨Int.le_refl _, k2⟩))) with h | h
      · exact h.1
      · have := me_lo h4 h; omega
    have n1 : ¬ Me (s :: l) s.to := fun h => by
      rcases me_cons.1 h with h | h
      · omega
      · have := me_lo h4 h; omega
    have n2 : ¬ Me (s' :: l') s'.to := fun h => by
      rcases me_cons.1 h with h | h
      · omega
      · have := me_lo k4 h; omega
    have e3 : s.to = s'.to := by
      by_cases c : s.to < s'.to
      · exact absurd ((hm s.to).2 (me_cons.2 (.inl ⟨by omega, c⟩))) n1
      · by_cases c2 : s'.to < s.to
        · exact absurd ((hm s'.to).1 (me_cons.2 (.inl ⟨by omega, c2⟩))) n2
        · omega
    have e : s = s' := by
      cases s; cases s'
      simp only at e1 e2 e3
      rw [Span.mk.injEq]
      exact ⟨by omega, e3⟩
    subst e
    rw [vd_uniq h4 k4 (fun x => ?_)]
    constructor
    · intro h
      have := me_lo h4 h
      rcases me_cons.1 ((hm x).1 (me_cons.2 (.inr h))) with q | q
      · omega
      · exact q
    · intro h
      have := me_lo k4 h
      rcases me_cons.1 ((hm x).2 (me_cons.2 (.inr h))) with q | q
      · omega
      · exact q

/-! ### Sizes -/
def sumS : List Span → Int
  | [] => 0
  | s :: l => (s.to - s.fr) + sumS l
/-- How many numbers below n have a property. -/
noncomputable def cnt (p : Int → Prop) : Nat → Int
  | 0 => 0
  | n + 1 => cnt p n + (open Classical in if p (n : Int) then 1 else 0)
theorem two_spec {w : Bool → Bool → Bool} (hw : w false false = false) {a b : List Span} (ha : chkS a 0 = 0) (hb : chkS b 0 = 0) :
    VSp (twoS w a b) ∧ ∀ x, Me (twoS w a b) x ↔ ∃ c d : Bool, (c = true ↔ Me a x) ∧ (d = true ↔ Me b x) ∧ w c d = true := by
  unfold twoS
  rw [if_pos ⟨ha, hb⟩]
  exact merge_spec hw (VSp_of ha) (VSp_of hb)
theorem me_minus {a b : List Span} {x : Int} : (∃ c d : Bool, (c = true ↔ Me a x) ∧ (d = true ↔ Me b x) ∧ (c && !d) = true) ↔ Me a x ∧ ¬ Me b x := by
  constructor
  · rintro ⟨c, d, h1, h2, h3⟩
    cases c
    · cases h3
    · cases d
      · exact ⟨h1.1 rfl, fun h => by have := h2.2 h; cases this⟩
      · cases h3
  · intro h
    exact ⟨true, false, by simp [h.1], by simp [h.2], rfl⟩
theorem spans_chk1 : chkS [⟨0, 5⟩] 0 = 0 := by simp [chkS, badS]
theorem spans_chk2 : chkS [⟨1, 2⟩] 0 = 0 := by simp [chkS, badS]
theorem spans_err : errS [⟨0, 5⟩] [⟨1, 2⟩] = 0 := by simp [errS, spans_chk1, spans_chk2]
theorem spans_val : twoS (fun a b => a && !b) [⟨0, 5⟩] [⟨1, 2⟩] = [⟨0, 1⟩, ⟨2, 5⟩] := by
  obtain ⟨h1, h2⟩ := two_spec (w := fun a b => a && !b) rfl spans_chk1 spans_chk2
  have h3 : Vd (-1) [⟨0, 1⟩, ⟨2, 5⟩] := ⟨by decide, by decide, by decide, by decide, by decide, by decide, trivial⟩
  refine vd_uniq (vd h1) h3 (fun x => ?_)
  rw [h2, me_minus]
  simp only [me_cons, me_nil, or_false]
  constructor <;> intro h <;> omega
end Go.Ch
end
section
set_option linter.unusedVariables false
set_option linter.unusedSimpArgs false
set_option maxRecDepth 100000
set_option maxHeartbeats 4000000
open Go Go.Proofs Go.Ab
namespace Go.Ch
theorem fcs_spans  : FC Try.prog 20 [] (app emp []) (VB true) (app emp []) := by
 refine .go Try.f20 ?_
 have e1 : (((((errS [({ fr := 0, to := 5 } : Span)] [({ fr := 1, to := 2 } : Span)]) == 0) && (((twoS (fun a b => a && !b) [({ fr := 0, to := 5 } : Span)] [({ fr := 1, to := 2 } : Span)]).length : Int) == 2)) && (((((twoS (fun a b => a && !b) [({ fr := 0, to := 5 } : Span)] [({ fr := 1, to := 2 } : Span)]).getD 1 default)).fr) == 2 && (((((twoS (fun a b => a && !b) [({ fr := 0, to := 5 } : Span)] [({ fr := 1, to := 2 } : Span)]).getD 1 default)).to) == 5 && true))) : Bool) = true := by
  simp [spans_err, spans_val]
 exact .finE [.r [], .r [(4, X (Xc1 40 (fcs_minus [({ fr := 0, to := 5 } : Span)] [({ fr := 1, to := 2 } : Span)]) (rowC spanT [({ fr := 0, to := 5 } : Span)] (rowC spanT [({ fr := 1, to := 2 } : Span)] X0))))], .r [(4, Xv 1 ((errS [({ fr := 0, to := 5 } : Span)] [({ fr := 1, to := 2 } : Span)]) == 0) X0), (5, Xv 1 ((errS [({ fr := 0, to := 5 } : Span)] [({ fr := 1, to := 2 } : Span)]) == 0) X0), (6, X (Xk ((errS [({ fr := 0, to := 5 } : Span)] [({ fr := 1, to := 2 } : Span)]) == 0))), (9, Xv 1 (((errS [({ fr := 0, to := 5 } : Span)] [({ fr := 1, to := 2 } : Span)]) == 0) && (((twoS (fun a b => a && !b) [({ fr := 0, to := 5 } : Span)] [({ fr := 1, to := 2 } : Span)]).length : Int) == 2)) (Xp spanT (twoS (fun a b => a && !b) [({ fr := 0, to := 5 } : Span)] [({ fr := 1, to := 2 } : Span)]) 1)), (10, Xv 1 (((errS [({ fr := 0, to := 5 } : Span)] [({ fr := 1, to := 2 } : Span)]) == 0) && (((twoS (fun a b => a && !b) [({ fr := 0, to := 5 } : Span)] [({ fr := 1, to := 2 } : Span)]).length : Int) == 2)) (Xe spanT (twoS (fun a b => a && !b) [({ fr := 0, to := 5 } : Span)] [({ fr := 1, to := 2 } : Span)]) 1)), (12, Xv 2 (((errS [({ fr := 0, to := 5 } : Span)] [({ fr := 1, to := 2 } : Span)]) == 0) && (((twoS (fun a b => a && !b) [({ fr := 0, to := 5 } : Span)] [({ fr := 1, to := 2 } : Span)]).length : Int) == 2)) X0), (13, X (Xk (((errS [({ fr := 0, to := 5 } : Span)] [({ fr := 1, to := 2 } : Span)]) == 0) && (((twoS (fun a b => a && !b) [({ fr := 0, to := 5 } : Span)] [({ fr := 1, to := 2 } : Span)]).length : Int) == 2))))]] [] (fun z0 => (VB z0, [])) (((((errS [({ fr := 0, to := 5 } : Span)] [({ fr := 1, to := 2 } : Span)]) == 0) && (((twoS (fun a b => a && !b) [({ fr := 0, to := 5 } : Span)] [({ fr := 1, to := 2 } : Span)]).length : Int) == 2)) && (((((twoS (fun a b => a && !b) [({ fr := 0, to := 5 } : Span)] [({ fr := 1, to := 2 } : Span)]).getD 1 default)).fr) == 2 && (((((twoS (fun a b => a && !b) [({ fr := 0, to := 5 } : Span)] [({ fr := 1, to := 2 } : Span)]).getD 1 default)).to) == 5 && true))) : Bool) (true : Bool) e1.symm
end Go.Ch
end
section
set_option linter.unusedVariables false
set_option linter.unusedSimpArgs false
namespace Go.Ch
open Go Go.Ab
def thrS (d : List DStep) (f t : Int) : List Span := if (hullS (axD d) f t 0 0 0 0).1 < (hullS (axD d) f t 0 0 0 0).2 then [⟨(hullS (axD d) f t 0 0 0 0).1, (hullS (axD d) f t 0 0 0 0).2⟩] else []
theorem chk_one {f t : Int} (h0 : 0 ≤ f) (h1 : f < t) (h2 : t ≤ 2147483647) : chkS [({ fr := f, to := t } : Span)] 0 = 0 := by
  have h : ¬ badS ⟨f, t⟩ := by unfold badS; simp only; omega
  rw [chkS]
  simp only [List.length_cons, List.length_nil, List.getD_cons_zero]
  rw [if_pos (by decide), if_neg h, if_neg (by simp), chkS]
  simp
end Go.Ch
namespace Go.Ch
open Go Go.Ab
theorem thr_len (d : List DStep) (f t : Int) : (thrS d f t).length ≤ 1 := by unfold thrS; split <;> simp
theorem thr_law {d : List DStep} {n : Nat} {g : List Elem} (h : DValid d) (hl : oldD d = n) (hA : ∀ e, DU.A e ∈ exD d → e.char < 97) (hg : rawD (abcL n) d = g) {fr to : Int} (h0 : 0 ≤ fr) (h1 : fr ≤ to) {i : Nat} (hi : i < g.length)
    (c0 : 0 ≤ (g.getD i default).char - 97) (c1 : (g.getD i default).char - 97 ≤ n - 1) {l : List Span} (e : thrS d fr to = l) :
    (((l.length : Int) = 1 ∧ (l.getD 0 default).fr ≤ i) ∧ (i : Int) < (l.getD 0 default).to) ↔ (fr ≤ (g.getD i default).char - 97 ∧ (g.getD i default).char - 97 < to) := by
  subst hg
  rw [← span_law h hl hA h0 h1 hi c0 c1, ← e]
  unfold thrS
  split
  · simp
  · simp; omega
end Go.Ch
namespace Go.Ch
open Go Go.Ab
theorem elemE_char {x : Elem} (h : elemE x = 0) : 0 ≤ x.char ∧ x.char ≤ 1114111 := by
  unfold elemE at h
  split at h
  · omega
  · rename_i h1
    split at h
    · omega
    · rename_i h2
      by_cases r : x.ref = 0
      · have : CharP x.char := Classical.byContradiction fun q => h2 (.inl ⟨r, q⟩)
        unfold CharP at this; omega
      · have : x.char = 0 := Classical.byContradiction fun q => h1 ⟨fun e => absurd e q, fun e => absurd e r⟩
        omega
end Go.Ch
end
section
set_option linter.unusedVariables false
set_option linter.unusedSimpArgs false
set_option maxRecDepth 100000
set_option maxHeartbeats 4000000
open Go Go.Proofs Go.Ab
namespace Go.Ch
theorem fc_through (d : List DStep) (fr to : Int) (hv : DValid d) (hd : DN 400000000000 d) (hf : 0 ≤ fr ∧ fr < to ∧ to ≤ oldD d) : FC Try.prog 69 [VL 4 dstepT d, VL 2 spanT [({ fr := fr, to := to } : Span)]] (app emp []) (.tup [VL 2 spanT (thrS d fr to), VI 0]) (app emp []) := by
 refine .go Try.f69 ?_
 refine .len 0 (fun hl0 => ?_)
 refine .len 1 (fun hl1 => ?_)
 obtain ⟨va, _, ax3, ax4⟩ := axD_ok hv
 have hv1 := hv.2.1
 have hck : chkS [({ fr := fr, to := to } : Span)] 0 = 0 := chk_one hf.1 hf.2.1 (by omega)
 have h0 : ([({ fr := fr, to := to } : Span)] : List Span).getD 0 default = { fr := fr, to := to } := rfl
 refine .br [.r [], .r [(1, X (Xc1 24 (fc_dAxis d (by assumption) (by assumption)) X0))], .r [], .f, .r [(1, X (Xc0 (fcs_check [({ fr := fr, to := to } : Span)]) X0))], .r []] ((chkS [({ fr := fr, to := to } : Span)] 0) != 0) (fun h5 => ?_) (fun h5 => ?_)
 ·
  (try simp only [bne_iff_ne, bne_eq_false_iff_eq, ne_eq] at h5)
  exfalso
  omega
 ·
  (try simp only [bne_iff_ne, bne_eq_false_iff_eq, ne_eq] at h5)
  refine .br [.r [(1, X (Xc0 (fc_axLengths (axD d) (by assumption)) X0))], .r [(1, X (Xl spanT [({ fr := fr, to := to } : Span)])), (6, Xv 1 (decide (([({ fr := fr, to := to } : Span)].length : Int) > 0)) (Xl spanT [({ fr := fr, to := to } : Span)])), (7, Xv 1 (decide (([({ fr := fr, to := to } : Span)].length : Int) > 0)) (Xn (([({ fr := fr, to := to } : Span)].length : Int) - 1))), (8, Xv 2 (decide (([({ fr := fr, to := to } : Span)].length : Int) > 0)) (Xi' spanT [({ fr := fr, to := to } : Span)] (([({ fr := fr, to := to } : Span)].length : Int) - 1) (([({ fr := fr, to := to } : Span)].length) - 1))), (9, Xv 1 (decide (([({ fr := fr, to := to } : Span)].length : Int) > 0)) X0), (10, Xv 1 (decide (([({ fr := fr, to := to } : Span)].length : Int) > 0)) X0), (12, Xv 2 (decide (([({ fr := fr, to := to } : Span)].length : Int) > 0)) X0), (13, X (Xk (decide (([({ fr := fr, to := to } : Span)].length : Int) > 0))))]] (decide (([({ fr := fr, to := to } : Span)].length : Int) > 0) && decide (((([({ fr := fr, to := to } : Span)].getD (([({ fr := fr, to := to } : Span)].length) - 1) default)).to) > (oldI (axD d)))) (fun h8 => ?_) (fun h8 => ?_)
  ·
   (try simp only [decide_eq_true_eq, decide_eq_false_iff_not, Int.not_lt, Int.not_le, gt_iff_lt, Bool.and_eq_true, Bool.and_eq_false_iff, Bool.not_eq_true', Bool.not_eq_false'] at h8)
   exfalso
   simp at h8; omega
  ·
   (try simp only [decide_eq_true_eq, decide_eq_false_iff_not, Int.not_lt, Int.not_le, gt_iff_lt, Bool.and_eq_true, Bool.and_eq_false_iff, Bool.not_eq_true', Bool.not_eq_false'] at h8)
   refine .loop (α := Nat × (List Span)) [.r [], .r [(1, X (Xl spanT [({ fr := fr, to := to } : Span)]))], .le (.nR 12 2)] 345 (fun (i, o) => ([(6, VL 2 stepT (axD d)), (12, .row 344 o.length), (50, VL 2 spanT [({ fr := fr, to := to } : Span)]), (51, VI ([({ fr := fr, to := to } : Span)].length : Int)), (52, VI (i : Int))], [(344, OR 2 spanT o)])) (fun (i, o) => i ≤ 1 ∧ (i = 0 → o = []) ∧ (i = 1 → o = thrS d fr to)) (fun (i, o) => 1 - i) (0, []) ?_ ?_
   ·
    exact ⟨by omega, fun _ => rfl, fun h => by omega⟩
   rintro ⟨i, o⟩ I12 ih12
   try dsimp only at I12
   refine .br [.r []] (decide ((i : Int) < ([({ fr := fr, to := to } : Span)].length : Int))) (fun h12 => ?_) (fun h12 => ?_)
   ·
    (try simp only [decide_eq_true_eq, decide_eq_false_iff_not, Int.not_lt, Int.not_le] at h12)
    have hi0 : i = 0 := by simp at h12; omega
    have o0 := I12.2.1 hi0
    have e0 : [({ fr := fr, to := to } : Span)].getD i default = { fr := fr, to := to } := by rw [hi0]; rfl
    have e1 : ([({ fr := fr, to := to } : Span)].getD i default).fr = fr := by rw [e0]
    have e2 : ([({ fr := fr, to := to } : Span)].getD i default).to = to := by rw [e0]
    have ol : o.length = 0 := by rw [o0]; rfl
    refine .br [.r [(0, X (Xi spanT [({ fr := fr, to := to } : Span)] (i : Int)))], .r [(5, X (Xc0 (fc_hull (axD d) ((([({ fr := fr, to := to } : Span)].getD i default)).fr) ((([({ fr := fr, to := to } : Span)].getD i default)).to) (by assumption) (by omega)) X0))], .le (.eq 15 (VI ((hullS (axD d) ((([({ fr := fr, to := to } : Span)].getD i default)).fr) ((([({ fr := fr, to := to } : Span)].getD i default)).to) 0 0 0 0).1)) (VI ((hullS (axD d) fr to 0 0 0 0).1)) (.of_eq (by rw [e1, e2]))), .le (.eq 16 (VI ((hullS (axD d) ((([({ fr := fr, to := to } : Span)].getD i default)).fr) ((([({ fr := fr, to := to } : Span)].getD i default)).to) 0 0 0 0).2)) (VI ((hullS (axD d) fr to 0 0 0 0).2)) (.of_eq (by rw [e1, e2]))), .r []] (decide (((hullS (axD d) fr to 0 0 0 0).1) < ((hullS (axD d) fr to 0 0 0 0).2))) (fun h15 => ?_) (fun h15 => ?_)
    ·
     (try simp only [decide_eq_true_eq, decide_eq_false_iff_not, Int.not_lt, Int.not_le] at h15)
     refine .back [.r [(4, X (Xc3 529 [(0, 344)] (fcs_add o ({ fr := (hullS (axD d) fr to 0 0 0 0).1, to := (hullS (axD d) fr to 0 0 0 0).2 } : Span) (by (first | omega | with_reducible exact fun h => h | (intro hq; rw [hq]; done) | (intro hq; rw [hq]; rfl) | (simp only [List.length_map]; done) | (simp only [List.length_map]; omega) | (simp; omega) | (simp; done)))) X0))], .r [(0, X (Xn ((i : Int) + 1)))]] [(344, 344)] (ih12 ((i + 1), (addS o ({ fr := (hullS (axD d) fr to 0 0 0 0).1, to := (hullS (axD d) fr to 0 0 0 0).2 } : Span))) ?_ ?_)
     ·
      refine ⟨by omega, fun h => by omega, fun _ => ?_⟩
      rw [o0]
      unfold thrS
      rw [if_pos h15]
      rfl
     ·
      ((try dsimp only); omega)
    ·
     (try simp only [decide_eq_true_eq, decide_eq_false_iff_not, Int.not_lt, Int.not_le] at h15)
     refine .back [.r [(0, X (Xn ((i : Int) + 1)))]] [(344, 344)] (ih12 ((i + 1), o) ?_ ?_)
     ·
      refine ⟨by omega, fun h => by omega, fun _ => ?_⟩
      rw [o0]
      unfold thrS
      rw [if_neg (by omega)]
     ·
      ((try dsimp only); omega)
   ·
    (try simp only [decide_eq_true_eq, decide_eq_false_iff_not, Int.not_lt, Int.not_le] at h12)
    have ho := I12.2.2 (by simp at h12; omega)
    have e1 : ((thrS d fr to) : List Span) = o := by
     rw [ho]
    exact .finE [.r [], .le (.fr 4 [(o.length : Nat) = (List.map spanT o).length] ⟨lm, trivial⟩)] [] (fun z0 => (.tup [VL 2 spanT z0, VI 0], [])) (o : List Span) ((thrS d fr to) : List Span) e1
end Go.Ch
end
section
set_option linter.unusedVariables false
set_option linter.unusedSimpArgs false
set_option maxRecDepth 100000
set_option maxHeartbeats 4000000
open Go Go.Proofs Go.Ab
namespace Go.Ch
theorem fc_lawThrough (n : Int) (raw : List Int) (fr to : Int) : FC Try.prog 16 [VI n, VL 1 intT raw, VI fr, VI to] (app emp []) (VB true) (app emp []) := by
 refine .go Try.f16 ?_
 refine .len 1 (fun hl1 => ?_)
 have tx := tag_x
 obtain ⟨m, hm⟩ : ∃ z, withinI n 1 26 = z := ⟨_, rfl⟩
 have hmb := withinI_bd n (lo := 1) (hi := 26) (by decide)
 rw [hm] at hmb
 obtain ⟨c1, hc1⟩ : ∃ z, withinI fr 0 (m - 1) = z := ⟨_, rfl⟩
 have hcb1 := withinI_bd fr (lo := 0) (hi := m - 1) (by omega)
 rw [hc1] at hcb1
 obtain ⟨c2, hc2⟩ : ∃ z, withinI to (c1 + 1) m = z := ⟨_, rfl⟩
 have hcb2 := withinI_bd to (lo := c1 + 1) (hi := m) (by omega)
 rw [hc2] at hcb2
 refine .br [.r [], .r [(0, X (Xc0 fcs_spans X0)), (3, Xg (!false) (Xc0 fc_deltas X0)), (4, Xv 1 (!false) X0), (5, X (Xk' false))]] (false || false) (fun h1 => ?_) (fun h1 => ?_)
 ·
  (try simp only [Bool.or_eq_true, Bool.or_eq_false_iff] at h1)
  exfalso
  simp at h1
 ·
  (try simp only [Bool.or_eq_true, Bool.or_eq_false_iff] at h1)
  refine .loop (α := Nat × (List Elem)) [.r [(1, X (Xc0 (fc_within n 1 26 (by omega)) X0))], .le (.eq 0 (VI (withinI n 1 26)) (VI m) (.of_eq (by rw [hm]))), .r [(2, X (Xn (m - 1))), (3, X (Xc0 (fc_within fr 0 (m - 1) (by omega)) X0))], .le (.eq 2 (VI (withinI fr 0 (m - 1))) (VI c1) (.of_eq (by rw [hc1]))), .r [(2, X (Xn (c1 + 1))), (4, X (Xc0 (fc_within to (c1 + 1) m (by omega)) X0))], .le (.eq 3 (VI (withinI to (c1 + 1) m)) (VI c2) (.of_eq (by rw [hc2]))), .r [], .r [], .le (.nR 9 3)] 193 (fun (i, o) => ([(0, VI m), (1, VL 1 intT raw), (2, VI c1), (3, VI c2), (9, .row 192 o.length), (36, VI m), (37, VI (i : Int))], [(192, OR 3 elemT o)])) (fun (i, o) => (i : Int) ≤ m ∧ o = abcL i) (fun (i, o) => m.toNat - i) (0, []) ?_ ?_
  ·
   exact ⟨by omega, rfl⟩
  rintro ⟨i, o⟩ I8 ih8
  try dsimp only at I8
  have ol0 : o.length = i := by rw [I8.2, abc_len]
  refine .br [.r []] (decide ((i : Int) < m)) (fun h8 => ?_) (fun h8 => ?_)
  ·
   (try simp only [decide_eq_true_eq, decide_eq_false_iff_not, Int.not_lt, Int.not_le] at h8)
   refine .back [.r [], .r [(2, X (Xn (97 + (i : Int)))), (3, X (Xf [(2, 2)])), (5, X (rowC elemT [({ char := (97 + (i : Int)), ref := 0, attrs := [] } : Elem)] (Xap 3 elemT 192 o [({ char := (97 + (i : Int)), ref := 0, attrs := [] } : Elem)])))], .r [(0, X (Xn ((i : Int) + 1)))]] [(192, 192)] (ih8 ((i + 1), (o ++ [({ char := (97 + (i : Int)), ref := 0, attrs := [] } : Elem)])) ?_ ?_)
   ·
    refine ⟨by omega, ?_⟩
    rw [I8.2, abc_succ]
   ·
    ((try dsimp only); omega)
  ·
   (try simp only [decide_eq_true_eq, decide_eq_false_iff_not, Int.not_lt, Int.not_le] at h8)
   have hco := change_ok (raw := raw) tag_x (n := Int.toNat m) (by omega)
   have hcc := fun h => chg_char (raw := raw) (tag := ({ data := #[120] })) (n := Int.toNat m) (d := (doneD (actR (chgX raw ({ data := #[120] }) (Int.toNat m)) 0))) h
   obtain ⟨d, hA⟩ : ∃ z, (doneD (actR (chgX raw ({ data := #[120] }) (Int.toNat m)) 0)) = z := ⟨_, rfl⟩
   rw [hA] at hco hcc
   obtain ⟨_, _, _, _, va, oa, da, na, wa⟩ := hco
   have hch := hcc wa
   have da4 := da.mono (n := 400000000000) (by decide)
   have ho : o = abcL m.toNat := by rw [I8.2]; congr 1; omega
   have ol : (o.length : Int) = m := by rw [ho, abc_len]; omega
   have hp := abc_ok (n := m.toNat) (by omega)
   have han := abc_an m.toNat 400000000000
   rw [← ho] at hp han
   obtain ⟨ax1, ax2, ax3, ax4⟩ := axD_ok va
   obtain ⟨g, hg0⟩ : ∃ z, rawD o d = z := ⟨_, rfl⟩
   have hgl := rawD_new va (f := o) (by omega)
   rw [hg0] at hgl
   have hgc : ∀ x ∈ g, 0 ≤ x.char ∧ x.char ≤ 1114111 := fun x hx => elemE_char ((undo_final va da (eok_of hp (ho ▸ abc_an _ _)) (by omega)).2.2.2.2.2.2.2.2.1 x (by rw [hg0]; exact hx)).1
   obtain ⟨l, hl⟩ : ∃ z, thrS d c1 c2 = z := ⟨_, rfl⟩
   have hll := thr_len d c1 c2
   rw [hl] at hll
   have hg1 := hg0
   rw [ho] at hg1
   have hlaw := fun i h => thr_law (n := m.toNat) va (by omega) hch hg1 hcb1.1 (show c1 ≤ c2 by omega) (i := i) h
   refine .br [.r [(2, X (Xc1 217 (fc_draw m raw ({ data := #[120] }) (by assumption) (by omega)) X0))], .le (.eq 11 (VL 4 dstepT (doneD (actR (chgX raw ({ data := #[120] }) (Int.toNat m)) 0))) (VL 4 dstepT d) (.of_eq (by rw [hA]))), .r [(2, X (Xc1 249 (fc_dApply o d (by assumption) (by assumption) (by assumption) (by assumption) (by omega)) (rowC elemT o X0)))], .le (.eq 12 (VL 3 elemT (rawD o d)) (VL 3 elemT g) (.of_eq (by rw [hg0]))), .r [(5, X (Xc1 337 (fc_through d c1 c2 (by assumption) (by assumption) (by omega)) (rowC spanT [({ fr := c1, to := c2 } : Span)] X0)))], .le (.eq 14 (VL 2 spanT (thrS d c1 c2)) (VL 2 spanT l) (.of_eq (by rw [hl]))), .r [(4, Xv 1 (!false) X0), (5, X (Xk' false)), (8, Xv 1 (!(false || false)) (Xl spanT l)), (9, Xv 1 (!(false || false)) X0), (10, X (Xk' (false || false)))]] ((false || false) || decide ((l.length : Int) > 1)) (fun h15 => ?_) (fun h15 => ?_)
   ·
    (try simp only [decide_eq_true_eq, decide_eq_false_iff_not, Int.not_lt, Int.not_le, gt_iff_lt, Bool.or_eq_true, Bool.or_eq_false_iff] at h15)
    exfalso
    simp at h15; omega
   ·
    (try simp only [decide_eq_true_eq, decide_eq_false_iff_not, Int.not_lt, Int.not_le, gt_iff_lt, Bool.or_eq_true, Bool.or_eq_false_iff] at h15)
    refine .loop (α := Nat) [.r [(1, X (Xl elemT g))]] 497 (fun i2 => ([(0, VI m), (2, VI c1), (3, VI c2), (12, VL 3 elemT g), (14, VL 2 spanT l), (77, VI (g.length : Int)), (78, VI (i2 : Int))], [])) (fun i2 => i2 ≤ g.length) (fun i2 => g.length - i2) (0 : Nat) ?_ ?_
    ·
     show _ ≤ _; omega
    rintro i2 I18 ih18
    try dsimp only at I18
    refine .br [.r []] (decide ((i2 : Int) < (g.length : Int))) (fun h18 => ?_) (fun h18 => ?_)
    ·
     (try simp only [decide_eq_true_eq, decide_eq_false_iff_not, Int.not_lt, Int.not_le] at h18)
     have hx := hgc _ (getD_mem' (l := g) (k := i2) (by omega))
     have hq := fun a b => hlaw i2 (by omega) a b hl
     refine .br [.r [], .r [(2, X (Xi elemT g (i2 : Int))), (5, X (Xn ((((g.getD i2 default)).char) - 97)))], .r [(1, X (Xl spanT l)), (6, Xv 1 ((l.length : Int) == 1) (Xi spanT l 0)), (7, Xv 1 ((l.length : Int) == 1) X0), (8, Xv 1 ((l.length : Int) == 1) X0), (9, Xv 2 ((l.length : Int) == 1) X0), (10, X (Xk ((l.length : Int) == 1))), (14, Xv 1 (((l.length : Int) == 1) && decide ((i2 : Int) ≥ (((l.getD 0 default)).fr))) (Xi spanT l 0)), (15, Xv 1 (((l.length : Int) == 1) && decide ((i2 : Int) ≥ (((l.getD 0 default)).fr))) X0), (16, Xv 1 (((l.length : Int) == 1) && decide ((i2 : Int) ≥ (((l.getD 0 default)).fr))) X0), (17, Xv 2 (((l.length : Int) == 1) && decide ((i2 : Int) ≥ (((l.getD 0 default)).fr))) X0), (18, X (Xk (((l.length : Int) == 1) && decide ((i2 : Int) ≥ (((l.getD 0 default)).fr)))))], .r [(2, X (Xn (m - 1))), (3, X (Xc0 (fc_in ((((g.getD i2 default)).char) - 97) 0 (m - 1)) X0)), (8, Xv 2 (decide (0 ≤ ((((g.getD i2 default)).char) - 97) ∧ ((((g.getD i2 default)).char) - 97) ≤ (m - 1))) X0), (9, Xv 1 (decide (0 ≤ ((((g.getD i2 default)).char) - 97) ∧ ((((g.getD i2 default)).char) - 97) ≤ (m - 1))) X0), (12, Xv 2 ((decide (0 ≤ ((((g.getD i2 default)).char) - 97) ∧ ((((g.getD i2 default)).char) - 97) ≤ (m - 1))) && (decide (((((g.getD i2 default)).char) - 97) ≥ c1))) X0), (13, Xka (decide (0 ≤ ((((g.getD i2 default)).char) - 97) ∧ ((((g.getD i2 default)).char) - 97) ≤ (m - 1))) (decide (((((g.getD i2 default)).char) - 97) ≥ c1))), (14, Xv 2 (decide (0 ≤ ((((g.getD i2 default)).char) - 97) ∧ ((((g.getD i2 default)).char) - 97) ≤ (m - 1))) X0), (15, X (Xk (decide (0 ≤ ((((g.getD i2 default)).char) - 97) ∧ ((((g.getD i2 default)).char) - 97) ≤ (m - 1)))))]] ((decide (0 ≤ ((((g.getD i2 default)).char) - 97) ∧ ((((g.getD i2 default)).char) - 97) ≤ (m - 1))) && !(((((l.length : Int) == 1) && decide ((i2 : Int) ≥ (((l.getD 0 default)).fr))) && decide ((i2 : Int) < (((l.getD 0 default)).to))) == (decide (((((g.getD i2 default)).char) - 97) ≥ c1) && decide (((((g.getD i2 default)).char) - 97) < c2)))) (fun h22 => ?_) (fun h22 => ?_)
     ·
      (try simp only [decide_eq_true_eq, decide_eq_false_iff_not, Int.not_lt, Int.not_le, ge_iff_le, Bool.not_eq_true', Bool.not_eq_false', Bool.and_eq_true, Bool.and_eq_false_iff, beq_iff_eq, beq_eq_false_iff_ne, ne_eq] at h22)
      exfalso
      obtain ⟨⟨x1, x2⟩, x3⟩ := h22
      have q := hq x1 (by omega)
      refine x3 ?_
      rw [Bool.eq_iff_iff]
      simp only [Bool.and_eq_true, beq_iff_eq, decide_eq_true_eq]
      exact q
     ·
      (try simp only [decide_eq_true_eq, decide_eq_false_iff_not, Int.not_lt, Int.not_le, ge_iff_le, Bool.not_eq_true', Bool.not_eq_false', Bool.and_eq_true, Bool.and_eq_false_iff, beq_iff_eq, beq_eq_false_iff_ne, ne_eq] at h22)
      refine .back [.r [(0, X (Xn ((i2 : Int) + 1)))]] [] (ih18 ((i2 + 1) : Nat) ?_ ?_)
      ·
       show _ ≤ _; omega
      ·
       ((try dsimp only); omega)
    ·
     (try simp only [decide_eq_true_eq, decide_eq_false_iff_not, Int.not_lt, Int.not_le] at h18)
     exact .fin [.r []] []
end Go.Ch
end
section
set_option linter.unusedVariables false
set_option linter.unusedSimpArgs false
namespace Go.Proofs.Ytbdbibmbfmlobaa.frame
open Go Go.Proofs
def chs (l : List Nat) : List Char := l.map Char.ofNat
def w1 : List Char := chs [104, 97, 114, 110, 101, 115, 115]
def w2 : List Char := chs [102, 99, 57, 53, 99, 99, 54, 48, 52, 99, 55, 51, 55, 49, 100, 51, 97, 56, 102, 99, 55, 97, 51, 57, 52, 52, 50, 100, 100, 57, 102, 97, 97, 99, 52, 99, 99, 102, 50, 53, 100, 98, 52, 98, 52, 52, 50, 100, 56, 50, 102, 102, 97, 49, 97, 50, 48, 51, 57, 48, 102, 97, 101, 102]
def w3 : List Char := chs [99, 117, 116]
def sp : Char := Char.ofNat 32
theorem ws_sp (r : List Char) : wordsSigns (sp :: r) = [] :: wordsSigns r := rfl
theorem ws_c (c : Char) (r : List Char) (h : c ≠ sp) : wordsSigns (c :: r) = match wordsSigns r with
    | w :: ws => (c :: w) :: ws
    | [] => [[c]] := by
  rw [wordsSigns.eq_def]
  split
  · rename_i e; cases e
  · rename_i e; simp only [List.cons.injEq] at e; exact absurd e.1 h
  · rename_i e; simp only [List.cons.injEq] at e; obtain ⟨rfl, rfl⟩ := e; rfl
theorem ws_app : ∀ (a : List Char), (a.all fun c => c != sp) = true → ∀ r, wordsSigns (a ++ sp :: r) = a :: wordsSigns r
  | [], _, r => ws_sp r
  | c :: a, h, r => by
    simp only [List.all_cons, Bool.and_eq_true, bne_iff_ne] at h
    rw [List.cons_append, ws_c _ _ h.1, ws_app a h.2 r]
theorem tl (l : List Char) : (String.ofList l).toList = l := String.toList_ofList
theorem k1 : ("harness" : String).toList = w1 := tl w1
theorem k2 : ("cut" : String).toList = w3 := tl w3
theorem k3 : ("gc" : String).toList = chs [103, 99] := tl (chs [103, 99])
theorem k4 : ("spec" : String).toList = chs [115, 112, 101, 99] := tl (chs [115, 112, 101, 99])
theorem k5 : ("carried" : String).toList = chs [99, 97, 114, 114, 105, 101, 100] := tl (chs [99, 97, 114, 114, 105, 101, 100])
theorem lifts (r : List (List Char)) : stripLifts liftWords (w3 :: r) = ([], w3 :: r) := by
  unfold liftWords
  simp only [stripLifts]
  have key : ∀ l : List Nat, (w3 == chs l) = false → ∀ (s : String), s = String.ofList (chs l) → (w3 == s.toList) = false := fun l h s e => by rw [e, tl]; exact h
  rw [if_neg (by rw [key [102, 105, 110, 97, 108, 115] (by kernel_rfl) "finals" rfl]; decide)]
  rw [if_neg (by rw [key [114, 101, 102, 108, 101, 99, 116, 114, 111, 119, 115] (by kernel_rfl) "reflectrows" rfl]; decide)]
  rw [if_neg (by rw [key [108, 101, 97, 110, 114, 111, 119, 115] (by kernel_rfl) "leanrows" rfl]; decide)]
  rw [if_neg (by rw [key [111, 110, 101, 98, 117, 105, 108, 100] (by kernel_rfl) "onebuild" rfl]; decide)]
  rw [if_neg (by rw [key [112, 117, 98, 108, 105, 99, 115, 117, 109, 115] (by kernel_rfl) "publicsums" rfl]; decide)]
  rw [if_neg (by rw [key [101, 113, 103, 117, 97, 114, 100] (by kernel_rfl) "eqguard" rfl]; decide)]
  rw [if_neg (by rw [key [111, 119, 110, 117, 110, 115, 97, 102, 101] (by kernel_rfl) "ownunsafe" rfl]; decide)]
  rw [if_neg (by rw [key [108, 105, 98, 98, 101, 115, 105, 100, 101] (by kernel_rfl) "libbeside" rfl]; decide)]
  rw [if_neg (by rw [key [111, 119, 110, 98, 101, 115, 105, 100, 101] (by kernel_rfl) "ownbeside" rfl]; decide)]
  rw [if_neg (by rw [key [114, 101, 102, 108, 98, 101, 115, 105, 100, 101] (by kernel_rfl) "reflbeside" rfl]; decide)]
  rw [if_neg (by rw [key [97, 108, 105, 97, 115, 101, 115] (by kernel_rfl) "aliases" rfl]; decide)]
  rw [if_neg (by rw [key [97, 102, 116, 101, 114, 105, 110, 105, 116] (by kernel_rfl) "afterinit" rfl]; decide)]
  rw [if_neg (by rw [key [99, 114, 99, 112, 108, 97, 105, 110] (by kernel_rfl) "crcplain" rfl]; decide)]
  rw [if_neg (by rw [key [114, 111, 97, 100, 117, 110, 115, 97, 102, 101] (by kernel_rfl) "roadunsafe" rfl]; decide)]
  rw [if_neg (by rw [key [102, 109, 116, 104, 97, 110, 100, 111, 110] (by kernel_rfl) "fmthandon" rfl]; decide)]
theorem words {P : Program} {rest : List Char} (h : P.initOrder.toList = w1 ++ sp :: (w2 ++ sp :: (w3 ++ sp :: rest))) : behindMainWord (wordsSigns P.initOrder.toList) = w3 :: wordsSigns rest := by
  rw [h, ws_app w1 (by kernel_rfl), ws_app w2 (by kernel_rfl), ws_app w3 (by kernel_rfl)]
  unfold behindMainWord
  rw [k1]
  exact if_pos (by kernel_rfl)
theorem may {P : Program} {rest : List Char} (h : P.initOrder.toList = w1 ++ sp :: (w2 ++ sp :: (w3 ++ sp :: rest))) (hl : P.laysLater = false) (hb : P.bearsReflect = false) (hd : P.doorFits [] = true) : P.mayEnter = true := by
  unfold Program.mayEnter
  rw [words h]
  simp only [lifts, k2, k3, k4, k5, hl, hb, hd]
  have h1 : (w3 == chs [103, 99]) = false := by kernel_rfl
  have h2 : (w3 == chs [115, 112, 101, 99]) = false := by kernel_rfl
  have h3 : (w3 == chs [99, 97, 114, 114, 105, 101, 100]) = false := by kernel_rfl
  rw [h1, h2, h3]
  simp
theorem fin {P : Program} {rest : List Char} (h : P.initOrder.toList = w1 ++ sp :: (w2 ++ sp :: (w3 ++ sp :: rest))) : P.liftsFinal = false := by
  unfold Program.liftsFinal Program.headLifts
  rw [words h]
  simp only [lifts, k2, k5]
  have h3 : (w3 == chs [99, 97, 114, 114, 105, 101, 100]) = false := by kernel_rfl
  simp [h3]
theorem mk {P : Program} {rest : List Char} (h : P.initOrder.toList = w1 ++ sp :: (w2 ++ sp :: (w3 ++ sp :: rest))) : P.make = some .cut := by
  unfold Program.make
  rw [words h]
  simp only [k2, k3, k4, k5]
  have h1 : (w3 == chs [103, 99]) = false := by kernel_rfl
  have h2 : (w3 == chs [115, 112, 101, 99]) = false := by kernel_rfl
  rw [h1, h2]
  simp
theorem head : Try.pinned.checked.prog.initOrder = String.ofList (w1 ++ sp :: (w2 ++ sp :: (w3 ++ sp :: chs [97, 116, 32, 99, 104, 97, 110, 99, 101, 114, 121, 47, 99, 104, 97, 110, 99, 101, 114, 121, 107, 101, 101, 112, 49, 46, 83, 112, 97, 110, 83, 105, 122, 101, 115, 65, 100, 100, 32, 99, 104, 97, 110, 99, 101, 114, 121, 47, 99, 104, 97, 110, 99, 101, 114, 121, 107, 101, 101, 112, 49, 46, 65, 116, 116, 114, 85, 110, 100, 111, 82, 101, 115, 116, 111, 114, 101, 115, 32, 99, 104, 97, 110, 99, 101, 114, 121, 47, 99, 104, 97, 110, 99, 101, 114, 121, 107, 101, 101, 112, 49, 46, 65, 116, 116, 114, 66, 101, 116, 119, 101, 101, 110, 76, 101, 97, 100, 115, 32, 99, 104, 97, 110, 99, 101, 114, 121, 47, 99, 104, 97, 110, 99, 101, 114, 121, 107, 101, 101, 112, 49, 46, 65, 116, 116, 114, 80, 97, 105, 114, 77, 101, 101, 116, 115, 32, 99, 104, 97, 110, 99, 101, 114, 121, 47, 99, 104, 97, 110, 99, 101, 114, 121, 107, 101, 101, 112, 49, 46, 65, 120, 105, 115, 74, 111, 105, 110, 65, 115, 115, 111, 99, 105, 97, 116, 101, 115, 32, 99, 104, 97, 110, 99, 101, 114, 121, 47, 99, 104, 97, 110, 99, 101, 114, 121, 107, 101, 101, 112, 49, 46, 65, 120, 105, 115, 80, 97, 105, 114, 77, 101, 101, 116, 115, 32, 99, 104, 97, 110, 99, 101, 114, 121, 47, 99, 104, 97, 110, 99, 101, 114, 121, 107, 101, 101, 112, 49, 46, 65, 120, 105, 115, 80, 108, 97, 99, 101, 115, 75, 101, 101, 112, 79, 114, 100, 101, 114, 32, 99, 104, 97, 110, 99, 101, 114, 121, 47, 99, 104, 97, 110, 99, 101, 114, 121, 107, 101, 101, 112, 49, 46, 68, 101, 108, 116, 97, 84, 105, 100, 121, 65, 99, 116, 115, 32, 99, 104, 97, 110, 99, 101, 114, 121, 47, 99, 104, 97, 110, 99, 101, 114, 121, 107, 101, 101, 112, 49, 46, 68, 101, 108, 116, 97, 85, 110, 100, 111, 82, 101, 115, 116, 111, 114, 101, 115, 32, 99, 104, 97, 110, 99, 101, 114, 121, 47, 99, 104, 97, 110, 99, 101, 114, 121, 107, 101, 101, 112, 49, 46, 68, 101, 108, 116, 97, 74, 111, 105, 110, 65, 99, 116, 115, 32, 99, 104, 97, 110, 99, 101, 114, 121, 47, 99, 104, 97, 110, 99, 101, 114, 121, 107, 101, 101, 112, 49, 46, 68, 101, 108, 116, 97, 80, 97, 105, 114, 77, 101, 101, 116, 115, 32, 99, 104, 97, 110, 99, 101, 114, 121, 47, 99, 104, 97, 110, 99, 101, 114, 121, 107, 101, 101, 112, 49, 46, 68, 105, 102, 102, 66, 111, 116, 104, 87, 97, 121, 115, 32, 99, 104, 97, 110, 99, 101, 114, 121, 47, 99, 104, 97, 110, 99, 101, 114, 121, 107, 101, 101, 112, 49, 46, 84, 114, 97, 99, 107, 65, 99, 99, 101, 112, 116, 83, 104, 111, 119, 115, 32, 99, 104, 97, 110, 99, 101, 114, 121, 47, 99, 104, 97, 110, 99, 101, 114, 121, 107, 101, 101, 112, 49, 46, 83, 112, 97, 110, 84, 104, 114, 111, 117, 103, 104, 67, 111, 110, 116, 97, 105, 110, 115, 32, 99, 104, 97, 110, 99, 101, 114, 121, 47, 99, 104, 97, 110, 99, 101, 114, 121, 107, 101, 101, 112, 49, 46, 77, 101, 114, 103, 101, 79, 110, 101, 83, 105, 100, 101, 100, 32, 99, 104, 97, 110, 99, 101, 114, 121, 47, 99, 104, 97, 110, 99, 101, 114, 121, 107, 101, 101, 112, 49, 46, 77, 101, 114, 103, 101, 69, 120, 99, 104, 97, 110, 103, 101, 100, 32, 99, 104, 97, 110, 99, 101, 114, 121, 47, 99, 104, 97, 110, 99, 101, 114, 121, 107, 101, 101, 112, 49, 46, 68, 101, 108, 116, 97, 65, 120, 105, 115, 65, 103, 114, 101, 101, 115]))) := by kernel_rfl
set_option maxRecDepth 100000 in
theorem headL : Try.pinned.checked.prog.initOrder.toList = w1 ++ sp :: (w2 ++ sp :: (w3 ++ sp :: chs [97, 116, 32, 99, 104, 97, 110, 99, 101, 114, 121, 47, 99, 104, 97, 110, 99, 101, 114, 121, 107, 101, 101, 112, 49, 46, 83, 112, 97, 110, 83, 105, 122, 101, 115, 65, 100, 100, 32, 99, 104, 97, 110, 99, 101, 114, 121, 47, 99, 104, 97, 110, 99, 101, 114, 121, 107, 101, 101, 112, 49, 46, 65, 116, 116, 114, 85, 110, 100, 111, 82, 101, 115, 116, 111, 114, 101, 115, 32, 99, 104, 97, 110, 99, 101, 114, 121, 47, 99, 104, 97, 110, 99, 101, 114, 121, 107, 101, 101, 112, 49, 46, 65, 116, 116, 114, 66, 101, 116, 119, 101, 101, 110, 76, 101, 97, 100, 115, 32, 99, 104, 97, 110, 99, 101, 114, 121, 47, 99, 104, 97, 110, 99, 101, 114, 121, 107, 101, 101, 112, 49, 46, 65, 116, 116, 114, 80, 97, 105, 114, 77, 101, 101, 116, 115, 32, 99, 104, 97, 110, 99, 101, 114, 121, 47, 99, 104, 97, 110, 99, 101, 114, 121, 107, 101, 101, 112, 49, 46, 65, 120, 105, 115, 74, 111, 105, 110, 65, 115, 115, 111, 99, 105, 97, 116, 101, 115, 32, 99, 104, 97, 110, 99, 101, 114, 121, 47, 99, 104, 97, 110, 99, 101, 114, 121, 107, 101, 101, 112, 49, 46, 65, 120, 105, 115, 80, 97, 105, 114, 77, 101, 101, 116, 115, 32, 99, 104, 97, 110, 99, 101, 114, 121, 47, 99, 104, 97, 110, 99, 101, 114, 121, 107, 101, 101, 112, 49, 46, 65, 120, 105, 115, 80, 108, 97, 99, 101, 115, 75, 101, 101, 112, 79, 114, 100, 101, 114, 32, 99, 104, 97, 110, 99, 101, 114, 121, 47, 99, 104, 97, 110, 99, 101, 114, 121, 107, 101, 101, 112, 49, 46, 68, 101, 108, 116, 97, 84, 105, 100, 121, 65, 99, 116, 115, 32, 99, 104, 97, 110, 99, 101, 114, 121, 47, 99, 104, 97, 110, 99, 101, 114, 121, 107, 101, 101, 112, 49, 46, 68, 101, 108, 116, 97, 85, 110, 100, 111, 82, 101, 115, 116, 111, 114, 101, 115, 32, 99, 104, 97, 110, 99, 101, 114, 121, 47, 99, 104, 97, 110, 99, 101, 114, 121, 107, 101, 101, 112, 49, 46, 68, 101, 108, 116, 97, 74, 111, 105, 110, 65, 99, 116, 115, 32, 99, 104, 97, 110, 99, 101, 114, 121, 47, 99, 104, 97, 110, 99, 101, 114, 121, 107, 101, 101, 112, 49, 46, 68, 101, 108, 116, 97, 80, 97, 105, 114, 77, 101, 101, 116, 115, 32, 99, 104, 97, 110, 99, 101, 114, 121, 47, 99, 104, 97, 110, 99, 101, 114, 121, 107, 101, 101, 112, 49, 46, 68, 105, 102, 102, 66, 111, 116, 104, 87, 97, 121, 115, 32, 99, 104, 97, 110, 99, 101, 114, 121, 47, 99, 104, 97, 110, 99, 101, 114, 121, 107, 101, 101, 112, 49, 46, 84, 114, 97, 99, 107, 65, 99, 99, 101, 112, 116, 83, 104, 111, 119, 115, 32, 99, 104, 97, 110, 99, 101, 114, 121, 47, 99, 104, 97, 110, 99, 101, 114, 121, 107, 101, 101, 112, 49, 46, 83, 112, 97, 110, 84, 104, 114, 111, 117, 103, 104, 67, 111, 110, 116, 97, 105, 110, 115, 32, 99, 104, 97, 110, 99, 101, 114, 121, 47, 99, 104, 97, 110, 99, 101, 114, 121, 107, 101, 101, 112, 49, 46, 77, 101, 114, 103, 101, 79, 110, 101, 83, 105, 100, 101, 100, 32, 99, 104, 97, 110, 99, 101, 114, 121, 47, 99, 104, 97, 110, 99, 101, 114, 121, 107, 101, 101, 112, 49, 46, 77, 101, 114, 103, 101, 69, 120, 99, 104, 97, 110, 103, 101, 100, 32, 99, 104, 97, 110, 99, 101, 114, 121, 47, 99, 104, 97, 110, 99, 101, 114, 121, 107, 101, 101, 112, 49, 46, 68, 101, 108, 116, 97, 65, 120, 105, 115, 65, 103, 114, 101, 101, 115])) := by rw [head, tl]
theorem later : Try.pinned.checked.prog.laysLater = false := by kernel_rfl
theorem refl : Try.pinned.checked.prog.bearsReflect = false := by kernel_rfl
theorem door : Try.pinned.checked.prog.doorFits [] = true := by kernel_rfl
theorem mayEnter : Try.pinned.checked.prog.mayEnter = true := may headL later refl door
theorem made : Try.pinned.checked.prog.make = some .cut := mk headL
theorem laid : laidOutB Try.pinned.checked.prog = true := by kernel_rfl
theorem rowed : mapsRowed Try.pinned.checked.prog = true := by kernel_rfl
theorem noStops : Try.pinned.checked.prog.stops = [] := by kernel_rfl
theorem noKnobs : Try.pinned.checked.prog.stopKnobs = [] := by kernel_rfl
theorem heard : Try.pinned.checked.prog.stopsHeard = true := by kernel_rfl
theorem keys : Try.pinned.checked.prog.plainKeys = true := by kernel_rfl
theorem liftsNo : Try.pinned.checked.prog.liftsFinal = false := fin headL
end Go.Proofs.Ytbdbibmbfmlobaa.frame
end
