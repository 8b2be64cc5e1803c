import Derived.Test.YtbdbibmbfmlobaaChSpan
set_option linter.unusedVariables false
set_option linter.unusedSimpArgs false
namespace Go.Ch

/-- A set in its form, by index. -/
def VI (l : List Span) : Prop := ∀ k, k < l.length → 0 ≤ (l.getD k default).fr ∧ (l.getD k default).fr < (l.getD k default).to ∧ (l.getD k default).to ≤ 2147483647 ∧ (0 < k → (l.getD (k - 1) default).to < (l.getD k default).fr)
theorem VI_of {l : List Span} (h : chkS l 0 = 0) : VI l := fun k hk => chkS_spec l 0 h k (by omega) hk
theorem chk_of {l : List Span} (h : VI l) : ∀ i, chkS l i = 0 := by
  intro i
  induction i using chkS.induct (l := l) with
  | case1 i hi hb => have := h i hi; unfold badS at hb; omega
  | case2 i hi hb hc => have := (h i hi).2.2.2 hc.1; omega
  | case3 i hi hb hc ih => rw [chkS, if_pos hi, if_neg hb, if_neg hc]; exact ih
  | case4 i hi => rw [chkS, if_neg hi]
def Me (l : List Span) (x : Int) : Prop := ∃ k, k < l.length ∧ (l.getD k default).fr ≤ x ∧ x < (l.getD k default).to
theorem endS_even (l : List Span) (k : Nat) : endS l (2 * k) = (l.getD k default).fr := by
  unfold endS; rw [if_pos (by omega)]; congr 2; omega
theorem endS_odd (l : List Span) (k : Nat) : endS l (2 * k + 1) = (l.getD k default).to := by
  unfold endS; rw [if_neg (by omega)]; congr 2; omega
theorem end_step {l : List Span} (h : VI l) {k : Nat} (hk : k + 1 < 2 * l.length) : endS l k < endS l (k + 1) := by
  by_cases e : k % 2 = 0
  · obtain ⟨m, rfl⟩ : ∃ m, k = 2 * m := ⟨k / 2, by omega⟩
    rw [endS_even, endS_odd]
    exact (h m (by omega)).2.1
  · obtain ⟨m, rfl⟩ : ∃ m, k = 2 * m + 1 := ⟨k / 2, by omega⟩
    rw [endS_odd, show 2 * m + 1 + 1 = 2 * (m + 1) by omega, endS_even]
    have := (h (m + 1) (by omega)).2.2.2 (by omega)
    simpa using this
theorem end_le {l : List Span} (h : VI l) : ∀ (d k : Nat), k + d < 2 * l.length → endS l k ≤ endS l (k + d)
  | 0, k, _ => Int.le_refl _
  | d + 1, k, hk => by
    have h1 := end_le h d k (by omega)
    have h2 := end_step h (k := k + d) (by omega)
    rw [show k + (d + 1) = k + d + 1 by omega]
    omega
theorem end_mono {l : List Span} (h : VI l) {j k : Nat} (hj : j ≤ k) (hk : k < 2 * l.length) : endS l j ≤ endS l k := by
  have := end_le h (k - j) j (by omega)
  rwa [show j + (k - j) = k by omega] at this
theorem end_nn {l : List Span} (h : VI l) {k : Nat} (hk : k < 2 * l.length) : 0 ≤ endS l k := by
  have h0 := end_mono h (Nat.zero_le k) hk
  have h1 := h 0 (by omega)
  have h2 := endS_even l 0
  simp only [Nat.mul_zero] at h2
  omega
theorem end_max {l : List Span} (h : VI l) {k : Nat} (hk : k < 2 * l.length) : endS l k ≤ 2147483647 := by
  have := h (k / 2) (by omega)
  unfold endS
  split <;> omega
/-- Where n ends are at most x and the others above it. -/
theorem me_parity {l : List Span} {x : Int} {n : Nat} (h1 : ∀ k, k < n → k < 2 * l.length → endS l k ≤ x) (h2 : ∀ k, n ≤ k → k < 2 * l.length → x < endS l k) (hn : n ≤ 2 * l.length) : Me l x ↔ n % 2 = 1 := by
  constructor
  · rintro ⟨k, hk, a, b⟩
    rw [← endS_even] at a
    rw [← endS_odd] at b
    have c1 : 2 * k < n := by
      by_cases c : 2 * k < n
      · exact c
      · have := h2 (2 * k) (by omega) (by omega); omega
    have c2 : n ≤ 2 * k + 1 := by
      by_cases c : n ≤ 2 * k + 1
      · exact c
      · have := h1 (2 * k + 1) (by omega) (by omega); omega
    omega
  · intro hp
    refine ⟨n / 2, by omega, ?_, ?_⟩
    · rw [← endS_even]; exact h1 _ (by omega) (by omega)
    · rw [← endS_odd]; exact h2 _ (by omega) (by omega)
theorem getD_app {l : List Span} {s : Span} {k : Nat} : (l ++ [s]).getD k default = if k < l.length then l.getD k default else if k = l.length then s else default := by
  simp only [List.getD_eq_getElem?_getD]
  by_cases h : k < l.length
  · rw [List.getElem?_append_left h, if_pos h]
  · rw [List.getElem?_append_right (by omega), if_neg h]
    by_cases e : k = l.length
    · subst e; simp
    · rw [if_neg e, List.getElem?_eq_none (by simp; omega)]; rfl
theorem getD_put {l : List Span} {s : Span} {i k : Nat} (hi : i < l.length) : (l.set i s).getD k default = if k = i then s else l.getD k default := by
  simp only [List.getD_eq_getElem?_getD, List.getElem?_set]
  by_cases e : i = k
  · subst e; simp [hi]
  · rw [if_neg e, if_neg (fun h => e h.symm)]
theorem add_ok {l : List Span} {p n : Int} (h : VI l) (hp : ∀ k, k < l.length → (l.getD k default).to ≤ p) (h0 : 0 ≤ p) (hpn : p < n) (hn : n ≤ 2147483647) :
    VI (addS l ⟨p, n⟩) ∧ (∀ k, k < (addS l ⟨p, n⟩).length → ((addS l ⟨p, n⟩).getD k default).to ≤ n) ∧ ∀ x, Me (addS l ⟨p, n⟩) x ↔ Me l x ∨ p ≤ x ∧ x < n := by
  unfold addS
  by_cases hc : 0 < l.length ∧ p ≤ (l.getD (l.length - 1) default).to
  · rw [if_pos hc]
    have hl := hp (l.length - 1) (by omega)
    have hv := h (l.length - 1) (by omega)
    have hto : (l.getD (l.length - 1) default).to = p := by have := hc.2; omega
    have hmx : max (l.getD (l.length - 1) default).to n = n := by omega
    simp only [hmx]
    refine ⟨fun k hk => ?_, fun k hk => ?_, fun x => ?_⟩
    · rw [List.length_set] at hk
      rw [getD_put (by omega), getD_put (by omega)]
      have hk' := h k hk
      by_cases e : k = l.length - 1
      · subst e
        rw [if_pos rfl]
        by_cases e2 : 0 < l.length - 1
        · rw [if_neg (by omega)]; exact ⟨hv.1, by simp only; omega, hn, hv.2.2.2⟩
        · exact ⟨hv.1, by simp only; omega, hn, fun h => absurd h e2⟩
      · rw [if_neg e, if_neg (by omega)]; exact hk'
    · rw [List.length_set] at hk
      rw [getD_put (by omega)]
      split
      · exact Int.le_refl _
      · have := hp k hk; omega
    · constructor
      · rintro ⟨k, hk, a, b⟩
        rw [List.length_set] at hk
        rw [getD_put (by omega)] at a b
        by_cases e : k = l.length - 1
        · rw [if_pos e] at a b
          by_cases hx : x < p
          · exact .inl ⟨l.length - 1, by omega, a, by omega⟩
          · exact .inr ⟨by omega, b⟩
        · rw [if_neg e] at a b
          exact .inl ⟨k, hk, a, b⟩
      · rintro (⟨k, hk, a, b⟩ | ⟨a, b⟩)
        · refine ⟨k, by rw [List.length_set]; exact hk, ?_, ?_⟩ <;> rw [getD_put (by omega)] <;> split
          · rename_i e; subst e; exact a
          · exact a
          · rename_i e; subst e; simp only; omega
          · exact b
        · refine ⟨l.length - 1, by rw [List.length_set]; omega, ?_, ?_⟩ <;> rw [getD_put (by omega), if_pos rfl]
          · simp only; omega
          · exact b
  · rw [if_neg hc]
    refine ⟨fun k hk => ?_, fun k hk => ?_, fun x => ?_⟩
    · rw [List.length_append, List.length_singleton] at hk
      rw [getD_app, getD_app]
      by_cases e : k < l.length
      · rw [if_pos e, if_pos (by omega)]; exact h k e
      · rw [if_neg e, if_pos (by omega)]
        refine ⟨h0, hpn, hn, fun hk0 => ?_⟩
        rw [if_pos (by omega)]
        have : k = l.length := by omega
        subst this
        have : ¬ (p ≤ (l.getD (l.length - 1) default).to) := fun hh => hc ⟨hk0, hh⟩
        simp only
        omega
    · rw [List.length_append, List.length_singleton] at hk
      rw [getD_app]
      by_cases e : k < l.length
      · rw [if_pos e]; have := hp k e; omega
      · rw [if_neg e, if_pos (by omega)]; exact Int.le_refl _
    · constructor
      · rintro ⟨k, hk, a, b⟩
        rw [List.length_append, List.length_singleton] at hk
        rw [getD_app] at a b
        by_cases e : k < l.length
        · rw [if_pos e] at a b; exact .inl ⟨k, e, a, b⟩
        · rw [if_neg e, if_pos (by omega)] at a b; exact .inr ⟨a, b⟩
      · rintro (⟨k, hk, a, b⟩ | ⟨a, b⟩)
        · refine ⟨k, by simp; omega, ?_, ?_⟩ <;> rw [getD_app, if_pos hk] <;> assumption
        · refine ⟨l.length, by simp, ?_, ?_⟩ <;> rw [getD_app, if_neg (by omega), if_pos rfl] <;> assumption
theorem skip_eq {l : List Span} {p : Int} : ∀ (i k : Nat), i ≤ k → k < skipS l i p → k < 2 * l.length ∧ endS l k = p := by
  intro i
  induction i using skipS.induct (l := l) (p := p) with
  | case1 i h ih =>
    intro k hk hs
    rw [skipS, if_pos h] at hs
    by_cases e : k = i
    · subst e; exact h
    · exact ih k (by omega) hs
  | case2 i h =>
    intro k hk hs
    rw [skipS, if_neg h] at hs
    omega

/-- What the walk over the ends keeps. -/
structure Inv (w : Bool → Bool → Bool) (a b out : List Span) (p : Int) (i j : Nat) : Prop where
  i2 : i ≤ 2 * a.length
  j2 : j ≤ 2 * b.length
  p0 : 0 ≤ p
  pm : p ≤ 2147483647
  al : ∀ k, k < i → endS a k ≤ p
  ah : ∀ k, i ≤ k → k < 2 * a.length → p ≤ endS a k
  bl : ∀ k, k < j → endS b k ≤ p
  bh : ∀ k, j ≤ k → k < 2 * b.length → p ≤ endS b k
  vo : VI out
  to : ∀ k, k < out.length → (out.getD k default).to ≤ p
  me : ∀ x, x < p → (Me out x ↔ ∃ c d : Bool, (c = true ↔ Me a x) ∧ (d = true ↔ Me b x) ∧ w c d = true)
theorem exw {A B p q : Prop} [Decidable p] [Decidable q] {w : Bool → Bool → Bool} (hA : A ↔ p) (hB : B ↔ q) : (∃ c d : Bool, (c = true ↔ A) ∧ (d = true ↔ B) ∧ w c d = true) ↔ w (decide p) (decide q) = true := by
  constructor
  · rintro ⟨c, d, h1, h2, h3⟩
    have e1 : c = decide p := by
      cases c with
      | true => exact (decide_eq_true (hA.1 (h1.1 rfl))).symm
      | false => exact (decide_eq_false (fun hp => by have := h1.2 (hA.2 hp); cases this)).symm
    have e2 : d = decide q := by
      cases d with
      | true => exact (decide_eq_true (hB.1 (h2.1 rfl))).symm
      | false => exact (decide_eq_false (fun hp => by have := h2.2 (hB.2 hp); cases this)).symm
    rw [← e1, ← e2]; exact h3
  · intro h
    exact ⟨decide p, decide q, by rw [hA]; exact decide_eq_true_iff, by rw [hB]; exact decide_eq_true_iff, h⟩
theorem inv_step {w : Bool → Bool → Bool} {a b out : List Span} {p : Int} {i j : Nat} (ha : VI a) (hb : VI b) (I : Inv w a b out p i j) (h : i < 2 * a.length ∨ j < 2 * b.length) :
    Inv w a b (if p < nextS a b i j ∧ w (decide (i % 2 = 1)) (decide (j % 2 = 1)) = true then addS out ⟨p, nextS a b i j⟩ else out) (nextS a b i j) (skipS a i (nextS a b i j)) (skipS b j (nextS a b i j)) := by
  have na : i < 2 * a.length → nextS a b i j ≤ endS a i := fun hi => by unfold nextS; rw [if_pos hi]; split <;> omega
  have nb : j < 2 * b.length → nextS a b i j ≤ endS b j := fun hj => by unfold nextS; rw [if_pos hj]; omega
  have pn : p ≤ nextS a b i j := by
    unfold nextS
    by_cases hi : i < 2 * a.length <;> by_cases hj : j < 2 * b.length
    · have := I.ah i (Nat.le_refl _) hi; have := I.bh j (Nat.le_refl _) hj; rw [if_pos hj, if_pos hi]; omega
    · have := I.ah i (Nat.le_refl _) hi; rw [if_neg hj, if_pos hi]; omega
    · have := I.bh j (Nat.le_refl _) hj; have := I.pm; rw [if_pos hj, if_neg hi]; omega
    · omega
  have nm : nextS a b i j ≤ 2147483647 := by
    rcases h with h | h
    · have := na h; have := end_max ha h; omega
    · have := nb h; have := end_max hb h; omega
  generalize hn : nextS a b i j = n at *
  have nah : ∀ k, i ≤ k → k < 2 * a.length → n ≤ endS a k := fun k h1 h2 => by have := na (by omega); have := end_mono ha h1 h2; omega
  have nbh : ∀ k, j ≤ k → k < 2 * b.length → n ≤ endS b k := fun k h1 h2 => by have := nb (by omega); have := end_mono hb h1 h2; omega
  have i2 := skipS_ge a n i
  have j2 := skipS_ge b n j
  have key : VI (if p < n ∧ w (decide (i % 2 = 1)) (decide (j % 2 = 1)) = true then addS out ⟨p, n⟩ else out) ∧
      (∀ k, k < (if p < n ∧ w (decide (i % 2 = 1)) (decide (j % 2 = 1)) = true then addS out ⟨p, n⟩ else out).length → ((if p < n ∧ w (decide (i % 2 = 1)) (decide (j % 2 = 1)) = true then addS out ⟨p, n⟩ else out).getD k default).to ≤ n) ∧
      ∀ x, Me (if p < n ∧ w (decide (i % 2 = 1)) (decide (j % 2 = 1)) = true then addS out ⟨p, n⟩ else out) x ↔ Me out x ∨ (p ≤ x ∧ x < n) ∧ w (decide (i % 2 = 1)) (decide (j % 2 = 1)) = true := by
    by_cases hc : p < n ∧ w (decide (i % 2 = 1)) (decide (j % 2 = 1)) = true
    · rw [if_pos hc]
      obtain ⟨q1, q2, q3⟩ := add_ok I.vo I.to I.p0 hc.1 nm
      exact ⟨q1, q2, fun x => by rw [q3]; simp [hc.2]⟩
    · rw [if_neg hc]
      refine ⟨I.vo, fun k hk => by have := I.to k hk; omega, fun x => ⟨.inl, ?_⟩⟩
      rintro (h | ⟨h1, h2⟩)
      · exact h
      · exact absurd ⟨by omega, h2⟩ hc
  obtain ⟨k1, k2, k3⟩ := key
  refine ⟨skipS_le a n i I.i2, skipS_le b n j I.j2, by have := I.p0; omega, nm, fun k hk => ?_, fun k hk hl => nah k (by omega) hl, fun k hk => ?_, fun k hk hl => nbh k (by omega) hl, k1, k2, fun x hx => ?_⟩
  · by_cases hki : k < i
    · have := I.al k hki; omega
    · exact Int.le_of_eq (skip_eq i k (by omega) hk).2
  · by_cases hki : k < j
    · have := I.bl k hki; omega
    · exact Int.le_of_eq (skip_eq j k (by omega) hk).2
  · rw [k3]
    by_cases hxp : x < p
    · rw [← I.me x hxp]
      exact ⟨fun h => by rcases h with h | h; exact h; omega, .inl⟩
    · have hA : Me a x ↔ i % 2 = 1 := me_parity (fun k h1 _ => by have := I.al k h1; omega) (fun k h1 h2 => by have := nah k h1 h2; omega) I.i2
      have hB : Me b x ↔ j % 2 = 1 := me_parity (fun k h1 _ => by have := I.bl k h1; omega) (fun k h1 h2 => by have := nbh k h1 h2; omega) I.j2
      rw [exw hA hB]
      constructor
      · rintro (⟨k, hk, h1, h2⟩ | h)
        · have := I.to k hk; omega
        · exact h.2
      · intro h; exact .inr ⟨⟨by omega, hx⟩, h⟩
theorem merge_inv {w : Bool → Bool → Bool} {a b : List Span} (ha : VI a) (hb : VI b) : ∀ (N : Nat) (out : List Span) (p : Int) (i j : Nat), (2 * a.length - i) + (2 * b.length - j) = N → Inv w a b out p i j →
    ∃ q, Inv w a b (mergeS w a b out p i j) q (2 * a.length) (2 * b.length) := by
  intro N
  induction N using Nat.strongRecOn with
  | _ N ih =>
    intro out p i j hN I
    by_cases h : i < 2 * a.length ∨ j < 2 * b.length
    · have hb' : ∀ k, k < 2 * b.length → endS b k ≤ 2147483648 := fun k hk => by have := end_max hb hk; omega
      rw [mergeS_step w a b out p i j h hb']
      have h1 := skip_prog a b i j h hb'
      have h2 := skipS_ge a (nextS a b i j) i
      have h3 := skipS_ge b (nextS a b i j) j
      exact ih _ (by omega) _ _ _ _ rfl (inv_step ha hb I h)
    · rw [mergeS_end w a b out p i j h]
      have := I.i2
      have := I.j2
      obtain rfl : i = 2 * a.length := by omega
      obtain rfl : j = 2 * b.length := by omega
      exact ⟨p, I⟩
theorem me_nn {l : List Span} (h : VI l) {x : Int} (hx : Me l x) : 0 ≤ x ∧ x < 2147483647 := by
  obtain ⟨k, hk, a, b⟩ := hx
  have := h k hk
  omega
theorem merge_spec {w : Bool → Bool → Bool} (hw : w false false = false) {a b : List Span} (ha : VI a) (hb : VI b) :
    VI (mergeS w a b [] 0 0 0) ∧ ∀ x, Me (mergeS w a b [] 0 0 0) x ↔ ∃ c d : Bool, (c = true ↔ Me a x) ∧ (d = true ↔ Me b x) ∧ w c d = true := by
  obtain ⟨q, I⟩ := merge_inv (w := w) ha hb _ [] 0 0 0 rfl ⟨by omega, by omega, by omega, by omega, fun k hk => by omega, fun k _ hk => end_nn ha hk, fun k hk => by omega, fun k _ hk => end_nn hb hk, fun k hk => by simp at hk, fun k hk => by simp at hk, fun x hx => by
    constructor
    · rintro ⟨k, hk, _⟩; simp at hk
    · rintro ⟨c, d, h1, h2, h3⟩
      have e1 : c = false := by cases c with | false => rfl | true => have := me_nn ha (h1.1 rfl); omega
      have e2 : d = false := by cases d with | false => rfl | true => have := me_nn hb (h2.1 rfl); omega
      subst e1; subst e2; rw [hw] at h3; cases h3⟩
  refine ⟨I.vo, fun x => ?_⟩
  by_cases hx : x < q
  · exact I.me x hx
  · have hA : Me a x ↔ (2 * a.length) % 2 = 1 := me_parity (fun k h1 _ => by have := I.al k h1; omega) (fun k h1 h2 => by omega) (Nat.le_refl _)
    have hB : Me b x ↔ (2 * b.length) % 2 = 1 := me_parity (fun k h1 _ => by have := I.bl k h1; omega) (fun k h1 h2 => by omega) (Nat.le_refl _)
    rw [exw hA hB, decide_eq_false (by omega), decide_eq_false (by omega), hw]
    constructor
    · rintro ⟨k, hk, h1, h2⟩; have := I.to k hk; omega
    · intro h; cases h
end Go.Ch
