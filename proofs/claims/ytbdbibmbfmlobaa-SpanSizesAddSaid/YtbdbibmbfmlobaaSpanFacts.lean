import Derived.Test.YtbdbibmbfmlobaaSpanPlain
set_option linter.unusedVariables false
set_option linter.unusedSimpArgs false
namespace Go.Ch

/-- A set in its form, from the front. -/
def Vd : Int → List Span → Prop
  | _, [] => True
  | lo, s :: l => lo < s.fr ∧ s.fr < s.to ∧ s.to ≤ 2147483647 ∧ Vd s.to l
theorem VI_tail {s : Span} {l : List Span} (h : VI (s :: l)) : VI l := by
  intro k hk
  have := h (k + 1) (by simp; omega)
  refine ⟨by simpa using this.1, by simpa using this.2.1, by simpa using this.2.2.1, fun h0 => ?_⟩
  have h2 := this.2.2.2 (by omega)
  obtain ⟨m, rfl⟩ : ∃ m, k = m + 1 := ⟨k - 1, by omega⟩
  simpa using h2
theorem vd_of : ∀ {l : List Span} {lo : Int}, VI l → (∀ s t, l = s :: t → lo < s.fr) → Vd lo l
  | [], _, _, _ => trivial
  | s :: l, lo, h, h0 => by
    have h1 := h 0 (by simp)
    simp only [List.getD_cons_zero] at h1
    refine ⟨h0 s l rfl, h1.2.1, h1.2.2.1, vd_of (VI_tail h) (fun s' t e => ?_)⟩
    subst e
    have h2 := (h 1 (by simp)).2.2.2 (by omega)
    simpa using h2
theorem vd {l : List Span} (h : VI l) : Vd (-1) l := vd_of h (fun s t e => by
  subst e
  have := h 0 (by simp)
  simp only [List.getD_cons_zero] at this
  omega)
theorem me_cons {s : Span} {l : List Span} {x : Int} : Me (s :: l) x ↔ (s.fr ≤ x ∧ x < s.to) ∨ Me l x := by
  constructor
  · rintro ⟨k, hk, a, b⟩
    cases k with
    | zero => exact .inl ⟨by simpa using a, by simpa using b⟩
    | succ k => exact .inr ⟨k, by simp at hk; omega, by simpa using a, by simpa using b⟩
  · rintro (⟨a, b⟩ | ⟨k, hk, a, b⟩)
    · exact ⟨0, by simp, by simpa using a, by simpa using b⟩
    · exact ⟨k + 1, by simp; omega, by simpa using a, by simpa using b⟩
theorem me_nil {x : Int} : ¬ Me [] x := by rintro ⟨k, hk, _⟩; simp at hk
theorem me_lo : ∀ {l : List Span} {lo x : Int}, Vd lo l → Me l x → lo < x
  | [], _, _, _, h => absurd h me_nil
  | s :: l, lo, x, h, hm => by
    obtain ⟨h1, h2, h3, h4⟩ := h
    rcases me_cons.1 hm with hm | hm
    · omega
    · have := me_lo h4 hm; omega
theorem vd_uniq : ∀ {l l' : List Span} {lo lo' : Int}, Vd lo l → Vd lo' l' → (∀ x, Me l x ↔ Me l' x) → l = l'
  | [], [], _, _, _, _, _ => rfl
  | [], s :: l, _, _, _, h', hm => absurd ((hm s.fr).2 (me_cons.2 (.inl ⟨Int.le_refl _, h'.2.1⟩))) me_nil
  | s :: l, [], _, _, h, _, hm => absurd ((hm s.fr).1 (me_cons.2 (.inl ⟨Int.le_refl _, h.2.1⟩))) me_nil
  | s :: l, s' :: l', lo, lo', h, h', hm => by
    obtain ⟨h1, h2, h3, h4⟩ := h
    obtain ⟨k1, k2, k3, k4⟩ := h'
    have e1 : s'.fr ≤ s.fr := by
      rcases me_cons.1 ((hm s.fr).1 (me_cons.2 (.inl ⟨Int.le_refl _, h2⟩))) with h | h
      · exact h.1
      · have := me_lo k4 h; omega
    have e2 : s.fr ≤ s'.fr := by
      rcases me_cons.1 ((hm s'.fr).2 (me_cons.2 (.inl ⟨Int.le_refl _, k2⟩))) with h | h
      · exact h.1
      · have := me_lo h4 h; omega
    have n1 : ¬ Me (s :: l) s.to := fun h => by
      rcases me_cons.1 h with h | h
      · omega
      · have := me_lo h4 h; omega
    have n2 : ¬ Me (s' :: l') s'.to := fun h => by
      rcases me_cons.1 h with h | h
      · omega
      · have := me_lo k4 h; omega
    have e3 : s.to = s'.to := by
      by_cases c : s.to < s'.to
      · exact absurd ((hm s.to).2 (me_cons.2 (.inl ⟨by omega, c⟩))) n1
      · by_cases c2 : s'.to < s.to
        · exact absurd ((hm s'.to).1 (me_cons.2 (.inl ⟨by omega, c2⟩))) n2
        · omega
    have e : s = s' := by
      cases s; cases s'
      simp only at e1 e2 e3
      rw [Span.mk.injEq]
      exact ⟨by omega, e3⟩
    subst e
    rw [vd_uniq h4 k4 (fun x => ?_)]
    constructor
    · intro h
      have := me_lo h4 h
      rcases me_cons.1 ((hm x).1 (me_cons.2 (.inr h))) with q | q
      · omega
      · exact q
    · intro h
      have := me_lo k4 h
      rcases me_cons.1 ((hm x).2 (me_cons.2 (.inr h))) with q | q
      · omega
      · exact q

/-! ### Sizes -/
def sumS : List Span → Int
  | [] => 0
  | s :: l => (s.to - s.fr) + sumS l
theorem szS_cons (s : Span) (l : List Span) : ∀ k, szS (s :: l) (k + 1) = (s.to - s.fr) + szS l k
  | 0 => by simp [szS]
  | k + 1 => by
    have := szS_cons s l k
    rw [szS, this]
    simp only [szS, List.getD_cons_succ]
    omega
theorem szS_sum : ∀ l : List Span, szS l l.length = sumS l
  | [] => rfl
  | s :: l => by rw [List.length_cons, szS_cons, szS_sum l]; rfl
/-- How many numbers below n have a property. -/
noncomputable def cnt (p : Int → Prop) : Nat → Int
  | 0 => 0
  | n + 1 => cnt p n + (open Classical in if p (n : Int) then 1 else 0)
theorem cnt_congr {p q : Int → Prop} : ∀ {n : Nat}, (∀ x : Nat, x < n → (p x ↔ q x)) → cnt p n = cnt q n
  | 0, _ => rfl
  | n + 1, h => by
    have h1 := cnt_congr (n := n) (fun x hx => h x (by omega))
    have h2 := h n (by omega)
    simp only [cnt, h1]
    by_cases c : p n
    · rw [if_pos c, if_pos (h2.1 c)]
    · rw [if_neg c, if_neg (fun d => c (h2.2 d))]
theorem cnt_range {a b : Int} (ha : 0 ≤ a) (hab : a ≤ b) : ∀ n : Nat, cnt (fun x => a ≤ x ∧ x < b) n = (if (n : Int) ≤ a then 0 else if (n : Int) ≤ b then n - a else b - a)
  | 0 => by simp [cnt, ha]
  | n + 1 => by
    simp only [cnt, cnt_range ha hab n]
    by_cases c : a ≤ (n : Int) ∧ (n : Int) < b
    · rw [if_pos c]; (repeat' split) <;> omega
    · rw [if_neg c]; (repeat' split) <;> omega
theorem cnt_or {p q : Int → Prop} (h : ∀ x, ¬ (p x ∧ q x)) : ∀ n, cnt (fun x => p x ∨ q x) n = cnt p n + cnt q n
  | 0 => rfl
  | n + 1 => by
    simp only [cnt, cnt_or h n]
    by_cases c : p n <;> by_cases d : q n
    · exact absurd ⟨c, d⟩ (h n)
    · rw [if_pos (.inl c), if_pos c, if_neg d]; omega
    · rw [if_pos (.inr d), if_neg c, if_pos d]; omega
    · rw [if_neg (fun h => h.elim c d), if_neg c, if_neg d]; omega
theorem cnt_none {p : Int → Prop} (h : ∀ x, ¬ p x) : ∀ n, cnt p n = 0
  | 0 => rfl
  | n + 1 => by simp only [cnt, cnt_none h n, if_neg (h n)]; rfl
theorem sum_cnt : ∀ {l : List Span} {lo : Int}, -1 ≤ lo → Vd lo l → sumS l = cnt (Me l) 2147483648
  | [], _, _, _ => (cnt_none (fun x => me_nil) _).symm
  | s :: l, lo, h0, h => by
    obtain ⟨h1, h2, h3, h4⟩ := h
    have e1 : cnt (Me (s :: l)) 2147483648 = cnt (fun x => (s.fr ≤ x ∧ x < s.to) ∨ Me l x) 2147483648 := cnt_congr (fun x _ => me_cons)
    rw [e1, cnt_or (fun x hx => by have := me_lo h4 hx.2; omega), cnt_range (by omega) (by omega), ← sum_cnt (by omega) h4]
    rw [if_neg (by omega), if_neg (by omega)]
    rfl
theorem sz_cnt {l : List Span} (h : VI l) : szS l l.length = cnt (Me l) 2147483648 := by rw [szS_sum]; exact sum_cnt (by omega) (vd h)
/-- Sizes of two sets, by their members. -/
theorem cnt_add {p q r s : Int → Prop} (h : ∀ x, (p x ∨ q x ↔ r x ∨ s x) ∧ (p x ∧ q x ↔ r x ∧ s x)) : ∀ n, cnt p n + cnt q n = cnt r n + cnt s n
  | 0 => rfl
  | n + 1 => by
    have ih := cnt_add h n
    simp only [cnt]
    obtain ⟨h1, h2⟩ := h n
    (repeat' split) <;> first | omega | (exfalso; simp_all; done)

theorem two_spec {w : Bool → Bool → Bool} (hw : w false false = false) {a b : List Span} (ha : chkS a 0 = 0) (hb : chkS b 0 = 0) :
    VI (twoS w a b) ∧ ∀ x, Me (twoS w a b) x ↔ ∃ c d : Bool, (c = true ↔ Me a x) ∧ (d = true ↔ Me b x) ∧ w c d = true := by
  unfold twoS
  rw [if_pos ⟨ha, hb⟩]
  exact merge_spec hw (VI_of ha) (VI_of hb)
theorem me_or {a b : List Span} {x : Int} : (∃ c d : Bool, (c = true ↔ Me a x) ∧ (d = true ↔ Me b x) ∧ (c || d) = true) ↔ Me a x ∨ Me b x := by
  constructor
  · rintro ⟨c, d, h1, h2, h3⟩
    cases c
    · cases d
      · cases h3
      · exact .inr (h2.1 rfl)
    · exact .inl (h1.1 rfl)
  · intro h
    open Classical in
    exact ⟨decide (Me a x), decide (Me b x), decide_eq_true_iff, decide_eq_true_iff, by simpa using h⟩
theorem me_and {a b : List Span} {x : Int} : (∃ c d : Bool, (c = true ↔ Me a x) ∧ (d = true ↔ Me b x) ∧ (c && d) = true) ↔ Me a x ∧ Me b x := by
  constructor
  · rintro ⟨c, d, h1, h2, h3⟩
    cases c
    · cases h3
    · cases d
      · cases h3
      · exact ⟨h1.1 rfl, h2.1 rfl⟩
  · intro h
    exact ⟨true, true, by simp [h.1], by simp [h.2], rfl⟩
theorem me_minus {a b : List Span} {x : Int} : (∃ c d : Bool, (c = true ↔ Me a x) ∧ (d = true ↔ Me b x) ∧ (c && !d) = true) ↔ Me a x ∧ ¬ Me b x := by
  constructor
  · rintro ⟨c, d, h1, h2, h3⟩
    cases c
    · cases h3
    · cases d
      · exact ⟨h1.1 rfl, fun h => by have := h2.2 h; cases this⟩
      · cases h3
  · intro h
    exact ⟨true, false, by simp [h.1], by simp [h.2], rfl⟩
theorem spans_chk1 : chkS [⟨0, 5⟩] 0 = 0 := by simp [chkS, badS]
theorem spans_chk2 : chkS [⟨1, 2⟩] 0 = 0 := by simp [chkS, badS]
theorem spans_err : errS [⟨0, 5⟩] [⟨1, 2⟩] = 0 := by simp [errS, spans_chk1, spans_chk2]
theorem spans_val : twoS (fun a b => a && !b) [⟨0, 5⟩] [⟨1, 2⟩] = [⟨0, 1⟩, ⟨2, 5⟩] := by
  obtain ⟨h1, h2⟩ := two_spec (w := fun a b => a && !b) rfl spans_chk1 spans_chk2
  have h3 : Vd (-1) [⟨0, 1⟩, ⟨2, 5⟩] := ⟨by decide, by decide, by decide, by decide, by decide, by decide, trivial⟩
  refine vd_uniq (vd h1) h3 (fun x => ?_)
  rw [h2, me_minus]
  simp only [me_cons, me_nil, or_false]
  constructor <;> intro h <;> omega
theorem errS_eq (a b : List Span) : (errS a b = 0 ↔ chkS a 0 = 0 ∧ chkS b 0 = 0) := by
  unfold errS; split <;> simp_all
theorem law1_facts (a b : List Span) (ha : chkS a 0 = 0) (hb : chkS b 0 = 0) :
    chkS (twoS (fun a b => a || b) a b) 0 = 0 ∧ chkS (twoS (fun a b => a && b) a b) 0 = 0 ∧ chkS (twoS (fun a b => a && !b) a b) 0 = 0 ∧ twoS (fun a b => a || b) (twoS (fun a b => a && !b) a b) (twoS (fun a b => a && b) a b) = a ∧
    szS (twoS (fun a b => a || b) a b) (twoS (fun a b => a || b) a b).length + szS (twoS (fun a b => a && b) a b) (twoS (fun a b => a && b) a b).length = szS a a.length + szS b b.length ∧
    szS (twoS (fun a b => a && !b) a b) (twoS (fun a b => a && !b) a b).length + szS (twoS (fun a b => a && b) a b) (twoS (fun a b => a && b) a b).length = szS a a.length ∧
    twoS (fun a b => a && b) (twoS (fun a b => a && !b) a b) b = [] := by
  obtain ⟨u1, u2⟩ := two_spec (w := fun a b => a || b) rfl ha hb
  obtain ⟨m1, m2⟩ := two_spec (w := fun a b => a && b) rfl ha hb
  obtain ⟨n1, n2⟩ := two_spec (w := fun a b => a && !b) rfl ha hb
  have u3 := fun x => (u2 x).trans me_or
  have m3 := fun x => (m2 x).trans me_and
  have n3 := fun x => (n2 x).trans me_minus
  have cu := chk_of u1 0
  have cm := chk_of m1 0
  have cn := chk_of n1 0
  obtain ⟨k1, k2⟩ := two_spec (w := fun a b => a || b) rfl cn cm
  obtain ⟨z1, z2⟩ := two_spec (w := fun a b => a && b) rfl cn hb
  have k3 := fun x => (k2 x).trans me_or
  have z3 := fun x => (z2 x).trans me_and
  generalize twoS (fun a b => a || b) a b = u at *
  generalize twoS (fun a b => a && b) a b = m at *
  generalize twoS (fun a b => a && !b) a b = n at *
  refine ⟨cu, cm, cn, vd_uniq (vd k1) (vd (VI_of ha)) (fun x => ?_), ?_, ?_, vd_uniq (vd z1) (lo' := 0) trivial (fun x => ?_)⟩
  · rw [k3, n3, m3]
    by_cases h : Me b x <;> simp [h]
  · rw [sz_cnt u1, sz_cnt m1, sz_cnt (VI_of ha), sz_cnt (VI_of hb)]
    refine cnt_add (fun x => ?_) _
    rw [u3, m3]
    by_cases h : Me a x <;> by_cases h' : Me b x <;> simp [h, h']
  · rw [sz_cnt n1, sz_cnt m1, sz_cnt (VI_of ha)]
    have h0 := cnt_none (p := fun _ => False) (fun _ h => h) 2147483648
    have h1 := cnt_add (p := Me n) (q := Me m) (r := Me a) (s := fun _ => False) (fun x => by
      rw [n3, m3]
      by_cases h : Me a x <;> by_cases h' : Me b x <;> simp [h, h']) 2147483648
    omega
  · rw [z3, n3]
    constructor
    · rintro ⟨⟨_, h1⟩, h2⟩; exact absurd h2 h1
    · intro h; exact absurd h me_nil
end Go.Ch
