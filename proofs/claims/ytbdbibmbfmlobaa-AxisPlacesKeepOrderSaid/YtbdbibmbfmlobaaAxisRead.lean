/- Readers of steps, the check of a change, joining and rebasing run by run. -/
import Derived.Test.YtbdbibmbfmlobaaAxisSteps
set_option linter.unusedVariables false
set_option linter.unusedSimpArgs false
namespace Go.Ch
open Go Go.Ab

/-! ### The check -/
def chkX (l : List AxStep) (i : Nat) (b a : Int) : Int :=
  if i < l.length then
    if (l.getD i default).kind < 0 ∨ 2 < (l.getD i default).kind then 8
    else if (l.getD i default).n < 1 ∨ 2147483647 < (l.getD i default).n then 2
    else if 0 < i ∧ ((l.getD (i - 1) default).kind = (l.getD i default).kind ∨ ((l.getD (i - 1) default).kind = 2 ∧ (l.getD i default).kind = 1)) then 5
    else chkX l (i + 1) (if (l.getD i default).kind ≠ 1 then min (b + (l.getD i default).n) 2147483648 else b) (if (l.getD i default).kind ≠ 2 then min (a + (l.getD i default).n) 2147483648 else a)
  else if 2147483647 < b ∨ 2147483647 < a then 3 else 0
termination_by l.length - i
def checkX (l : List AxStep) : Int := chkX l 0 0 0
def FormAt (l : List AxStep) (i : Nat) : Prop := ∀ k, i ≤ k → k < l.length → Ok1 (l.getD k default) ∧ (0 < k → Nx (l.getD (k - 1) default) (l.getD k default))
theorem drop_ats {l : List AxStep} {i : Nat} (h : i < l.length) : l.drop i = l.getD i default :: l.drop (i + 1) := by
  rw [List.drop_eq_getElem_cons h]; simp [List.getD, List.getElem?_eq_getElem h]
theorem drop_ends {l : List AxStep} {i : Nat} (h : ¬ i < l.length) : l.drop i = [] := List.drop_eq_nil_of_le (by omega)
theorem old_K (n : Nat) (u : List U) : oldU (rep n .K ++ u) = n + oldU u := by
  induction n with
  | zero => simp
  | succ n ih => rw [rep_succ, List.cons_append, oldU, ih]; omega
theorem old_A (n : Nat) (u : List U) : oldU (rep n .A ++ u) = oldU u := by
  induction n with
  | zero => simp
  | succ n ih => rw [rep_succ, List.cons_append, oldU, ih]
theorem old_C (n : Nat) (u : List U) : oldU (rep n .C ++ u) = n + oldU u := by
  induction n with
  | zero => simp
  | succ n ih => rw [rep_succ, List.cons_append, oldU, ih]; omega
theorem new_K (n : Nat) (u : List U) : newU (rep n .K ++ u) = n + newU u := by
  induction n with
  | zero => simp
  | succ n ih => rw [rep_succ, List.cons_append, newU, ih]; omega
theorem new_A (n : Nat) (u : List U) : newU (rep n .A ++ u) = n + newU u := by
  induction n with
  | zero => simp
  | succ n ih => rw [rep_succ, List.cons_append, newU, ih]; omega
theorem new_C (n : Nat) (u : List U) : newU (rep n .C ++ u) = newU u := by
  induction n with
  | zero => simp
  | succ n ih => rw [rep_succ, List.cons_append, newU, ih]
theorem old_rep (n : Nat) (k : Int) (u : List U) : (oldU (rep n (uOf k) ++ u) : Int) = (if k = 1 then (0 : Int) else (n : Int)) + oldU u := by
  unfold uOf
  by_cases h1 : k = 1
  · rw [if_pos h1, if_pos h1, old_A]; omega
  · rw [if_neg h1, if_neg h1]
    by_cases h2 : k = 2
    · rw [if_pos h2, old_C]; omega
    · rw [if_neg h2, old_K]; omega
theorem new_rep (n : Nat) (k : Int) (u : List U) : (newU (rep n (uOf k) ++ u) : Int) = (if k = 2 then (0 : Int) else (n : Int)) + newU u := by
  unfold uOf
  by_cases h1 : k = 1
  · rw [if_pos h1, new_A, if_neg (by omega)]; omega
  · rw [if_neg h1]
    by_cases h2 : k = 2
    · rw [if_pos h2, if_pos h2, new_C]; omega
    · rw [if_neg h2, if_neg h2, new_K]; omega
theorem chkX_all (l : List AxStep) : ∀ (m i : Nat) (b a : Int), l.length - i = m → 0 ≤ b → 0 ≤ a → b ≤ 2147483648 → a ≤ 2147483648 →
    (chkX l i b a = 0 ↔ FormAt l i ∧ b + oldU (ex (l.drop i)) ≤ 2147483647 ∧ a + newU (ex (l.drop i)) ≤ 2147483647)
  | 0, i, b, a, h, hb, ha, hb2, ha2 => by
    rw [chkX, if_neg (by omega), drop_ends (by omega)]
    simp only [ex, oldU, newU]
    split
    · constructor
      · intro h; omega
      · rintro ⟨_, h1, h2⟩; omega
    · exact ⟨fun _ => ⟨fun k h1 h2 => by omega, by omega, by omega⟩, fun _ => rfl⟩
  | m + 1, i, b, a, h, hb, ha, hb2, ha2 => by
    have hi : i < l.length := by omega
    rw [chkX, if_pos hi]
    have step : FormAt l i ↔ (Ok1 (l.getD i default) ∧ (0 < i → Nx (l.getD (i - 1) default) (l.getD i default))) ∧ FormAt l (i + 1) := by
      constructor
      · exact fun h => ⟨h i (Nat.le_refl _) hi, fun k h1 h2 => h k (by omega) h2⟩
      · rintro ⟨h1, h2⟩ k h3 h4
        by_cases e : k = i
        · subst e; exact h1
        · exact h2 k (by omega) h4
    rw [step, drop_ats hi]
    simp only [ex]
    rw [old_rep, new_rep]
    have ih := fun b' a' => chkX_all l m (i + 1) b' a' (by omega)
    generalize l.getD i default = x at *
    generalize l.getD (i - 1) default = y at *
    unfold Ok1 Nx
    by_cases c1 : x.kind < 0 ∨ 2 < x.kind
    · rw [if_pos c1]; constructor
      · intro h; omega
      · rintro ⟨⟨⟨h, _⟩, _⟩, _⟩; omega
    rw [if_neg c1]
    have n0 : (oldU (ex (l.drop (i + 1))) : Int) ≥ 0 := Int.natCast_nonneg _
    have n1 : (newU (ex (l.drop (i + 1))) : Int) ≥ 0 := Int.natCast_nonneg _
    by_cases c2 : x.n < 1 ∨ 2147483647 < x.n
    · rw [if_pos c2]; constructor
      · intro h; omega
      · rintro ⟨⟨⟨h, _⟩, _⟩, h1, h2⟩
        exfalso
        by_cases k1 : x.kind = 1
        · rw [if_neg (by omega)] at h2; omega
        · rw [if_neg k1] at h1; omega
    rw [if_neg c2]
    have hn : (x.n.toNat : Int) = x.n := Int.toNat_of_nonneg (by omega)
    rw [hn]
    by_cases c3 : 0 < i ∧ (y.kind = x.kind ∨ (y.kind = 2 ∧ x.kind = 1))
    · rw [if_pos c3]; constructor
      · intro h; omega
      · rintro ⟨⟨⟨_, h⟩, _⟩, _⟩
        have := h c3.1
        rcases c3.2 with q | q
        · exact absurd q this.1
        · exact absurd q this.2
    rw [if_neg c3, ih _ _ (by split <;> omega) (by split <;> omega) (by split <;> omega) (by split <;> omega)]
    constructor
    · rintro ⟨f, h1, h2⟩
      refine ⟨⟨⟨⟨by omega, by omega, by omega⟩, fun h0 => ⟨fun e => c3 ⟨h0, .inl e⟩, fun e => c3 ⟨h0, .inr e⟩⟩⟩, f⟩, ?_, ?_⟩
      · by_cases k1 : x.kind = 1
        · rw [if_pos k1]; rw [if_neg (by omega)] at h1; omega
        · rw [if_neg k1]; rw [if_pos k1] at h1; omega
      · by_cases k1 : x.kind = 2
        · rw [if_pos k1]; rw [if_neg (by omega)] at h2; omega
        · rw [if_neg k1]; rw [if_pos k1] at h2; omega
    · rintro ⟨⟨_, f⟩, h1, h2⟩
      refine ⟨f, ?_, ?_⟩
      · by_cases k1 : x.kind = 1
        · rw [if_pos k1] at h1; rw [if_neg (by omega)]; omega
        · rw [if_neg k1] at h1; rw [if_pos k1]; omega
      · by_cases k1 : x.kind = 2
        · rw [if_pos k1] at h2; rw [if_neg (by omega)]; omega
        · rw [if_neg k1] at h2; rw [if_pos k1]; omega
theorem form_of_at : ∀ {l : List AxStep}, FormAt l 0 → Form l
  | [], _ => trivial
  | [s], h => (h 0 (Nat.le_refl _) (by simp)).1
  | s :: t :: l, h => by
    have h0 := h 0 (Nat.le_refl _) (by simp)
    have h1 := h 1 (by omega) (by simp)
    refine ⟨h0.1, h1.2 (by omega), form_of_at (l := t :: l) (fun k _ hk => ?_)⟩
    have := h (k + 1) (by omega) (by simp at hk ⊢; omega)
    refine ⟨by simpa using this.1, fun hk0 => ?_⟩
    obtain ⟨m, rfl⟩ : ∃ m, k = m + 1 := ⟨k - 1, by omega⟩
    simpa using this.2 (by omega)
theorem at_of_form : ∀ {l : List AxStep}, Form l → FormAt l 0
  | [], _ => fun k _ hk => by simp at hk
  | s :: l, h => by
    have ih := at_of_form h.tail
    intro k _ hk
    cases k with
    | zero => exact ⟨h.head, fun h => absurd h (by decide)⟩
    | succ k =>
      have := ih k (by omega) (by simpa using hk)
      refine ⟨by simpa using this.1, fun _ => ?_⟩
      cases k with
      | zero =>
        cases l with
        | nil => simp at hk
        | cons t l => exact h.2.1
      | succ k => simpa using this.2 (by omega)
def Valid (l : List AxStep) : Prop := Form l ∧ oldU (ex l) ≤ 2147483647 ∧ newU (ex l) ≤ 2147483647
theorem check_iff {l : List AxStep} : checkX l = 0 ↔ Valid l := by
  unfold checkX Valid
  rw [chkX_all l _ 0 0 0 rfl (by decide) (by decide) (by decide) (by decide), List.drop_zero]
  constructor
  · rintro ⟨a, b, c⟩; exact ⟨form_of_at a, by omega, by omega⟩
  · rintro ⟨a, b, c⟩; exact ⟨at_of_form a, by omega, by omega⟩
theorem ex_len (l : List AxStep) : (ex l).length ≤ oldU (ex l) + newU (ex l) := by
  generalize ex l = u
  induction u with
  | nil => simp
  | cons x u ih => cases x <;> simp only [oldU, newU, List.length_cons] <;> omega
theorem ex_len' {l : List AxStep} (h : Form l) : l.length ≤ (ex l).length := by
  induction l with
  | nil => simp
  | cons s l ih =>
    have := ih h.tail
    have := h.head.2.2
    simp only [ex, List.length_cons, List.length_append, List.length_replicate]
    omega
theorem n_le {l : List AxStep} {s : AxStep} (h : s ∈ l) : s.n ≤ ((ex l).length : Int) := by
  induction l with
  | nil => cases h
  | cons t l ih =>
    simp only [ex, List.length_append, List.length_replicate]
    rcases List.mem_cons.1 h with rfl | h
    · omega
    · have := ih h; omega

/-! ### Readers -/
def ru (l : List AxStep) (u : Int) : List U := (ex l).drop u.toNat
structure GoodR (l : List AxStep) (u : Int) : Prop where
  form : Form l
  pos : 0 ≤ u
  nil : l.length = 0 → u = 0
  lt : 0 < l.length → u < (l.getD 0 default).n
theorem good_r {l : List AxStep} (h : Form l) : GoodR l 0 := ⟨h, Int.le_refl _, fun _ => rfl, fun h0 => by
  have := (at_of_form h) 0 (Nat.le_refl _) h0
  have := this.1.2.2
  omega⟩
theorem ru0 (l : List AxStep) : ru l 0 = ex l := rfl
theorem ru_nil {l : List AxStep} {u : Int} (h : l.length = 0) : ru l u = [] := by
  have : l = [] := List.length_eq_zero_iff.1 h
  subst this; simp [ru, ex]
theorem ru_cons {l : List AxStep} {u : Int} (h : GoodR l u) (h0 : 0 < l.length) :
    ru l u = rep ((l.getD 0 default).n - u).toNat (uOf (l.getD 0 default).kind) ++ ex (l.drop 1) := by
  have h1 := h.lt h0
  have h2 := h.pos
  cases l with
  | nil => simp at h0
  | cons s l =>
    simp only [List.getD_cons_zero] at h1 ⊢
    unfold ru
    rw [ex, List.drop_append_of_le_length (by simp; omega), List.drop_replicate]
    congr 2
    omega
theorem getD0_mem {l : List AxStep} (h : 0 < l.length) : Ok1 (l.getD 0 default) → Ok1 (l.getD 0 default) := id
theorem GoodR.ok {l : List AxStep} {u : Int} (h : GoodR l u) (h0 : 0 < l.length) : Ok1 (l.getD 0 default) := ((at_of_form h.form) 0 (Nat.le_refl _) h0).1
theorem GoodR.take {l : List AxStep} {u n : Int} (h : GoodR l u) (h0 : 0 < l.length) (hn : 0 ≤ n) (hl : n ≤ (l.getD 0 default).n - u) :
    (u + n = (l.getD 0 default).n → GoodR (l.drop 1) 0 ∧ rep n.toNat (uOf (l.getD 0 default).kind) ++ ru (l.drop 1) 0 = ru l u) ∧
    (u + n ≠ (l.getD 0 default).n → GoodR l (u + n) ∧ rep n.toNat (uOf (l.getD 0 default).kind) ++ ru l (u + n) = ru l u) := by
  have h1 := h.lt h0
  have h2 := h.pos
  constructor
  · intro e
    refine ⟨good_r ?_, ?_⟩
    · cases l with
      | nil => trivial
      | cons s l => exact h.form.tail
    · rw [ru_cons h h0, ru0]
      congr 2
      omega
  · intro e
    have g : GoodR l (u + n) := ⟨h.form, by omega, fun hh => by omega, fun _ => by omega⟩
    refine ⟨g, ?_⟩
    rw [ru_cons h h0, ru_cons g h0, ← List.append_assoc, ← rep_add]
    congr 2
    omega
theorem ru_len (l : List AxStep) (u : Int) : (ru l u).length ≤ (ex l).length := by unfold ru; simp

/-! ### Run by run -/
theorem jc_C (n : Nat) (p q : List U) : joinU (rep n .C ++ p) q = rep n .C ++ joinU p q := by
  induction n with
  | zero => rfl
  | succ n ih => rw [rep_succ, List.cons_append, joinU, ih]; rfl
/-- Nothing, or not a cut first. -/
def NoC : List U → Prop
  | .C :: _ => False
  | _ => True
theorem jc_A (n : Nat) {p : List U} (hp : NoC p) (q : List U) : joinU p (rep n .A ++ q) = rep n .A ++ joinU p q := by
  induction n with
  | zero => rfl
  | succ n ih =>
    rw [rep_succ, List.cons_append, List.cons_append, ← ih]
    cases p with
    | nil => simp only [joinU]
    | cons x p => cases x with
      | C => exact hp.elim
      | K => simp only [joinU]
      | A => simp only [joinU]
theorem jc_K (n : Nat) (k : Int) (hk : k ≠ 1) (p q : List U) : joinU (rep n .K ++ p) (rep n (uOf k) ++ q) = rep n (uOf k) ++ joinU p q := by
  induction n with
  | zero => rfl
  | succ n ih =>
    rw [rep_succ, rep_succ, List.cons_append, List.cons_append, List.cons_append, ← ih]
    unfold uOf
    rw [if_neg hk]
    split <;> simp only [joinU]
theorem jc_AK (n : Nat) (p q : List U) : joinU (rep n .A ++ p) (rep n .K ++ q) = rep n .A ++ joinU p q := by
  induction n with
  | zero => rfl
  | succ n ih => rw [rep_succ, rep_succ, List.cons_append, List.cons_append, List.cons_append, ← ih]; simp only [joinU]
theorem jc_AC (n : Nat) (p q : List U) : joinU (rep n .A ++ p) (rep n .C ++ q) = joinU p q := by
  induction n with
  | zero => rfl
  | succ n ih => rw [rep_succ, rep_succ, List.cons_append, List.cons_append, joinU, ih]
theorem noC_ru {l : List AxStep} {u : Int} (h : GoodR l u) (hk : 0 < l.length → (l.getD 0 default).kind ≠ 2) : NoC (ru l u) := by
  by_cases h0 : 0 < l.length
  · have h1 := h.lt h0
    obtain ⟨m, hm⟩ : ∃ m, ((l.getD 0 default).n - u).toNat = m + 1 := ⟨((l.getD 0 default).n - u).toNat - 1, by omega⟩
    rw [ru_cons h h0, hm, rep_succ, List.cons_append]
    unfold uOf
    split
    · trivial
    · rw [if_neg (hk h0)]; trivial
  · rw [ru_nil (by omega)]; trivial
theorem pc_A (n : Nat) (p q : List U) : pairU (rep n .A ++ p) q = (rep n .A ++ (pairU p q).1, rep n .K ++ (pairU p q).2) := by
  induction n with
  | zero => rfl
  | succ n ih => rw [rep_succ, List.cons_append, pairU, ih]; rfl
def NoA : List U → Prop
  | .A :: _ => False
  | _ => True
theorem pc_B (n : Nat) {p : List U} (hp : NoA p) (q : List U) : pairU p (rep n .A ++ q) = (rep n .K ++ (pairU p q).1, rep n .A ++ (pairU p q).2) := by
  induction n with
  | zero => rfl
  | succ n ih =>
    rw [rep_succ, List.cons_append]
    cases p with
    | nil => simp only [pairU]; rw [ih]; rfl
    | cons x p => cases x with
      | A => exact hp.elim
      | K => simp only [pairU]; rw [ih]; rfl
      | C => simp only [pairU]; rw [ih]; rfl
theorem pc_XX (n : Nat) (s t : Int) (hs : s ≠ 1) (ht : t ≠ 1) (p q : List U) : pairU (rep n (uOf s) ++ p) (rep n (uOf t) ++ q) =
    ((if t = 2 then [] else rep n (uOf s)) ++ (pairU p q).1, (if s = 2 then [] else rep n (uOf t)) ++ (pairU p q).2) := by
  induction n with
  | zero => simp
  | succ n ih =>
    rw [rep_succ, rep_succ, List.cons_append, List.cons_append]
    unfold uOf at *
    rw [if_neg hs, if_neg ht] at *
    by_cases h2 : s = 2 <;> by_cases h3 : t = 2 <;> simp only [h2, h3, if_true, if_false, pairU, rep_succ, List.cons_append, List.nil_append] at ih ⊢ <;> simp [ih]
theorem noA_ru {l : List AxStep} {u : Int} (h : GoodR l u) (hk : 0 < l.length → (l.getD 0 default).kind ≠ 1) : NoA (ru l u) := by
  by_cases h0 : 0 < l.length
  · have h1 := h.lt h0
    obtain ⟨m, hm⟩ : ∃ m, ((l.getD 0 default).n - u).toNat = m + 1 := ⟨((l.getD 0 default).n - u).toNat - 1, by omega⟩
    rw [ru_cons h h0, hm, rep_succ, List.cons_append]
    unfold uOf
    rw [if_neg (hk h0)]
    split <;> trivial
  · rw [ru_nil (by omega)]; trivial
theorem putI {w : Wr} {k n : Int} (hk : 0 ≤ k ∧ k ≤ 2) (hn : 0 ≤ n) : foldW w (rep n.toNat (uOf k)) = putW w k n := by
  rw [putW_rep, Int.toNat_of_nonneg hn]
  congr 1
  unfold uOf
  split
  · rename_i h; rw [h]; rfl
  · split
    · rename_i h; rw [h]; rfl
    · show (0 : Int) = k; omega
end Go.Ch
