/- Readers of steps, the check of a change, joining and rebasing run by run. -/
import Derived.Test.YthpcjddcgdlilaaDoorM1
import Derived.Test.YthpcjddcgdlilaaDoorM2
import Derived.Test.YthpcjddcgdlilaaDoorM3
import Derived.Test.YthpcjddcgdlilaaDoorM4
import Derived.Test.YthpcjddcgdlilaaDoorProg
section
set_option linter.unusedVariables false
set_option linter.unusedSimpArgs false
namespace Go.Ch
open Go Go.Ab

/-! ### The check -/
def chkX (l : List AxStep) (i : Nat) (b a : Int) : Int :=
  if i < l.length then
    if (l.getD i default).kind < 0 ∨ 2 < (l.getD i default).kind then 8
    else if (l.getD i default).n < 1 ∨ 2147483647 < (l.getD i default).n then 2
    else if 0 < i ∧ ((l.getD (i - 1) default).kind = (l.getD i default).kind ∨ ((l.getD (i - 1) default).kind = 2 ∧ (l.getD i default).kind = 1)) then 5
    else chkX l (i + 1) (if (l.getD i default).kind ≠ 1 then min (b + (l.getD i default).n) 2147483648 else b) (if (l.getD i default).kind ≠ 2 then min (a + (l.getD i default).n) 2147483648 else a)
  else if 2147483647 < b ∨ 2147483647 < a then 3 else 0
termination_by l.length - i
def checkX (l : List AxStep) : Int := chkX l 0 0 0
def FormAt (l : List AxStep) (i : Nat) : Prop := ∀ k, i ≤ k → k < l.length → Ok1 (l.getD k default) ∧ (0 < k → Nx (l.getD (k - 1) default) (l.getD k default))
theorem drop_ats {l : List AxStep} {i : Nat} (h : i < l.length) : l.drop i = l.getD i default :: l.drop (i + 1) := by
  rw [List.drop_eq_getElem_cons h]; simp [List.getD, List.getElem?_eq_getElem h]
theorem drop_ends {l : List AxStep} {i : Nat} (h : ¬ i < l.length) : l.drop i = [] := List.drop_eq_nil_of_le (by omega)
theorem old_K (n : Nat) (u : List U) : oldU (rep n .K ++ u) = n + oldU u := by
  induction n with
  | zero => simp
  | succ n ih => rw [rep_succ, List.cons_append, oldU, ih]; omega
theorem old_A (n : Nat) (u : List U) : oldU (rep n .A ++ u) = oldU u := by
  induction n with
  | zero => simp
  | succ n ih => rw [rep_succ, List.cons_append, oldU, ih]
theorem old_C (n : Nat) (u : List U) : oldU (rep n .C ++ u) = n + oldU u := by
  induction n with
  | zero => simp
  | succ n ih => rw [rep_succ, List.cons_append, oldU, ih]; omega
theorem new_K (n : Nat) (u : List U) : newU (rep n .K ++ u) = n + newU u := by
  induction n with
  | zero => simp
  | succ n ih => rw [rep_succ, List.cons_append, newU, ih]; omega
theorem new_A (n : Nat) (u : List U) : newU (rep n .A ++ u) = n + newU u := by
  induction n with
  | zero => simp
  | succ n ih => rw [rep_succ, List.cons_append, newU, ih]; omega
theorem new_C (n : Nat) (u : List U) : newU (rep n .C ++ u) = newU u := by
  induction n with
  | zero => simp
  | succ n ih => rw [rep_succ, List.cons_append, newU, ih]
theorem old_rep (n : Nat) (k : Int) (u : List U) : (oldU (rep n (uOf k) ++ u) : Int) = (if k = 1 then (0 : Int) else (n : Int)) + oldU u := by
  unfold uOf
  by_cases h1 : k = 1
  · rw [if_pos h1, if_pos h1, old_A]; omega
  · rw [if_neg h1, if_neg h1]
    by_cases h2 : k = 2
    · rw [if_pos h2, old_C]; omega
    · rw [if_neg h2, old_K]; omega
theorem new_rep (n : Nat) (k : Int) (u : List U) : (newU (rep n (uOf k) ++ u) : Int) = (if k = 2 then (0 : Int) else (n : Int)) + newU u := by
  unfold uOf
  by_cases h1 : k = 1
  · rw [if_pos h1, new_A, if_neg (by omega)]; omega
  · rw [if_neg h1]
    by_cases h2 : k = 2
    · rw [if_pos h2, if_pos h2, new_C]; omega
    · rw [if_neg h2, if_neg h2, new_K]; omega
theorem chkX_all (l : List AxStep) : ∀ (m i : Nat) (b a : Int), l.length - i = m → 0 ≤ b → 0 ≤ a → b ≤ 2147483648 → a ≤ 2147483648 →
    (chkX l i b a = 0 ↔ FormAt l i ∧ b + oldU (ex (l.drop i)) ≤ 2147483647 ∧ a + newU (ex (l.drop i)) ≤ 2147483647)
  | 0, i, b, a, h, hb, ha, hb2, ha2 => by
    rw [chkX, if_neg (by omega), drop_ends (by omega)]
    simp only [ex, oldU, newU]
    split
    · constructor
      · intro h; omega
      · rintro ⟨_, h1, h2⟩; omega
    · exact ⟨fun _ => ⟨fun k h1 h2 => by omega, by omega, by omega⟩, fun _ => rfl⟩
  | m + 1, i, b, a, h, hb, ha, hb2, ha2 => by
    have hi : i < l.length := by omega
    rw [chkX, if_pos hi]
    have step : FormAt l i ↔ (Ok1 (l.getD i default) ∧ (0 < i → Nx (l.getD (i - 1) default) (l.getD i default))) ∧ FormAt l (i + 1) := by
      constructor
      · exact fun h => ⟨h i (Nat.le_refl _) hi, fun k h1 h2 => h k (by omega) h2⟩
      · rintro ⟨h1, h2⟩ k h3 h4
        by_cases e : k = i
        · subst e; exact h1
        · exact h2 k (by omega) h4
    rw [step, drop_ats hi]
    simp only [ex]
    rw [old_rep, new_rep]
    have ih := fun b' a' => chkX_all l m (i + 1) b' a' (by omega)
    generalize l.getD i default = x at *
    generalize l.getD (i - 1) default = y at *
    unfold Ok1 Nx
    by_cases c1 : x.kind < 0 ∨ 2 < x.kind
    · rw [if_pos c1]; constructor
      · intro h; omega
      · rintro ⟨⟨⟨h, _⟩, _⟩, _⟩; omega
    rw [if_neg c1]
    have n0 : (oldU (ex (l.drop (i + 1))) : Int) ≥ 0 := Int.natCast_nonneg _
    have n1 : (newU (ex (l.drop (i + 1))) : Int) ≥ 0 := Int.natCast_nonneg _
    by_cases c2 : x.n < 1 ∨ 2147483647 < x.n
    · rw [if_pos c2]; constructor
      · intro h; omega
      · rintro ⟨⟨⟨h, _⟩, _⟩, h1, h2⟩
        exfalso
        by_cases k1 : x.kind = 1
        · rw [if_neg (by omega)] at h2; omega
        · rw [if_neg k1] at h1; omega
    rw [if_neg c2]
    have hn : (x.n.toNat : Int) = x.n := Int.toNat_of_nonneg (by omega)
    rw [hn]
    by_cases c3 : 0 < i ∧ (y.kind = x.kind ∨ (y.kind = 2 ∧ x.kind = 1))
    · rw [if_pos c3]; constructor
      · intro h; omega
      · rintro ⟨⟨⟨_, h⟩, _⟩, _⟩
        have := h c3.1
        rcases c3.2 with q | q
        · exact absurd q this.1
        · exact absurd q this.2
    rw [if_neg c3, ih _ _ (by split <;> omega) (by split <;> omega) (by split <;> omega) (by split <;> omega)]
    constructor
    · rintro ⟨f, h1, h2⟩
      refine ⟨⟨⟨⟨by omega, by omega, by omega⟩, fun h0 => ⟨fun e => c3 ⟨h0, .inl e⟩, fun e => c3 ⟨h0, .inr e⟩⟩⟩, f⟩, ?_, ?_⟩
      · by_cases k1 : x.kind = 1
        · rw [if_pos k1]; rw [if_neg (by omega)] at h1; omega
        · rw [if_neg k1]; rw [if_pos k1] at h1; omega
      · by_cases k1 : x.kind = 2
        · rw [if_pos k1]; rw [if_neg (by omega)] at h2; omega
        · rw [if_neg k1]; rw [if_pos k1] at h2; omega
    · rintro ⟨⟨_, f⟩, h1, h2⟩
      refine ⟨f, ?_, ?_⟩
      · by_cases k1 : x.kind = 1
        · rw [if_pos k1] at h1; rw [if_neg (by omega)]; omega
        · rw [if_neg k1] at h1; rw [if_pos k1]; omega
      · by_cases k1 : x.kind = 2
        · rw [if_pos k1] at h2; rw [if_neg (by omega)]; omega
        · rw [if_neg k1] at h2; rw [if_pos k1]; omega
theorem form_of_at : ∀ {l : List AxStep}, FormAt l 0 → Form l
  | [], _ => trivial
  | [s], h => (h 0 (Nat.le_refl _) (by simp)).1
  | s :: t :: l, h => by
    have h0 := h 0 (Nat.le_refl _) (by simp)
    have h1 := h 1 (by omega) (by simp)
    refine ⟨h0.1, h1.2 (by omega), form_of_at (l := t :: l) (fun k _ hk => ?_)⟩
    have := h (k + 1) (by omega) (by simp at hk ⊢; omega)
    refine ⟨by simpa using this.1, fun hk0 => ?_⟩
    obtain ⟨m, rfl⟩ : ∃ m, k = m + 1 := ⟨k - 1, by omega⟩
    simpa using this.2 (by omega)
theorem at_of_form : ∀ {l : List AxStep}, Form l → FormAt l 0
  | [], _ => fun k _ hk => by simp at hk
  | s :: l, h => by
    have ih := at_of_form h.tail
    intro k _ hk
    cases k with
    | zero => exact ⟨h.head, fun h => absurd h (by decide)⟩
    | succ k =>
      have := ih k (by omega) (by simpa using hk)
      refine ⟨by simpa using this.1, fun _ => ?_⟩
      cases k with
      | zero =>
        cases l with
        | nil => simp at hk
        | cons t l => exact h.2.1
      | succ k => simpa using this.2 (by omega)
def Valid (l : List AxStep) : Prop := Form l ∧ oldU (ex l) ≤ 2147483647 ∧ newU (ex l) ≤ 2147483647
theorem check_iff {l : List AxStep} : checkX l = 0 ↔ Valid l := by
  unfold checkX Valid
  rw [chkX_all l _ 0 0 0 rfl (by decide) (by decide) (by decide) (by decide), List.drop_zero]
  constructor
  · rintro ⟨a, b, c⟩; exact ⟨form_of_at a, by omega, by omega⟩
  · rintro ⟨a, b, c⟩; exact ⟨at_of_form a, by omega, by omega⟩
theorem ex_len (l : List AxStep) : (ex l).length ≤ oldU (ex l) + newU (ex l) := by
  generalize ex l = u
  induction u with
  | nil => simp
  | cons x u ih => cases x <;> simp only [oldU, newU, List.length_cons] <;> omega
/-! ### Readers -/
def ru (l : List AxStep) (u : Int) : List U := (ex l).drop u.toNat
structure GoodR (l : List AxStep) (u : Int) : Prop where
  form : Form l
  pos : 0 ≤ u
  nil : l.length = 0 → u = 0
  lt : 0 < l.length → u < (l.getD 0 default).n
theorem good_r {l : List AxStep} (h : Form l) : GoodR l 0 := ⟨h, Int.le_refl _, fun _ => rfl, fun h0 => by
  have := (at_of_form h) 0 (Nat.le_refl _) h0
  have := this.1.2.2
  omega⟩
theorem ru0 (l : List AxStep) : ru l 0 = ex l := rfl
theorem ru_nil {l : List AxStep} {u : Int} (h : l.length = 0) : ru l u = [] := by
  have : l = [] := List.length_eq_zero_iff.1 h
  subst this; simp [ru, ex]
theorem ru_cons {l : List AxStep} {u : Int} (h : GoodR l u) (h0 : 0 < l.length) :
    ru l u = rep ((l.getD 0 default).n - u).toNat (uOf (l.getD 0 default).kind) ++ ex (l.drop 1) := by
  have h1 := h.lt h0
  have h2 := h.pos
  cases l with
  | nil => simp at h0
  | cons s l =>
    simp only [List.getD_cons_zero] at h1 ⊢
    unfold ru
    rw [ex, List.drop_append_of_le_length (by simp; omega), List.drop_replicate]
    congr 2
    omega
theorem GoodR.ok {l : List AxStep} {u : Int} (h : GoodR l u) (h0 : 0 < l.length) : Ok1 (l.getD 0 default) := ((at_of_form h.form) 0 (Nat.le_refl _) h0).1
theorem GoodR.take {l : List AxStep} {u n : Int} (h : GoodR l u) (h0 : 0 < l.length) (hn : 0 ≤ n) (hl : n ≤ (l.getD 0 default).n - u) :
    (u + n = (l.getD 0 default).n → GoodR (l.drop 1) 0 ∧ rep n.toNat (uOf (l.getD 0 default).kind) ++ ru (l.drop 1) 0 = ru l u) ∧
    (u + n ≠ (l.getD 0 default).n → GoodR l (u + n) ∧ rep n.toNat (uOf (l.getD 0 default).kind) ++ ru l (u + n) = ru l u) := by
  have h1 := h.lt h0
  have h2 := h.pos
  constructor
  · intro e
    refine ⟨good_r ?_, ?_⟩
    · cases l with
      | nil => trivial
      | cons s l => exact h.form.tail
    · rw [ru_cons h h0, ru0]
      congr 2
      omega
  · intro e
    have g : GoodR l (u + n) := ⟨h.form, by omega, fun hh => by omega, fun _ => by omega⟩
    refine ⟨g, ?_⟩
    rw [ru_cons h h0, ru_cons g h0, ← List.append_assoc, ← rep_add]
    congr 2
    omega
/-! ### Run by run -/
theorem jc_C (n : Nat) (p q : List U) : joinU (rep n .C ++ p) q = rep n .C ++ joinU p q := by
  induction n with
  | zero => rfl
  | succ n ih => rw [rep_succ, List.cons_append, joinU, ih]; rfl
/-- Nothing, or not a cut first. -/
def NoC : List U → Prop
  | .C :: _ => False
  | _ => True
theorem jc_A (n : Nat) {p : List U} (hp : NoC p) (q : List U) : joinU p (rep n .A ++ q) = rep n .A ++ joinU p q := by
  induction n with
  | zero => rfl
  | succ n ih =>
    rw [rep_succ, List.cons_append, List.cons_append, ← ih]
    cases p with
    | nil => simp only [joinU]
    | cons x p => cases x with
      | C => exact hp.elim
      | K => simp only [joinU]
      | A => simp only [joinU]
theorem jc_K (n : Nat) (k : Int) (hk : k ≠ 1) (p q : List U) : joinU (rep n .K ++ p) (rep n (uOf k) ++ q) = rep n (uOf k) ++ joinU p q := by
  induction n with
  | zero => rfl
  | succ n ih =>
    rw [rep_succ, rep_succ, List.cons_append, List.cons_append, List.cons_append, ← ih]
    unfold uOf
    rw [if_neg hk]
    split <;> simp only [joinU]
theorem jc_AK (n : Nat) (p q : List U) : joinU (rep n .A ++ p) (rep n .K ++ q) = rep n .A ++ joinU p q := by
  induction n with
  | zero => rfl
  | succ n ih => rw [rep_succ, rep_succ, List.cons_append, List.cons_append, List.cons_append, ← ih]; simp only [joinU]
theorem jc_AC (n : Nat) (p q : List U) : joinU (rep n .A ++ p) (rep n .C ++ q) = joinU p q := by
  induction n with
  | zero => rfl
  | succ n ih => rw [rep_succ, rep_succ, List.cons_append, List.cons_append, joinU, ih]
theorem noC_ru {l : List AxStep} {u : Int} (h : GoodR l u) (hk : 0 < l.length → (l.getD 0 default).kind ≠ 2) : NoC (ru l u) := by
  by_cases h0 : 0 < l.length
  · have h1 := h.lt h0
    obtain ⟨m, hm⟩ : ∃ m, ((l.getD 0 default).n - u).toNat = m + 1 := ⟨((l.getD 0 default).n - u).toNat - 1, by omega⟩
    rw [ru_cons h h0, hm, rep_succ, List.cons_append]
    unfold uOf
    split
    · trivial
    · rw [if_neg (hk h0)]; trivial
  · rw [ru_nil (by omega)]; trivial
def NoA : List U → Prop
  | .A :: _ => False
  | _ => True
theorem pc_B (n : Nat) {p : List U} (hp : NoA p) (q : List U) : pairU p (rep n .A ++ q) = (rep n .K ++ (pairU p q).1, rep n .A ++ (pairU p q).2) := by
  induction n with
  | zero => rfl
  | succ n ih =>
    rw [rep_succ, List.cons_append]
    cases p with
    | nil => simp only [pairU]; rw [ih]; rfl
    | cons x p => cases x with
      | A => exact hp.elim
      | K => simp only [pairU]; rw [ih]; rfl
      | C => simp only [pairU]; rw [ih]; rfl
theorem pc_XX (n : Nat) (s t : Int) (hs : s ≠ 1) (ht : t ≠ 1) (p q : List U) : pairU (rep n (uOf s) ++ p) (rep n (uOf t) ++ q) =
    ((if t = 2 then [] else rep n (uOf s)) ++ (pairU p q).1, (if s = 2 then [] else rep n (uOf t)) ++ (pairU p q).2) := by
  induction n with
  | zero => simp
  | succ n ih =>
    rw [rep_succ, rep_succ, List.cons_append, List.cons_append]
    unfold uOf at *
    rw [if_neg hs, if_neg ht] at *
    by_cases h2 : s = 2 <;> by_cases h3 : t = 2 <;> simp only [h2, h3, if_true, if_false, pairU, rep_succ, List.cons_append, List.nil_append] at ih ⊢ <;> simp [ih]
theorem noA_ru {l : List AxStep} {u : Int} (h : GoodR l u) (hk : 0 < l.length → (l.getD 0 default).kind ≠ 1) : NoA (ru l u) := by
  by_cases h0 : 0 < l.length
  · have h1 := h.lt h0
    obtain ⟨m, hm⟩ : ∃ m, ((l.getD 0 default).n - u).toNat = m + 1 := ⟨((l.getD 0 default).n - u).toNat - 1, by omega⟩
    rw [ru_cons h h0, hm, rep_succ, List.cons_append]
    unfold uOf
    rw [if_neg (hk h0)]
    split <;> trivial
  · rw [ru_nil (by omega)]; trivial
theorem putI {w : Wr} {k n : Int} (hk : 0 ≤ k ∧ k ≤ 2) (hn : 0 ≤ n) : foldW w (rep n.toNat (uOf k)) = putW w k n := by
  rw [putW_rep, Int.toNat_of_nonneg hn]
  congr 1
  unfold uOf
  split
  · rename_i h; rw [h]; rfl
  · split
    · rename_i h; rw [h]; rfl
    · show (0 : Int) = k; omega
end Go.Ch
end
section
set_option linter.unusedVariables false
set_option linter.unusedSimpArgs false
set_option maxRecDepth 100000
set_option maxHeartbeats 4000000
open Go Go.Proofs Go.Ab
namespace Go.Ch
def intT (z : Int) : Tree := .sc (.int .i64 z)
def withinI (x lo hi : Int) : Int := lo + ((x.tmod (hi - lo + 1)) + (hi - lo + 1)).tmod (hi - lo + 1)
theorem tmod_bd (x : Int) {n : Int} (hn : 0 < n) : -n < x.tmod n ∧ x.tmod n < n := by
  have h1 := Int.tmod_lt_of_pos x hn
  have h2 : -n < x.tmod n := by
    rcases Int.le_total 0 x with h | h
    · have := Int.tmod_nonneg n h; omega
    · have h3 := Int.tmod_lt_of_pos (-x) hn
      rw [Int.neg_tmod] at h3; omega
  exact ⟨h2, h1⟩
theorem withinI_bd (x : Int) {lo hi : Int} (h : lo ≤ hi) : lo ≤ withinI x lo hi ∧ withinI x lo hi ≤ hi := by
  unfold withinI
  have h1 := tmod_bd x (n := hi - lo + 1) (by omega)
  have h2 := Int.tmod_nonneg (hi - lo + 1) (a := (x.tmod (hi - lo + 1)) + (hi - lo + 1)) (by omega)
  have h3 := Int.tmod_lt_of_pos ((x.tmod (hi - lo + 1)) + (hi - lo + 1)) (b := hi - lo + 1) (by omega)
  omega
def rollV (raw : List Int) (used n : Int) : Int := if raw.length = 0 then 0 else withinI (IntKind.i64.wrap (raw.getD ((used + 1 - 1) % (raw.length : Int)).toNat default + (used + 1) / (raw.length : Int))) 0 (n - 1)
def rollU (raw : List Int) (used : Int) : Int := if raw.length = 0 then used else used + 1
theorem rollV_bd (raw : List Int) (used : Int) {n : Int} (h : 1 ≤ n) : 0 ≤ rollV raw used n ∧ rollV raw used n < n := by
  unfold rollV
  split
  · omega
  · have := withinI_bd (IntKind.i64.wrap (raw.getD ((used + 1 - 1) % (raw.length : Int)).toNat default + (used + 1) / (raw.length : Int))) (lo := 0) (hi := n - 1) (by omega)
    omega
theorem idx_bd {u : Int} {l : List Int} (h : 0 < l.length) (hu : 0 ≤ u) : 0 ≤ u % (l.length : Int) ∧ u % (l.length : Int) < l.length := by
  exact ⟨Int.emod_nonneg _ (by omega), Int.emod_lt_of_pos _ (by omega)⟩

theorem fc_within (x lo hi : Int) (hl : -1000000000000 ≤ lo ∧ lo ≤ hi ∧ hi ≤ 1000000000000) : FC Tryd.prog 13 [VI x, VI lo, VI hi] (app emp []) (VI (withinI x lo hi)) (app emp []) := by
 refine .go Tryd.f13 ?_
 have e1 : ((withinI x lo hi) : Int) = (lo + (((x.tmod ((hi - lo) + 1)) + ((hi - lo) + 1)).tmod ((hi - lo) + 1))) := by
  rfl
 exact .finE [.r [], .r [(2, X (Xn (hi - lo))), (3, X (Xn ((hi - lo) + 1)))], .r [(3, X (Xc ((((hi - lo) + 1) : Int) ≠ 0))), (5, X (Xn ((x.tmod ((hi - lo) + 1)) + ((hi - lo) + 1))) (by have h1 := tmod_bd x (n := hi - lo + 1) (by omega); omega)), (7, X (Xc ((((hi - lo) + 1) : Int) ≠ 0))), (8, X (Xn (lo + (((x.tmod ((hi - lo) + 1)) + ((hi - lo) + 1)).tmod ((hi - lo) + 1)))) (by have h1 := withinI_bd x (lo := lo) (hi := hi) (by omega); unfold withinI at h1; omega))]] [] (fun z0 => (VI z0, [])) ((lo + (((x.tmod ((hi - lo) + 1)) + ((hi - lo) + 1)).tmod ((hi - lo) + 1))) : Int) ((withinI x lo hi) : Int) e1

theorem fc_roll (raw : List Int) (used n : Int) (hu : 0 ≤ used ∧ used ≤ 1000000000000) (hn : 1 ≤ n ∧ n ≤ 1000000000000) (hll : raw.length ≤ 9223372036854775807) : FC Tryd.prog 40 [.ptr 0 0, VI n] (app emp [(0, .box [VL 1 intT raw, VI used])]) (VI (rollV raw used n)) (app emp [(0, .box [VL 1 intT raw, VI (rollU raw used)])]) := by
 refine .go Tryd.f40 ?_
 refine .br [.r [], .r [(4, X (Xl intT raw))]] ((raw.length : Int) == 0) (fun h1 => ?_) (fun h1 => ?_)
 ·
  (try simp only [beq_iff_eq, beq_eq_false_iff_ne, ne_eq] at h1)
  have e1 : ((rollU raw used) : Int) = used := by
   unfold rollU; ((repeat' split) <;> first | rfl | omega | (simp_all; done) | (simp_all; omega))
  have e2 : ((rollV raw used n) : Int) = 0 := by
   unfold rollV; ((repeat' split) <;> first | rfl | omega | (simp_all; done) | (simp_all; omega))
  exact .finE [.r []] [(0, 0)] (fun (z0, z1) => (VI z1, [(0, .box [VL 1 intT raw, VI z0])])) ((used : Int), (0 : Int)) (((rollU raw used) : Int), ((rollV raw used n) : Int)) (pr e1 e2)
 ·
  (try simp only [beq_iff_eq, beq_eq_false_iff_ne, ne_eq] at h1)
  have hr := idx_bd (l := raw) (u := used + 1 - 1) (by omega) (by omega)
  have e3 : ((rollU raw used) : Int) = (used + 1) := by
   unfold rollU; ((repeat' split) <;> first | rfl | omega | (simp_all; done) | (simp_all; omega))
  have e4 : ((rollV raw used n) : Int) = (withinI (IntKind.i64.wrap ((raw.getD (Int.toNat (((used + 1) - 1) % (raw.length : Int))) default) + ((used + 1) / (raw.length : Int)))) 0 (n - 1)) := by
   unfold rollV; ((repeat' split) <;> first | rfl | omega | (simp_all; done) | (simp_all; omega))
  exact .finE [.r [(4, X (Xn (used + 1)))], .r [(8, X (Xn ((used + 1) - 1))), (13, X (Xl intT raw)), (14, X (Xrem ((used + 1) - 1) (raw.length : Int))), (15, X (Xi intT raw (((used + 1) - 1) % (raw.length : Int)))), (25, X (Xl intT raw)), (26, X (Xquo (used + 1) (raw.length : Int)) (by refine ⟨by omega, by omega, by omega⟩)), (29, X (Xn (n - 1))), (30, X (Xc0 (fc_within (IntKind.i64.wrap ((raw.getD (Int.toNat (((used + 1) - 1) % (raw.length : Int))) default) + ((used + 1) / (raw.length : Int)))) 0 (n - 1) (by omega)) X0))]] [(0, 0)] (fun (z0, z1) => (VI z1, [(0, .box [VL 1 intT raw, VI z0])])) (((used + 1) : Int), ((withinI (IntKind.i64.wrap ((raw.getD (Int.toNat (((used + 1) - 1) % (raw.length : Int))) default) + ((used + 1) / (raw.length : Int)))) 0 (n - 1)) : Int)) (((rollU raw used) : Int), ((rollV raw used n) : Int)) (pr e3 e4)

def segE (u : List Int) (i k : Nat) : Nat := if k < u.length ∧ (u.getD k default = 0 ↔ u.getD i default = 0) then segE u i (k + 1) else k
termination_by u.length - k
def cntX (u : List Int) (i k : Nat) (x : Int) : Nat := ((u.drop i).take (k - i)).countP (fun y => decide (y = x))
def o1 (k : Int) (n : Nat) : List AxStep := if 0 < n then [⟨k, (n : Int)⟩] else []
def o3 (a b c : Nat) : List AxStep := o1 0 a ++ (o1 1 b ++ o1 2 c)
theorem segE_ge (u : List Int) (i k : Nat) : k ≤ segE u i k := by
  induction k using segE.induct (u := u) (i := i) with
  | case1 k h ih => rw [segE, if_pos h]; omega
  | case2 k h => rw [segE, if_neg h]; omega
theorem segE_le (u : List Int) (i k : Nat) (h : k ≤ u.length) : segE u i k ≤ u.length := by
  induction k using segE.induct (u := u) (i := i) with
  | case1 k hc ih => rw [segE, if_pos hc]; exact ih (by omega)
  | case2 k hc => rw [segE, if_neg hc]; omega
theorem segE_gt (u : List Int) (i : Nat) (h : i < u.length) : i < segE u i i := by
  rw [segE, if_pos ⟨h, Iff.rfl⟩]; exact segE_ge _ _ _
def stepsL (u : List Int) (i : Nat) (out : List AxStep) : List AxStep :=
  if h : i < u.length then stepsL u (segE u i i) (out ++ o3 (cntX u i (segE u i i) 0) (cntX u i (segE u i i) 1) (cntX u i (segE u i i) 2)) else out
termination_by u.length - i
decreasing_by have := segE_gt u i h; omega
theorem take_one {u : List Int} {i k : Nat} (hi : i ≤ k) (hk : k < u.length) : (u.drop i).take (k + 1 - i) = (u.drop i).take (k - i) ++ [u.getD k default] := by
  rw [show k + 1 - i = (k - i) + 1 by omega, List.take_succ_eq_append_getElem (by simp; omega)]
  congr 2
  rw [List.getElem_drop]
  simp [List.getD, List.getElem?_eq_getElem hk, show i + (k - i) = k by omega]
theorem cntX_step {u : List Int} {i k : Nat} (hi : i ≤ k) (hk : k < u.length) (x : Int) : cntX u i (k + 1) x = cntX u i k x + (if u.getD k default = x then 1 else 0) := by
  unfold cntX
  rw [take_one hi hk, List.countP_append, List.countP_singleton]
  simp only [decide_eq_true_eq]
theorem cntX_le (u : List Int) (i k : Nat) (x : Int) : cntX u i k x ≤ k - i := by
  unfold cntX
  refine Nat.le_trans List.countP_le_length ?_
  rw [List.length_take]; omega
theorem hu3_of {u : List Int} (h : ∀ x ∈ u, 0 ≤ x ∧ x ≤ 2) {k : Nat} (hk : k < u.length) : u.getD k default = 0 ∨ u.getD k default = 1 ∨ u.getD k default = 2 := by
  have := h (u.getD k default) (by rw [show u.getD k default = u[k] by simp [List.getD, List.getElem?_eq_getElem hk]]; exact List.getElem_mem hk)
  omega
theorem beq_cls {a b : Int} (h : (a == 0) = (b == 0)) : a = 0 ↔ b = 0 := by
  rw [Bool.eq_iff_iff] at h; simpa using h
theorem beq_cls' {a b : Int} (h : ¬ (a == 0) = (b == 0)) : ¬ (a = 0 ↔ b = 0) := by
  intro hh
  exact h (by rw [Bool.eq_iff_iff]; simpa using hh)
theorem cntX_self (u : List Int) (i : Nat) (x : Int) : cntX u i i x = 0 := by unfold cntX; simp
end Go.Ch
end
section
set_option linter.unusedVariables false
set_option linter.unusedSimpArgs false
set_option maxRecDepth 100000
set_option maxHeartbeats 4000000
open Go Go.Proofs Go.Ab
namespace Go.Ch
theorem fc_steps (u : List Int) (hu : ∀ x ∈ u, 0 ≤ x ∧ x ≤ 2) (hlen : u.length ≤ 1000000000) : FC Tryd.prog 41 [VL 1 intT u] (app emp []) (VL 2 stepT (stepsL u 0 [])) (app emp []) := by
 refine .go Tryd.f41 ?_
 refine .len 0 (fun hl0 => ?_)
 refine .loop (α := Nat × (List AxStep)) [.r [], .r [], .r [], .le (.nR 3 2)] 25 (fun (i, out) => ([(0, VL 1 intT u), (3, .row 24 out.length), (4, VI (i : Int))], [(24, OR 2 stepT out)])) (fun (i, out) => i ≤ u.length ∧ out.length ≤ 3 * i ∧ stepsL u 0 [] = stepsL u i out) (fun (i, out) => u.length - i) (0, []) ?_ ?_
 ·
  exact ⟨by omega, by simp, rfl⟩
 rintro ⟨i, out⟩ I3 ih3
 try dsimp only at I3
 refine .br [.r [(2, X (Xl intT u))]] (decide ((i : Int) < (u.length : Int))) (fun h3 => ?_) (fun h3 => ?_)
 ·
  (try simp only [decide_eq_true_eq, decide_eq_false_iff_not, Int.not_lt, Int.not_le] at h3)
  refine .loop (α := Nat × Int × Int × Int) [.r [], .r []] 81 (fun (k, o57c0, o57c1, o57c2) => ([(0, VL 1 intT u), (3, .row 24 out.length), (4, VI (i : Int)), (5, .ptr 57 0), (6, VI (k : Int))], [(24, OR 2 stepT out), (57, .box [VI o57c0, VI o57c1, VI o57c2])])) (fun (k, o57c0, o57c1, o57c2) => i ≤ k ∧ k ≤ u.length ∧ segE u i i = segE u i k ∧ o57c0 = (cntX u i k 0 : Int) ∧ o57c1 = (cntX u i k 1 : Int) ∧ o57c2 = (cntX u i k 2 : Int)) (fun (k, o57c0, o57c1, o57c2) => u.length - k) (i, 0, 0, 0) ?_ ?_
  ·
   exact ⟨by omega, by omega, rfl, by simp [cntX_self]⟩
  rintro ⟨k, o57c0, o57c1, o57c2⟩ I6 ih6
  try dsimp only at I6
  refine .br [.r [(2, X (Xl intT u)), (7, Xv 2 (decide ((k : Int) < (u.length : Int))) (Xi intT u (k : Int))), (8, Xv 1 (decide ((k : Int) < (u.length : Int))) X0), (9, Xv 1 (decide ((k : Int) < (u.length : Int))) X0), (12, Xv 2 (decide ((k : Int) < (u.length : Int))) (Xi intT u (i : Int))), (13, Xv 1 (decide ((k : Int) < (u.length : Int))) X0), (14, Xv 1 (decide ((k : Int) < (u.length : Int))) X0), (15, Xv 2 (decide ((k : Int) < (u.length : Int))) X0), (16, X (Xk (decide ((k : Int) < (u.length : Int)))))]] (decide ((k : Int) < (u.length : Int)) && (((u.getD k default) == 0) == ((u.getD i default) == 0))) (fun h6 => ?_) (fun h6 => ?_)
  ·
   (try simp only [decide_eq_true_eq, decide_eq_false_iff_not, Int.not_lt, Int.not_le, Bool.and_eq_true, Bool.and_eq_false_iff, Bool.not_eq_true', Bool.not_eq_false', beq_iff_eq, beq_eq_false_iff_ne, ne_eq] at h6)
   have hu3 := hu3_of hu (k := k) (by omega)
   have q0 := cntX_le u i k 0
   have q1 := cntX_le u i k 1
   have q2 := cntX_le u i k 2
   rcases hu3 with hk | hk | hk
   ·
    refine .back [.r [(2, X (Xi intT u (k : Int))), (4, X (Xlit 57 0 1 3 (u.getD k default) 0) ⟨hk, (by first | omega | (simp; omega) | (simp; done) | assumption)⟩), (6, X (Xn (o57c0 + 1))), (7, X (Xlit 57 0 1 3 (u.getD k default) 0) ⟨hk, (by first | omega | (simp; omega) | (simp; done) | assumption)⟩)], .r [(1, X (Xn ((k : Int) + 1)))]] [(24, 24), (57, 57)] (ih6 ((k + 1), (o57c0 + 1), o57c1, o57c2) ?_ ?_)
    ·
     have s0 := cntX_step (u := u) (i := i) (k := k) (by omega) (by omega) 0
     have s1 := cntX_step (u := u) (i := i) (k := k) (by omega) (by omega) 1
     have s2 := cntX_step (u := u) (i := i) (k := k) (by omega) (by omega) 2
     rw [hk] at s0 s1 s2
     simp at s0 s1 s2
     refine ⟨by omega, by omega, ?_, by omega, by omega, by omega⟩
     rw [I6.2.2.1, segE, if_pos ⟨by omega, beq_cls h6.2⟩]
    ·
     ((try dsimp only); omega)
   ·
    refine .back [.r [(2, X (Xi intT u (k : Int))), (4, X (Xlit 57 0 1 3 (u.getD k default) 1) ⟨hk, (by first | omega | (simp; omega) | (simp; done) | assumption)⟩), (6, X (Xn (o57c1 + 1))), (7, X (Xlit 57 0 1 3 (u.getD k default) 1) ⟨hk, (by first | omega | (simp; omega) | (simp; done) | assumption)⟩)], .r [(1, X (Xn ((k : Int) + 1)))]] [(24, 24), (57, 57)] (ih6 ((k + 1), o57c0, (o57c1 + 1), o57c2) ?_ ?_)
    ·
     have s0 := cntX_step (u := u) (i := i) (k := k) (by omega) (by omega) 0
     have s1 := cntX_step (u := u) (i := i) (k := k) (by omega) (by omega) 1
     have s2 := cntX_step (u := u) (i := i) (k := k) (by omega) (by omega) 2
     rw [hk] at s0 s1 s2
     simp at s0 s1 s2
     refine ⟨by omega, by omega, ?_, by omega, by omega, by omega⟩
     rw [I6.2.2.1, segE, if_pos ⟨by omega, beq_cls h6.2⟩]
    ·
     ((try dsimp only); omega)
   ·
    refine .back [.r [(2, X (Xi intT u (k : Int))), (4, X (Xlit 57 0 1 3 (u.getD k default) 2) ⟨hk, (by first | omega | (simp; omega) | (simp; done) | assumption)⟩), (6, X (Xn (o57c2 + 1))), (7, X (Xlit 57 0 1 3 (u.getD k default) 2) ⟨hk, (by first | omega | (simp; omega) | (simp; done) | assumption)⟩)], .r [(1, X (Xn ((k : Int) + 1)))]] [(24, 24), (57, 57)] (ih6 ((k + 1), o57c0, o57c1, (o57c2 + 1)) ?_ ?_)
    ·
     have s0 := cntX_step (u := u) (i := i) (k := k) (by omega) (by omega) 0
     have s1 := cntX_step (u := u) (i := i) (k := k) (by omega) (by omega) 1
     have s2 := cntX_step (u := u) (i := i) (k := k) (by omega) (by omega) 2
     rw [hk] at s0 s1 s2
     simp at s0 s1 s2
     refine ⟨by omega, by omega, ?_, by omega, by omega, by omega⟩
     rw [I6.2.2.1, segE, if_pos ⟨by omega, beq_cls h6.2⟩]
    ·
     ((try dsimp only); omega)
  ·
   (try simp only [decide_eq_true_eq, decide_eq_false_iff_not, Int.not_lt, Int.not_le, Bool.and_eq_true, Bool.and_eq_false_iff, Bool.not_eq_true', Bool.not_eq_false', beq_iff_eq, beq_eq_false_iff_ne, ne_eq] at h6)
   refine .br [.r [], .u, .r [], .t, .r [], .r [(1, X (Xa (Xc ((0:Int) ≤ 0)) (Xc (0 < ((3 : Nat) : Int)))))]] (decide (o57c0 > 0)) (fun h12 => ?_) (fun h12 => ?_)
   ·
    (try simp only [decide_eq_true_eq, decide_eq_false_iff_not, Int.not_lt, Int.not_le, gt_iff_lt] at h12)
    refine .br [.r [(3, X (Xa (Xc ((0:Int) ≤ 0)) (Xc (0 < ((3 : Nat) : Int))))), (7, X (rowC stepT [({ kind := 0, n := o57c0 } : AxStep)] (Xap 2 stepT 24 out [({ kind := 0, n := o57c0 } : AxStep)])))], .r [], .u, .r [], .t, .r [], .r [(1, X (Xa (Xc ((0:Int) ≤ 1)) (Xc (1 < ((3 : Nat) : Int)))))]] (decide (o57c1 > 0)) (fun h12 => ?_) (fun h12 => ?_)
    ·
     (try simp only [decide_eq_true_eq, decide_eq_false_iff_not, Int.not_lt, Int.not_le, gt_iff_lt] at h12)
     refine .br [.r [(3, X (Xa (Xc ((0:Int) ≤ 1)) (Xc (1 < ((3 : Nat) : Int))))), (7, X (rowC stepT [({ kind := 1, n := o57c1 } : AxStep)] (Xap 2 stepT 24 (out ++ [({ kind := 0, n := o57c0 } : AxStep)]) [({ kind := 1, n := o57c1 } : AxStep)])))], .r [], .u, .r [], .t, .r [], .r [(1, X (Xa (Xc ((0:Int) ≤ 2)) (Xc (2 < ((3 : Nat) : Int)))))]] (decide (o57c2 > 0)) (fun h12 => ?_) (fun h12 => ?_)
     ·
      (try simp only [decide_eq_true_eq, decide_eq_false_iff_not, Int.not_lt, Int.not_le, gt_iff_lt] at h12)
      have hE : segE u i k = k := by rw [segE, if_neg (by rcases h6 with h | h; omega; exact fun hh => beq_cls' h hh.2)]
      have hG := segE_gt u i (by omega)
      rw [I6.2.2.1, hE] at hG
      refine .back [.r [(3, X (Xa (Xc ((0:Int) ≤ 2)) (Xc (2 < ((3 : Nat) : Int))))), (7, X (rowC stepT [({ kind := 2, n := o57c2 } : AxStep)] (Xap 2 stepT 24 ((out ++ [({ kind := 0, n := o57c0 } : AxStep)]) ++ [({ kind := 1, n := o57c1 } : AxStep)]) [({ kind := 2, n := o57c2 } : AxStep)])))], .r [], .u, .r [], .f, .r []] [(24, 24)] (ih3 (k, (((out ++ [({ kind := 0, n := o57c0 } : AxStep)]) ++ [({ kind := 1, n := o57c1 } : AxStep)]) ++ [({ kind := 2, n := o57c2 } : AxStep)])) ?_ ?_)
      ·
       refine ⟨by omega, by ((try simp only [List.length_append, List.length_cons, List.length_nil]); omega), ?_⟩
       rw [I3.2.2, stepsL, dif_pos (by omega), I6.2.2.1, hE]
       try simp only [I6.2.2.2.1, I6.2.2.2.2.1, I6.2.2.2.2.2]
       congr 1
       simp only [o3, o1]
       (repeat (first | rw [if_pos (by omega)] | rw [if_neg (by omega)]))
       simp
      ·
       show u.length - k < u.length - i; omega
     ·
      (try simp only [decide_eq_true_eq, decide_eq_false_iff_not, Int.not_lt, Int.not_le, gt_iff_lt] at h12)
      have hE : segE u i k = k := by rw [segE, if_neg (by rcases h6 with h | h; omega; exact fun hh => beq_cls' h hh.2)]
      have hG := segE_gt u i (by omega)
      rw [I6.2.2.1, hE] at hG
      refine .back [.r [], .u, .r [], .f, .r []] [(24, 24)] (ih3 (k, ((out ++ [({ kind := 0, n := o57c0 } : AxStep)]) ++ [({ kind := 1, n := o57c1 } : AxStep)])) ?_ ?_)
      ·
       refine ⟨by omega, by ((try simp only [List.length_append, List.length_cons, List.length_nil]); omega), ?_⟩
       rw [I3.2.2, stepsL, dif_pos (by omega), I6.2.2.1, hE]
       try simp only [I6.2.2.2.1, I6.2.2.2.2.1, I6.2.2.2.2.2]
       congr 1
       simp only [o3, o1]
       (repeat (first | rw [if_pos (by omega)] | rw [if_neg (by omega)]))
       simp
      ·
       show u.length - k < u.length - i; omega
    ·
     (try simp only [decide_eq_true_eq, decide_eq_false_iff_not, Int.not_lt, Int.not_le, gt_iff_lt] at h12)
     refine .br [.r [], .u, .r [], .t, .r [], .r [(1, X (Xa (Xc ((0:Int) ≤ 2)) (Xc (2 < ((3 : Nat) : Int)))))]] (decide (o57c2 > 0)) (fun h12 => ?_) (fun h12 => ?_)
     ·
      (try simp only [decide_eq_true_eq, decide_eq_false_iff_not, Int.not_lt, Int.not_le, gt_iff_lt] at h12)
      have hE : segE u i k = k := by rw [segE, if_neg (by rcases h6 with h | h; omega; exact fun hh => beq_cls' h hh.2)]
      have hG := segE_gt u i (by omega)
      rw [I6.2.2.1, hE] at hG
      refine .back [.r [(3, X (Xa (Xc ((0:Int) ≤ 2)) (Xc (2 < ((3 : Nat) : Int))))), (7, X (rowC stepT [({ kind := 2, n := o57c2 } : AxStep)] (Xap 2 stepT 24 (out ++ [({ kind := 0, n := o57c0 } : AxStep)]) [({ kind := 2, n := o57c2 } : AxStep)])))], .r [], .u, .r [], .f, .r []] [(24, 24)] (ih3 (k, ((out ++ [({ kind := 0, n := o57c0 } : AxStep)]) ++ [({ kind := 2, n := o57c2 } : AxStep)])) ?_ ?_)
      ·
       refine ⟨by omega, by ((try simp only [List.length_append, List.length_cons, List.length_nil]); omega), ?_⟩
       rw [I3.2.2, stepsL, dif_pos (by omega), I6.2.2.1, hE]
       try simp only [I6.2.2.2.1, I6.2.2.2.2.1, I6.2.2.2.2.2]
       congr 1
       simp only [o3, o1]
       (repeat (first | rw [if_pos (by omega)] | rw [if_neg (by omega)]))
       simp
      ·
       show u.length - k < u.length - i; omega
     ·
      (try simp only [decide_eq_true_eq, decide_eq_false_iff_not, Int.not_lt, Int.not_le, gt_iff_lt] at h12)
      have hE : segE u i k = k := by rw [segE, if_neg (by rcases h6 with h | h; omega; exact fun hh => beq_cls' h hh.2)]
      have hG := segE_gt u i (by omega)
      rw [I6.2.2.1, hE] at hG
      refine .back [.r [], .u, .r [], .f, .r []] [(24, 24)] (ih3 (k, (out ++ [({ kind := 0, n := o57c0 } : AxStep)])) ?_ ?_)
      ·
       refine ⟨by omega, by ((try simp only [List.length_append, List.length_cons, List.length_nil]); omega), ?_⟩
       rw [I3.2.2, stepsL, dif_pos (by omega), I6.2.2.1, hE]
       try simp only [I6.2.2.2.1, I6.2.2.2.2.1, I6.2.2.2.2.2]
       congr 1
       simp only [o3, o1]
       (repeat (first | rw [if_pos (by omega)] | rw [if_neg (by omega)]))
       simp
      ·
       show u.length - k < u.length - i; omega
   ·
    (try simp only [decide_eq_true_eq, decide_eq_false_iff_not, Int.not_lt, Int.not_le, gt_iff_lt] at h12)
    refine .br [.r [], .u, .r [], .t, .r [], .r [(1, X (Xa (Xc ((0:Int) ≤ 1)) (Xc (1 < ((3 : Nat) : Int)))))]] (decide (o57c1 > 0)) (fun h12 => ?_) (fun h12 => ?_)
    ·
     (try simp only [decide_eq_true_eq, decide_eq_false_iff_not, Int.not_lt, Int.not_le, gt_iff_lt] at h12)
     refine .br [.r [(3, X (Xa (Xc ((0:Int) ≤ 1)) (Xc (1 < ((3 : Nat) : Int))))), (7, X (rowC stepT [({ kind := 1, n := o57c1 } : AxStep)] (Xap 2 stepT 24 out [({ kind := 1, n := o57c1 } : AxStep)])))], .r [], .u, .r [], .t, .r [], .r [(1, X (Xa (Xc ((0:Int) ≤ 2)) (Xc (2 < ((3 : Nat) : Int)))))]] (decide (o57c2 > 0)) (fun h12 => ?_) (fun h12 => ?_)
     ·
      (try simp only [decide_eq_true_eq, decide_eq_false_iff_not, Int.not_lt, Int.not_le, gt_iff_lt] at h12)
      have hE : segE u i k = k := by rw [segE, if_neg (by rcases h6 with h | h; omega; exact fun hh => beq_cls' h hh.2)]
      have hG := segE_gt u i (by omega)
      rw [I6.2.2.1, hE] at hG
      refine .back [.r [(3, X (Xa (Xc ((0:Int) ≤ 2)) (Xc (2 < ((3 : Nat) : Int))))), (7, X (rowC stepT [({ kind := 2, n := o57c2 } : AxStep)] (Xap 2 stepT 24 (out ++ [({ kind := 1, n := o57c1 } : AxStep)]) [({ kind := 2, n := o57c2 } : AxStep)])))], .r [], .u, .r [], .f, .r []] [(24, 24)] (ih3 (k, ((out ++ [({ kind := 1, n := o57c1 } : AxStep)]) ++ [({ kind := 2, n := o57c2 } : AxStep)])) ?_ ?_)
      ·
       refine ⟨by omega, by ((try simp only [List.length_append, List.length_cons, List.length_nil]); omega), ?_⟩
       rw [I3.2.2, stepsL, dif_pos (by omega), I6.2.2.1, hE]
       try simp only [I6.2.2.2.1, I6.2.2.2.2.1, I6.2.2.2.2.2]
       congr 1
       simp only [o3, o1]
       (repeat (first | rw [if_pos (by omega)] | rw [if_neg (by omega)]))
       simp
      ·
       show u.length - k < u.length - i; omega
     ·
      (try simp only [decide_eq_true_eq, decide_eq_false_iff_not, Int.not_lt, Int.not_le, gt_iff_lt] at h12)
      have hE : segE u i k = k := by rw [segE, if_neg (by rcases h6 with h | h; omega; exact fun hh => beq_cls' h hh.2)]
      have hG := segE_gt u i (by omega)
      rw [I6.2.2.1, hE] at hG
      refine .back [.r [], .u, .r [], .f, .r []] [(24, 24)] (ih3 (k, (out ++ [({ kind := 1, n := o57c1 } : AxStep)])) ?_ ?_)
      ·
       refine ⟨by omega, by ((try simp only [List.length_append, List.length_cons, List.length_nil]); omega), ?_⟩
       rw [I3.2.2, stepsL, dif_pos (by omega), I6.2.2.1, hE]
       try simp only [I6.2.2.2.1, I6.2.2.2.2.1, I6.2.2.2.2.2]
       congr 1
       simp only [o3, o1]
       (repeat (first | rw [if_pos (by omega)] | rw [if_neg (by omega)]))
       simp
      ·
       show u.length - k < u.length - i; omega
    ·
     (try simp only [decide_eq_true_eq, decide_eq_false_iff_not, Int.not_lt, Int.not_le, gt_iff_lt] at h12)
     refine .br [.r [], .u, .r [], .t, .r [], .r [(1, X (Xa (Xc ((0:Int) ≤ 2)) (Xc (2 < ((3 : Nat) : Int)))))]] (decide (o57c2 > 0)) (fun h12 => ?_) (fun h12 => ?_)
     ·
      (try simp only [decide_eq_true_eq, decide_eq_false_iff_not, Int.not_lt, Int.not_le, gt_iff_lt] at h12)
      have hE : segE u i k = k := by rw [segE, if_neg (by rcases h6 with h | h; omega; exact fun hh => beq_cls' h hh.2)]
      have hG := segE_gt u i (by omega)
      rw [I6.2.2.1, hE] at hG
      refine .back [.r [(3, X (Xa (Xc ((0:Int) ≤ 2)) (Xc (2 < ((3 : Nat) : Int))))), (7, X (rowC stepT [({ kind := 2, n := o57c2 } : AxStep)] (Xap 2 stepT 24 out [({ kind := 2, n := o57c2 } : AxStep)])))], .r [], .u, .r [], .f, .r []] [(24, 24)] (ih3 (k, (out ++ [({ kind := 2, n := o57c2 } : AxStep)])) ?_ ?_)
      ·
       refine ⟨by omega, by ((try simp only [List.length_append, List.length_cons, List.length_nil]); omega), ?_⟩
       rw [I3.2.2, stepsL, dif_pos (by omega), I6.2.2.1, hE]
       try simp only [I6.2.2.2.1, I6.2.2.2.2.1, I6.2.2.2.2.2]
       congr 1
       simp only [o3, o1]
       (repeat (first | rw [if_pos (by omega)] | rw [if_neg (by omega)]))
       simp
      ·
       show u.length - k < u.length - i; omega
     ·
      (try simp only [decide_eq_true_eq, decide_eq_false_iff_not, Int.not_lt, Int.not_le, gt_iff_lt] at h12)
      have hE : segE u i k = k := by rw [segE, if_neg (by rcases h6 with h | h; omega; exact fun hh => beq_cls' h hh.2)]
      have hG := segE_gt u i (by omega)
      rw [I6.2.2.1, hE] at hG
      refine .back [.r [], .u, .r [], .f, .r []] [(24, 24)] (ih3 (k, out) ?_ ?_)
      ·
       refine ⟨by omega, by ((try simp only [List.length_append, List.length_cons, List.length_nil]); omega), ?_⟩
       rw [I3.2.2, stepsL, dif_pos (by omega), I6.2.2.1, hE]
       try simp only [I6.2.2.2.1, I6.2.2.2.2.1, I6.2.2.2.2.2]
       congr 1
       simp only [o3, o1]
       (repeat (first | rw [if_pos (by omega)] | rw [if_neg (by omega)]))
       simp
      ·
       show u.length - k < u.length - i; omega
 ·
  (try simp only [decide_eq_true_eq, decide_eq_false_iff_not, Int.not_lt, Int.not_le] at h3)
  have e1 : ((stepsL u 0 []) : List AxStep) = out := by
   rw [I3.2.2, stepsL, dif_neg (by omega)]
  exact .finE [.r [], .le (.fr 2 [(out.length : Nat) = (List.map stepT out).length] ⟨lm, trivial⟩)] [] (fun z0 => (VL 2 stepT z0, [])) (out : List AxStep) ((stepsL u 0 []) : List AxStep) e1

theorem rollU_bd (raw : List Int) (used : Int) : used ≤ rollU raw used ∧ rollU raw used ≤ used + 1 := by unfold rollU; split <;> omega
def fitA (u : List Int) (v : Int) : List Int := u ++ List.replicate (max 0 (v - 3)).toNat 1
def fitL (raw : List Int) : Nat → Int → List Int → List Int × Int
  | 0, used, u => (u, used)
  | r + 1, used, u => fitL raw r (rollU raw (rollU raw used)) (fitA u (rollV raw used 6) ++ [if rollV raw (rollU raw used) 6 = 0 then 2 else 0])
def fitU (raw : List Int) (n : Nat) : List Int := fitA (fitL raw n 0 []).1 (rollV raw (fitL raw n 0 []).2 6)
def U3 (u : List Int) : Prop := ∀ x ∈ u, 0 ≤ x ∧ x ≤ 2
theorem U3.app {u v : List Int} (h : U3 u) (k : U3 v) : U3 (u ++ v) := fun x hx => by
  rcases List.mem_append.1 hx with hx | hx
  · exact h x hx
  · exact k x hx
theorem U3.one {x : Int} (h : 0 ≤ x ∧ x ≤ 2) : U3 [x] := fun y hy => by rw [List.mem_singleton] at hy; subst hy; exact h
theorem U3.reps (j : Nat) : U3 (List.replicate j 1) := fun y hy => by rw [List.eq_of_mem_replicate hy]; decide
theorem fitA_at {u w : List Int} {v : Int} {j : Nat} (hw : w = u ++ List.replicate j 1) (h1 : (j : Int) ≤ max 0 (v - 3)) (h2 : max 0 (v - 3) ≤ (j : Int)) : fitA u v = w := by
  unfold fitA; rw [hw]; congr 2; omega

theorem fc_fitting (n : Int) (raw : List Int) (hn : 0 ≤ n ∧ n ≤ 100000000) : FC Tryd.prog 22 [VI n, VL 1 intT raw] (app emp []) (VL 2 stepT (stepsL (fitU raw n.toNat) 0 [])) (app emp []) := by
 refine .go Tryd.f22 ?_
 refine .len 1 (fun hl1 => ?_)
 refine .loop (α := Nat × Int × (List Int)) [.r [], .r [], .r [], .r [], .le (.nR 5 1)] 65 (fun (i, o32c1, u) => ([(5, .row 64 u.length), (6, .ptr 32 0), (10, VI n), (11, VI (i : Int))], [(32, .box [VL 1 intT raw, VI o32c1]), (64, OR 1 intT u)])) (fun (i, o32c1, u) => (i : Int) ≤ n ∧ 0 ≤ o32c1 ∧ o32c1 ≤ 2 * i ∧ u.length ≤ 3 * i ∧ U3 u ∧ fitL raw n.toNat 0 [] = fitL raw (n.toNat - i) o32c1 u) (fun (i, o32c1, u) => n.toNat - i) (0, 0, []) ?_ ?_
 ·
  exact ⟨by omega, by decide, by omega, by simp, fun x hx => (by cases hx), rfl⟩
 rintro ⟨i, o32c1, u⟩ I4 ih4
 try dsimp only at I4
 have r1 := rollU_bd raw o32c1
 have r2 := rollU_bd raw (rollU raw o32c1)
 have v1 := rollV_bd raw o32c1 (n := 6) (by decide)
 have v2 := rollV_bd raw (rollU raw o32c1) (n := 6) (by decide)
 refine .br [.r []] (decide ((i : Int) < n)) (fun h4 => ?_) (fun h4 => ?_)
 ·
  (try simp only [decide_eq_true_eq, decide_eq_false_iff_not, Int.not_lt, Int.not_le] at h4)
  refine .loop (α := Nat × (List Int)) [.r [(1, X (Xc3 81 [(0, 32)] (fc_roll raw o32c1 6 (by omega) (by omega) (by omega)) X0)), (2, X (Xn ((rollV raw o32c1 6) - 3))), (3, X (Xmax 0 ((rollV raw o32c1 6) - 3)))]] 113 (fun (j, w) => ([(5, .row 64 w.length), (6, .ptr 32 0), (10, VI n), (11, VI (i : Int)), (16, VI (max 0 ((rollV raw o32c1 6) - 3))), (17, VI (j : Int))], [(32, .box [VL 1 intT raw, VI (rollU raw o32c1)]), (64, OR 1 intT w)])) (fun (j, w) => (j : Int) ≤ (max 0 ((rollV raw o32c1 6) - 3)) ∧ w = u ++ List.replicate j 1) (fun (j, w) => ((max 0 ((rollV raw o32c1 6) - 3))).toNat - j) (0, u) ?_ ?_
  ·
   exact ⟨by omega, by simp⟩
  rintro ⟨j, w⟩ I6 ih6
  try dsimp only at I6
  have wl : w.length = u.length + j := by rw [I6.2]; simp
  refine .br [.r []] (decide ((j : Int) < (max 0 ((rollV raw o32c1 6) - 3)))) (fun h6 => ?_) (fun h6 => ?_)
  ·
   (try simp only [decide_eq_true_eq, decide_eq_false_iff_not, Int.not_lt, Int.not_le] at h6)
   refine .back [.r [(2, X (rowC intT [1] (Xap 1 intT 64 w [1])))], .r [(0, X (Xn ((j : Int) + 1)))]] [(32, 32), (64, 64)] (ih6 ((j + 1), (w ++ [1])) ?_ ?_)
   ·
    exact ⟨by omega, by rw [I6.2, List.append_assoc, ← List.replicate_succ']⟩
   ·
    ((try dsimp only); omega)
  ·
   (try simp only [decide_eq_true_eq, decide_eq_false_iff_not, Int.not_lt, Int.not_le] at h6)
   refine .br [.r [(1, X (Xc3 129 [(0, 32)] (fc_roll raw (rollU raw o32c1) 6 (by omega) (by omega) (by omega)) X0))]] ((rollV raw (rollU raw o32c1) 6) == 0) (fun h9 => ?_) (fun h9 => ?_)
   ·
    (try simp only [beq_iff_eq, beq_eq_false_iff_ne, ne_eq] at h9)
    refine .back [.r [(2, X (rowC intT [2] (Xap 1 intT 64 w [2])))], .r [(0, X (Xn ((i : Int) + 1)))]] [(32, 32), (64, 64)] (ih4 ((i + 1), (rollU raw (rollU raw o32c1)), (w ++ [2])) ?_ ?_)
    ·
     have fa := fitA_at (v := rollV raw o32c1 6) I6.2 I6.1 (by omega)
     refine ⟨by omega, by omega, by omega, by (simp only [List.length_append, List.length_cons, List.length_nil]; omega), ?_, ?_⟩
     · exact U3.app (by rw [I6.2]; exact U3.app I4.2.2.2.2.1 (U3.reps _)) (U3.one (by decide))
     · rw [I4.2.2.2.2.2, show n.toNat - i = (n.toNat - (i + 1)) + 1 by omega, fitL, fa]
       first | rw [if_pos h9] | rw [if_neg h9]
    ·
     ((try dsimp only); omega)
   ·
    (try simp only [beq_iff_eq, beq_eq_false_iff_ne, ne_eq] at h9)
    refine .back [.r [(2, X (rowC intT [0] (Xap 1 intT 64 w [0])))], .r [(0, X (Xn ((i : Int) + 1)))]] [(32, 32), (64, 64)] (ih4 ((i + 1), (rollU raw (rollU raw o32c1)), (w ++ [0])) ?_ ?_)
    ·
     have fa := fitA_at (v := rollV raw o32c1 6) I6.2 I6.1 (by omega)
     refine ⟨by omega, by omega, by omega, by (simp only [List.length_append, List.length_cons, List.length_nil]; omega), ?_, ?_⟩
     · exact U3.app (by rw [I6.2]; exact U3.app I4.2.2.2.2.1 (U3.reps _)) (U3.one (by decide))
     · rw [I4.2.2.2.2.2, show n.toNat - i = (n.toNat - (i + 1)) + 1 by omega, fitL, fa]
       first | rw [if_pos h9] | rw [if_neg h9]
    ·
     ((try dsimp only); omega)
 ·
  (try simp only [decide_eq_true_eq, decide_eq_false_iff_not, Int.not_lt, Int.not_le] at h4)
  refine .loop (α := Nat × (List Int)) [.r [(1, X (Xc3 81 [(0, 32)] (fc_roll raw o32c1 6 (by omega) (by omega) (by omega)) X0)), (2, X (Xn ((rollV raw o32c1 6) - 3))), (3, X (Xmax 0 ((rollV raw o32c1 6) - 3)))]] 113 (fun (j, w) => ([(5, .row 64 w.length), (36, VI (max 0 ((rollV raw o32c1 6) - 3))), (37, VI (j : Int))], [(64, OR 1 intT w)])) (fun (j, w) => (j : Int) ≤ (max 0 ((rollV raw o32c1 6) - 3)) ∧ w = u ++ List.replicate j 1) (fun (j, w) => ((max 0 ((rollV raw o32c1 6) - 3))).toNat - j) (0, u) ?_ ?_
  ·
   exact ⟨by omega, by simp⟩
  rintro ⟨j, w⟩ I14 ih14
  try dsimp only at I14
  have wl : w.length = u.length + j := by rw [I14.2]; simp
  refine .br [.r []] (decide ((j : Int) < (max 0 ((rollV raw o32c1 6) - 3)))) (fun h14 => ?_) (fun h14 => ?_)
  ·
   (try simp only [decide_eq_true_eq, decide_eq_false_iff_not, Int.not_lt, Int.not_le] at h14)
   refine .back [.r [(2, X (rowC intT [1] (Xap 1 intT 64 w [1])))], .r [(0, X (Xn ((j : Int) + 1)))]] [(64, 64)] (ih14 ((j + 1), (w ++ [1])) ?_ ?_)
   ·
    exact ⟨by omega, by rw [I14.2, List.append_assoc, ← List.replicate_succ']⟩
   ·
    ((try dsimp only); omega)
  ·
   (try simp only [decide_eq_true_eq, decide_eq_false_iff_not, Int.not_lt, Int.not_le] at h14)
   have hw : ∀ x ∈ w, 0 ≤ x ∧ x ≤ 2 := by rw [I14.2]; exact U3.app I4.2.2.2.2.1 (U3.reps _)
   have fe := I4.2.2.2.2.2
   rw [show n.toNat - i = 0 by omega, fitL] at fe
   have fa := fitA_at (v := rollV raw o32c1 6) I14.2 I14.1 (by omega)
   have fu : fitU raw n.toNat = w := by unfold fitU; rw [fe]; exact fa
   have e1 : ((stepsL (fitU raw n.toNat) 0 []) : List AxStep) = (stepsL w 0 []) := by
    rw [fu]
   exact .finE [.r [(1, X (Xc1 129 (fc_steps w (by assumption) (by omega)) (rowC intT w X0)))]] [] (fun z0 => (VL 2 stepT z0, [])) ((stepsL w 0 []) : List AxStep) ((stepsL (fitU raw n.toNat) 0 []) : List AxStep) e1
end Go.Ch
end
section
set_option linter.unusedVariables false
set_option linter.unusedSimpArgs false
set_option maxRecDepth 100000
set_option maxHeartbeats 4000000
open Go Go.Proofs Go.Ab
namespace Go.Ch
theorem fc_axCheck (l : List AxStep) : FC Tryd.prog 42 [VL 2 stepT l] (app emp []) (VI (checkX l)) (app emp []) := by
 refine .go Tryd.f42 ?_
 refine .len 0 (fun hl0 => ?_)
 refine .loop (α := Int × Int × Nat) [.r [], .r [], .r [(1, X (Xl stepT l))]] 48 (fun (b, a, i) => ([(0, VL 2 stepT l), (3, VI b), (4, VI a), (7, VL 2 stepT l), (8, VI (l.length : Int)), (9, VI (i : Int))], [])) (fun (b, a, i) => i ≤ l.length ∧ 0 ≤ b ∧ b ≤ 2147483648 ∧ 0 ≤ a ∧ a ≤ 2147483648 ∧ checkX l = chkX l i b a) (fun (b, a, i) => l.length - i) (0, 0, 0) ?_ ?_
 ·
  exact ⟨by omega, by decide, by decide, by decide, by decide, rfl⟩
 rintro ⟨b, a, i⟩ I3 ih3
 try dsimp only at I3
 refine .br [.r []] (decide ((i : Int) < (l.length : Int))) (fun h3 => ?_) (fun h3 => ?_)
 ·
  (try simp only [decide_eq_true_eq, decide_eq_false_iff_not, Int.not_lt, Int.not_le] at h3)
  refine .br [.r [(1, X (Xi stepT l (i : Int)))], .r [(5, Xv 1 (!(decide ((((l.getD i default)).kind) < 0))) X0), (6, Xv 1 (!(decide ((((l.getD i default)).kind) < 0))) X0), (7, X (Xk' (decide ((((l.getD i default)).kind) < 0))))]] (decide ((((l.getD i default)).kind) < 0) || decide ((((l.getD i default)).kind) > 2)) (fun h5 => ?_) (fun h5 => ?_)
  ·
   (try simp only [decide_eq_true_eq, decide_eq_false_iff_not, Int.not_lt, Int.not_le, gt_iff_lt, Bool.or_eq_true, Bool.or_eq_false_iff] at h5)
   have e1 : ((checkX l) : Int) = 8 := by
    rw [I3.2.2.2.2.2, chkX]; ((repeat' split) <;> first | rfl | omega | (simp_all; done) | (simp_all; omega))
   exact .finE [.r []] [] (fun z0 => (VI z0, [])) (8 : Int) ((checkX l) : Int) e1
  ·
   (try simp only [decide_eq_true_eq, decide_eq_false_iff_not, Int.not_lt, Int.not_le, gt_iff_lt, Bool.or_eq_true, Bool.or_eq_false_iff] at h5)
   refine .br [.r [(5, Xv 1 (!(decide ((((l.getD i default)).n) < 1))) X0), (6, Xv 1 (!(decide ((((l.getD i default)).n) < 1))) X0), (7, X (Xk' (decide ((((l.getD i default)).n) < 1))))]] (decide ((((l.getD i default)).n) < 1) || decide ((((l.getD i default)).n) > 2147483647)) (fun h7 => ?_) (fun h7 => ?_)
   ·
    (try simp only [decide_eq_true_eq, decide_eq_false_iff_not, Int.not_lt, Int.not_le, gt_iff_lt, Bool.or_eq_true, Bool.or_eq_false_iff] at h7)
    have e2 : ((checkX l) : Int) = 2 := by
     rw [I3.2.2.2.2.2, chkX]; ((repeat' split) <;> first | rfl | omega | (simp_all; done) | (simp_all; omega))
    exact .finE [.r []] [] (fun z0 => (VI z0, [])) (2 : Int) ((checkX l) : Int) e2
   ·
    (try simp only [decide_eq_true_eq, decide_eq_false_iff_not, Int.not_lt, Int.not_le, gt_iff_lt, Bool.or_eq_true, Bool.or_eq_false_iff] at h7)
    refine .br [.r [(5, Xv 1 (decide ((i : Int) > 0)) (Xn ((i : Int) - 1))), (6, Xv 2 (decide ((i : Int) > 0)) (Xi' stepT l ((i : Int) - 1) (i - 1))), (7, Xv 1 (decide ((i : Int) > 0)) X0), (8, Xv 1 (decide ((i : Int) > 0)) X0), (10, Xv 1 (decide ((i : Int) > 0)) X0), (11, Xv 2 (decide ((i : Int) > 0)) X0), (12, Xv 1 (decide ((i : Int) > 0)) X0), (15, Xv 1 ((decide ((i : Int) > 0)) && !((((l.getD (i - 1) default)).kind) == (((l.getD i default)).kind))) (Xn ((i : Int) - 1))), (16, Xv 2 ((decide ((i : Int) > 0)) && !((((l.getD (i - 1) default)).kind) == (((l.getD i default)).kind))) (Xi' stepT l ((i : Int) - 1) (i - 1))), (17, Xv 1 ((decide ((i : Int) > 0)) && !((((l.getD (i - 1) default)).kind) == (((l.getD i default)).kind))) X0), (18, Xv 1 ((decide ((i : Int) > 0)) && !((((l.getD (i - 1) default)).kind) == (((l.getD i default)).kind))) X0), (19, Xv 1 ((decide ((i : Int) > 0)) && !((((l.getD (i - 1) default)).kind) == (((l.getD i default)).kind))) X0), (20, Xv 1 ((decide ((i : Int) > 0)) && !((((l.getD (i - 1) default)).kind) == (((l.getD i default)).kind))) X0), (22, Xv 1 (((decide ((i : Int) > 0)) && !((((l.getD (i - 1) default)).kind) == (((l.getD i default)).kind))) && ((((l.getD (i - 1) default)).kind) == 2)) X0), (23, Xv 1 (((decide ((i : Int) > 0)) && !((((l.getD (i - 1) default)).kind) == (((l.getD i default)).kind))) && ((((l.getD (i - 1) default)).kind) == 2)) X0), (24, Xka ((decide ((i : Int) > 0)) && !((((l.getD (i - 1) default)).kind) == (((l.getD i default)).kind))) ((((l.getD (i - 1) default)).kind) == 2)), (25, Xko (decide ((i : Int) > 0)) ((((l.getD (i - 1) default)).kind) == (((l.getD i default)).kind))), (26, X (Xk (decide ((i : Int) > 0))))]] (decide ((i : Int) > 0) && (((((l.getD (i - 1) default)).kind) == (((l.getD i default)).kind)) || (((((l.getD (i - 1) default)).kind) == 2) && ((((l.getD i default)).kind) == 1)))) (fun h9 => ?_) (fun h9 => ?_)
    ·
     (try simp only [decide_eq_true_eq, decide_eq_false_iff_not, Int.not_lt, Int.not_le, gt_iff_lt, Bool.and_eq_true, Bool.and_eq_false_iff, Bool.not_eq_true', Bool.not_eq_false', Bool.or_eq_true, Bool.or_eq_false_iff, beq_iff_eq, beq_eq_false_iff_ne, ne_eq] at h9)
     have e3 : ((checkX l) : Int) = 5 := by
      rw [I3.2.2.2.2.2, chkX]; ((repeat' split) <;> first | rfl | omega | (simp_all; done) | (simp_all; omega))
     exact .finE [.r []] [] (fun z0 => (VI z0, [])) (5 : Int) ((checkX l) : Int) e3
    ·
     (try simp only [decide_eq_true_eq, decide_eq_false_iff_not, Int.not_lt, Int.not_le, gt_iff_lt, Bool.and_eq_true, Bool.and_eq_false_iff, Bool.not_eq_true', Bool.not_eq_false', Bool.or_eq_true, Bool.or_eq_false_iff, beq_iff_eq, beq_eq_false_iff_ne, ne_eq] at h9)
     refine .br [.r []] ((((l.getD i default)).kind) != 1) (fun h11 => ?_) (fun h11 => ?_)
     ·
      (try simp only [bne_iff_ne, bne_eq_false_iff_eq, ne_eq] at h11)
      refine .br [.r [(3, X (Xn (b + (((l.getD i default)).n)))), (4, X (Xmin (b + (((l.getD i default)).n)) 2147483648))], .r []] ((((l.getD i default)).kind) != 2) (fun h13 => ?_) (fun h13 => ?_)
      ·
       (try simp only [bne_iff_ne, bne_eq_false_iff_eq, ne_eq] at h13)
       refine .at 568 [(80, 80)] ([(0, VL 2 stepT l), (3, VI (min (b + (((l.getD i default)).n)) 2147483648)), (4, VI a), (6, .ptr 80 0), (7, VL 2 stepT l), (8, VI (l.length : Int)), (9, VI (i : Int)), (70, VB ((((l.getD i default)).kind) != 2))], [(80, .box [VI (((l.getD i default)).kind), VI (((l.getD i default)).n)])]) ?_
       refine .back [.r [(3, X (Xn (a + (((l.getD i default)).n)))), (4, X (Xmin (a + (((l.getD i default)).n)) 2147483648))], .r [(0, X (Xn ((i : Int) + 1)))]] [] (ih3 ((min (b + (((l.getD i default)).n)) 2147483648), (min (a + (((l.getD i default)).n)) 2147483648), (i + 1)) ?_ ?_)
       ·
        refine ⟨by omega, by omega, by omega, by omega, by omega, ?_⟩; rw [I3.2.2.2.2.2, chkX]; ((repeat' split) <;> first | rfl | omega | (simp_all; done) | (simp_all; omega))
       ·
        ((try dsimp only); omega)
      ·
       (try simp only [bne_iff_ne, bne_eq_false_iff_eq, ne_eq] at h13)
       refine .at 568 [(80, 80)] ([(0, VL 2 stepT l), (3, VI (min (b + (((l.getD i default)).n)) 2147483648)), (4, VI a), (6, .ptr 80 0), (7, VL 2 stepT l), (8, VI (l.length : Int)), (9, VI (i : Int)), (70, VB ((((l.getD i default)).kind) != 2))], [(80, .box [VI (((l.getD i default)).kind), VI (((l.getD i default)).n)])]) ?_
       refine .back [.r [(0, X (Xn ((i : Int) + 1)))]] [] (ih3 ((min (b + (((l.getD i default)).n)) 2147483648), a, (i + 1)) ?_ ?_)
       ·
        refine ⟨by omega, by omega, by omega, by omega, by omega, ?_⟩; rw [I3.2.2.2.2.2, chkX]; ((repeat' split) <;> first | rfl | omega | (simp_all; done) | (simp_all; omega))
       ·
        ((try dsimp only); omega)
     ·
      (try simp only [bne_iff_ne, bne_eq_false_iff_eq, ne_eq] at h11)
      refine .br [.r []] ((((l.getD i default)).kind) != 2) (fun h13 => ?_) (fun h13 => ?_)
      ·
       (try simp only [bne_iff_ne, bne_eq_false_iff_eq, ne_eq] at h13)
       refine .at 520 [(80, 80)] ([(0, VL 2 stepT l), (3, VI b), (4, VI a), (6, .ptr 80 0), (7, VL 2 stepT l), (8, VI (l.length : Int)), (9, VI (i : Int)), (70, VB ((((l.getD i default)).kind) != 2))], [(80, .box [VI (((l.getD i default)).kind), VI (((l.getD i default)).n)])]) ?_
       refine .back [.r [(3, X (Xn (a + (((l.getD i default)).n)))), (4, X (Xmin (a + (((l.getD i default)).n)) 2147483648))], .r [(0, X (Xn ((i : Int) + 1)))]] [] (ih3 (b, (min (a + (((l.getD i default)).n)) 2147483648), (i + 1)) ?_ ?_)
       ·
        refine ⟨by omega, by omega, by omega, by omega, by omega, ?_⟩; rw [I3.2.2.2.2.2, chkX]; ((repeat' split) <;> first | rfl | omega | (simp_all; done) | (simp_all; omega))
       ·
        ((try dsimp only); omega)
      ·
       (try simp only [bne_iff_ne, bne_eq_false_iff_eq, ne_eq] at h13)
       refine .at 520 [(80, 80)] ([(0, VL 2 stepT l), (3, VI b), (4, VI a), (6, .ptr 80 0), (7, VL 2 stepT l), (8, VI (l.length : Int)), (9, VI (i : Int)), (70, VB ((((l.getD i default)).kind) != 2))], [(80, .box [VI (((l.getD i default)).kind), VI (((l.getD i default)).n)])]) ?_
       refine .back [.r [(0, X (Xn ((i : Int) + 1)))]] [] (ih3 (b, a, (i + 1)) ?_ ?_)
       ·
        refine ⟨by omega, by omega, by omega, by omega, by omega, ?_⟩; rw [I3.2.2.2.2.2, chkX]; ((repeat' split) <;> first | rfl | omega | (simp_all; done) | (simp_all; omega))
       ·
        ((try dsimp only); omega)
 ·
  (try simp only [decide_eq_true_eq, decide_eq_false_iff_not, Int.not_lt, Int.not_le] at h3)
  refine .br [.r [(4, Xv 1 (!(decide (b > 2147483647))) X0), (5, X (Xk' (decide (b > 2147483647))))]] (decide (b > 2147483647) || decide (a > 2147483647)) (fun h16 => ?_) (fun h16 => ?_)
  ·
   (try simp only [decide_eq_true_eq, decide_eq_false_iff_not, Int.not_lt, Int.not_le, gt_iff_lt, Bool.or_eq_true, Bool.or_eq_false_iff] at h16)
   have e4 : ((checkX l) : Int) = 3 := by
    rw [I3.2.2.2.2.2, chkX]; ((repeat' split) <;> first | rfl | omega | (simp_all; done) | (simp_all; omega))
   exact .finE [.r []] [] (fun z0 => (VI z0, [])) (3 : Int) ((checkX l) : Int) e4
  ·
   (try simp only [decide_eq_true_eq, decide_eq_false_iff_not, Int.not_lt, Int.not_le, gt_iff_lt, Bool.or_eq_true, Bool.or_eq_false_iff] at h16)
   have e5 : ((checkX l) : Int) = 0 := by
    rw [I3.2.2.2.2.2, chkX]; ((repeat' split) <;> first | rfl | omega | (simp_all; done) | (simp_all; omega))
   exact .finE [.r []] [] (fun z0 => (VI z0, [])) (0 : Int) ((checkX l) : Int) e5

theorem ex_at {l : List AxStep} {i : Nat} (h : i < l.length) : ex (l.drop i) = rep (l.getD i default).n.toNat (uOf (l.getD i default).kind) ++ ex (l.drop (i + 1)) := by rw [drop_ats h]; rfl
def oldI (l : List AxStep) : Int := (oldU (ex l) : Int)
def newI (l : List AxStep) : Int := (newU (ex l) : Int)
theorem lens_step {l : List AxStep} {i : Nat} (h : i < l.length) (hf : Form l) : (oldU (ex (l.drop i)) : Int) = (if (l.getD i default).kind = 1 then 0 else (l.getD i default).n) + oldU (ex (l.drop (i + 1))) ∧
    (newU (ex (l.drop i)) : Int) = (if (l.getD i default).kind = 2 then 0 else (l.getD i default).n) + newU (ex (l.drop (i + 1))) ∧ 1 ≤ (l.getD i default).n ∧ 0 ≤ (l.getD i default).kind ∧ (l.getD i default).kind ≤ 2 := by
  have h1 := ((at_of_form hf) i (Nat.zero_le _) h).1
  have hn : ((l.getD i default).n.toNat : Int) = (l.getD i default).n := Int.toNat_of_nonneg (by have := h1.2.2; omega)
  rw [ex_at h, old_rep, new_rep, hn]
  exact ⟨rfl, rfl, h1.2.2, h1.1, h1.2.1⟩
theorem ex_end {l : List AxStep} {i : Nat} (h : l.length ≤ i) : ex (l.drop i) = [] := by rw [List.drop_eq_nil_of_le h]; rfl

theorem fc_axLens (l : List AxStep) (hv : Valid l) : FC Tryd.prog 43 [VL 2 stepT l] (app emp []) (.tup [VI (oldI l), VI (newI l)]) (app emp []) := by
 refine .go Tryd.f43 ?_
 refine .len 0 (fun hl0 => ?_)
 refine .loop (α := Int × Int × Nat) [.r [], .r [], .r [(1, X (Xl stepT l))]] 56 (fun (b, a, i) => ([(4, VI b), (5, VI a), (8, VL 2 stepT l), (9, VI (l.length : Int)), (10, VI (i : Int))], [])) (fun (b, a, i) => i ≤ l.length ∧ 0 ≤ b ∧ 0 ≤ a ∧ oldI l = b + oldU (ex (l.drop i)) ∧ newI l = a + newU (ex (l.drop i))) (fun (b, a, i) => l.length - i) (0, 0, 0) ?_ ?_
 ·
  exact ⟨by omega, by decide, by decide, by simp [oldI], by simp [newI]⟩
 rintro ⟨b, a, i⟩ I3 ih3
 try dsimp only at I3
 have hv1 : oldI l ≤ 2147483647 := by have := hv.2.1; unfold oldI; omega
 have hv2 : newI l ≤ 2147483647 := by have := hv.2.2; unfold newI; omega
 refine .br [.r []] (decide ((i : Int) < (l.length : Int))) (fun h3 => ?_) (fun h3 => ?_)
 ·
  (try simp only [decide_eq_true_eq, decide_eq_false_iff_not, Int.not_lt, Int.not_le] at h3)
  have hst := lens_step (l := l) (i := i) (by omega) hv.1
  refine .br [.r [(0, X (Xi stepT l (i : Int)))], .r []] ((((l.getD i default)).kind) != 1) (fun h5 => ?_) (fun h5 => ?_)
  ·
   (try simp only [bne_iff_ne, bne_eq_false_iff_eq, ne_eq] at h5)
   refine .br [.r [(3, X (Xn (b + (((l.getD i default)).n))))], .r []] ((((l.getD i default)).kind) != 2) (fun h7 => ?_) (fun h7 => ?_)
   ·
    (try simp only [bne_iff_ne, bne_eq_false_iff_eq, ne_eq] at h7)
    refine .back [.r [(3, X (Xn (a + (((l.getD i default)).n))))], .r [(0, X (Xn ((i : Int) + 1)))]] [] (ih3 ((b + (((l.getD i default)).n)), (a + (((l.getD i default)).n)), (i + 1)) ?_ ?_)
    ·
     obtain ⟨s1, s2, s3, s4, s5⟩ := hst
     first | rw [if_pos (by omega)] at s1 | rw [if_neg (by omega)] at s1
     first | rw [if_pos (by omega)] at s2 | rw [if_neg (by omega)] at s2
     refine ⟨by omega, by omega, by omega, by omega, by omega⟩
    ·
     ((try dsimp only); omega)
   ·
    (try simp only [bne_iff_ne, bne_eq_false_iff_eq, ne_eq] at h7)
    refine .back [.r [(0, X (Xn ((i : Int) + 1)))]] [] (ih3 ((b + (((l.getD i default)).n)), a, (i + 1)) ?_ ?_)
    ·
     obtain ⟨s1, s2, s3, s4, s5⟩ := hst
     first | rw [if_pos (by omega)] at s1 | rw [if_neg (by omega)] at s1
     first | rw [if_pos (by omega)] at s2 | rw [if_neg (by omega)] at s2
     refine ⟨by omega, by omega, by omega, by omega, by omega⟩
    ·
     ((try dsimp only); omega)
  ·
   (try simp only [bne_iff_ne, bne_eq_false_iff_eq, ne_eq] at h5)
   refine .br [.r []] ((((l.getD i default)).kind) != 2) (fun h7 => ?_) (fun h7 => ?_)
   ·
    (try simp only [bne_iff_ne, bne_eq_false_iff_eq, ne_eq] at h7)
    refine .back [.r [(3, X (Xn (a + (((l.getD i default)).n))))], .r [(0, X (Xn ((i : Int) + 1)))]] [] (ih3 (b, (a + (((l.getD i default)).n)), (i + 1)) ?_ ?_)
    ·
     obtain ⟨s1, s2, s3, s4, s5⟩ := hst
     first | rw [if_pos (by omega)] at s1 | rw [if_neg (by omega)] at s1
     first | rw [if_pos (by omega)] at s2 | rw [if_neg (by omega)] at s2
     refine ⟨by omega, by omega, by omega, by omega, by omega⟩
    ·
     ((try dsimp only); omega)
   ·
    (try simp only [bne_iff_ne, bne_eq_false_iff_eq, ne_eq] at h7)
    refine .back [.r [(0, X (Xn ((i : Int) + 1)))]] [] (ih3 (b, a, (i + 1)) ?_ ?_)
    ·
     obtain ⟨s1, s2, s3, s4, s5⟩ := hst
     first | rw [if_pos (by omega)] at s1 | rw [if_neg (by omega)] at s1
     first | rw [if_pos (by omega)] at s2 | rw [if_neg (by omega)] at s2
     refine ⟨by omega, by omega, by omega, by omega, by omega⟩
    ·
     ((try dsimp only); omega)
 ·
  (try simp only [decide_eq_true_eq, decide_eq_false_iff_not, Int.not_lt, Int.not_le] at h3)
  have e1 : ((oldI l) : Int) = b := by
   have := ex_end (l := l) (i := i) (by omega)
   rw [this] at I3
   have i1 := I3.2.2.2.1
   have i2 := I3.2.2.2.2
   simp only [oldU, newU] at i1 i2
   omega
  have e2 : ((newI l) : Int) = a := by
   have := ex_end (l := l) (i := i) (by omega)
   rw [this] at I3
   have i1 := I3.2.2.2.1
   have i2 := I3.2.2.2.2
   simp only [oldU, newU] at i1 i2
   omega
  exact .finE [.r []] [] (fun (z0, z1) => (.tup [VI z0, VI z1], [])) ((b : Int), (a : Int)) (((oldI l) : Int), ((newI l) : Int)) (pr e1 e2)

theorem fc_axLengths (l : List AxStep) (hv : Valid l) : FC Tryd.prog 23 [VL 2 stepT l] (app emp []) (.tup [VI (oldI l), VI (newI l), VI 0]) (app emp []) := by
 refine .go Tryd.f23 ?_
 refine .len 0 (fun hl0 => ?_)
 have hc := check_iff.2 hv
 refine .br [.r [], .r [(1, X (Xc0 (fc_axCheck l) X0))], .r []] ((checkX l) != 0) (fun h2 => ?_) (fun h2 => ?_)
 ·
  (try simp only [bne_iff_ne, bne_eq_false_iff_eq, ne_eq] at h2)
  exfalso
  omega
 ·
  (try simp only [bne_iff_ne, bne_eq_false_iff_eq, ne_eq] at h2)
  exact .fin [.r [(1, X (Xc0 (fc_axLens l (by assumption)) X0))], .r []] []

def sameX (a b : List AxStep) (i : Nat) : Bool :=
  if i < a.length then (if (a.getD i default).kind = (b.getD i default).kind ∧ (a.getD i default).n = (b.getD i default).n then sameX a b (i + 1) else false) else true
termination_by a.length - i
def sameS (a b : List AxStep) : Bool := decide (a.length = b.length) && sameX a b 0
def kindR (l : List AxStep) : Int := if l.length = 0 then -1 else (l.getD 0 default).kind
def tkS (l : List AxStep) (u n : Int) : List AxStep := if u + n = (l.getD 0 default).n then l.drop 1 else l
def tkU (l : List AxStep) (u n : Int) : Int := if u + n = (l.getD 0 default).n then 0 else u + n

end Go.Ch
end
section
set_option linter.unusedVariables false
set_option linter.unusedSimpArgs false
namespace Go.Ch
open Go Go.Ab

theorem tk_len (l : List AxStep) (u n : Int) : (ex (tkS l u n)).length ≤ (ex l).length := by
  unfold tkS
  split
  · cases l with
    | nil => simp
    | cons s l => simp [ex]
  · exact Nat.le_refl _
theorem tk_ok {l : List AxStep} {u n : Int} (h : GoodR l u) (h0 : 0 < l.length) (hn : 0 ≤ n) (hl : n ≤ (l.getD 0 default).n - u) :
    GoodR (tkS l u n) (tkU l u n) ∧ rep n.toNat (uOf (l.getD 0 default).kind) ++ ru (tkS l u n) (tkU l u n) = ru l u := by
  obtain ⟨a, b⟩ := h.take h0 hn hl
  unfold tkS tkU
  by_cases e : u + n = (l.getD 0 default).n
  · rw [if_pos e, if_pos e]; exact a e
  · rw [if_neg e, if_neg e]; exact b e

structure JI (w : Wr) (ps : List AxStep) (pu : Int) (qs : List AxStep) (qu : Int) (T : Nat) (G : Wr) : Prop where
  gw : GoodW w
  gp : GoodR ps pu
  gq : GoodR qs qu
  eq : newU (ru ps pu) = oldU (ru qs qu)
  len : (exW w).length + (ru ps pu).length + (ru qs qu).length ≤ T
  fin : foldW w (joinU (ru ps pu) (ru qs qu)) = G
  lp : (ex ps).length ≤ T
  lq : (ex qs).length ≤ T
def jm (ps : List AxStep) (pu : Int) (qs : List AxStep) (qu : Int) : Nat := (ru ps pu).length + (ru qs qu).length
theorem len_rep {n : Int} {k : Int} {u v : List U} (hn : 0 ≤ n) (h : rep n.toNat (uOf k) ++ u = v) : (u.length : Int) + n = v.length := by
  have := congrArg List.length h
  simp only [List.length_append, List.length_replicate] at this
  omega
section
variable {w : Wr} {ps qs : List AxStep} {pu qu : Int} {T : Nat} {G : Wr}
theorem JI.cut (h : JI w ps pu qs qu T G) (h0 : 0 < ps.length) (hk : (ps.getD 0 default).kind = 2) :
    JI (putW w 2 ((ps.getD 0 default).n - pu)) (tkS ps pu ((ps.getD 0 default).n - pu)) (tkU ps pu ((ps.getD 0 default).n - pu)) qs qu T G ∧
    jm (tkS ps pu ((ps.getD 0 default).n - pu)) (tkU ps pu ((ps.getD 0 default).n - pu)) qs qu < jm ps pu qs qu := by
  have hl := h.gp.lt h0
  obtain ⟨g, e⟩ := tk_ok (n := (ps.getD 0 default).n - pu) h.gp h0 (by omega) (Int.le_refl _)
  have tl := tk_len ps pu ((ps.getD 0 default).n - pu)
  generalize hn : (ps.getD 0 default).n - pu = n at *
  generalize tkS ps pu n = ps' at *
  generalize tkU ps pu n = pu' at *
  rw [hk, uOf2] at e
  have e2 := len_rep (k := 2) (by omega) e
  obtain ⟨p1, p2, p3⟩ := putW_ok (k := 2) (n := n) h.gw (by decide) (by omega)
  have hlen := h.len
  refine ⟨⟨p1, g, h.gq, ?_, by omega, ?_, Nat.le_trans tl h.lp, h.lq⟩, by unfold jm; omega⟩
  · rw [← h.eq, ← e, new_C]
  · rw [← h.fin, ← e, jc_C, foldW_app, ← uOf2, putI (by decide) (by omega)]
theorem JI.add (h : JI w ps pu qs qu T G) (hp : 0 < ps.length → (ps.getD 0 default).kind ≠ 2) (h0 : 0 < qs.length) (hk : (qs.getD 0 default).kind = 1) :
    JI (putW w 1 ((qs.getD 0 default).n - qu)) ps pu (tkS qs qu ((qs.getD 0 default).n - qu)) (tkU qs qu ((qs.getD 0 default).n - qu)) T G ∧
    jm ps pu (tkS qs qu ((qs.getD 0 default).n - qu)) (tkU qs qu ((qs.getD 0 default).n - qu)) < jm ps pu qs qu := by
  have hl := h.gq.lt h0
  obtain ⟨g, e⟩ := tk_ok (n := (qs.getD 0 default).n - qu) h.gq h0 (by omega) (Int.le_refl _)
  have tl := tk_len qs qu ((qs.getD 0 default).n - qu)
  generalize hn : (qs.getD 0 default).n - qu = n at *
  generalize tkS qs qu n = qs' at *
  generalize tkU qs qu n = qu' at *
  rw [hk, uOf1] at e
  have e2 := len_rep (k := 1) (by omega) e
  obtain ⟨p1, p2, p3⟩ := putW_ok (k := 1) (n := n) h.gw (by decide) (by omega)
  have hlen := h.len
  refine ⟨⟨p1, h.gp, g, ?_, by omega, ?_, h.lp, Nat.le_trans tl h.lq⟩, by unfold jm; omega⟩
  · rw [h.eq, ← e, old_A]
  · rw [← h.fin, ← e, jc_A _ (noC_ru h.gp hp), foldW_app, ← uOf1, putI (by decide) (by omega)]
theorem JI.two (h : JI w ps pu qs qu T G) (hp : 0 < ps.length → (ps.getD 0 default).kind ≠ 2) (hq : 0 < qs.length → (qs.getD 0 default).kind ≠ 1) (h0 : 0 < ps.length ∨ 0 < qs.length) : 0 < ps.length ∧ 0 < qs.length := by
  have heq := h.eq
  by_cases a : 0 < ps.length
  · refine ⟨a, ?_⟩
    by_cases b : 0 < qs.length
    · exact b
    · exfalso
      rw [ru_nil (l := qs) (by omega), ru_cons h.gp a] at heq
      have := new_rep ((ps.getD 0 default).n - pu).toNat (ps.getD 0 default).kind (ex (ps.drop 1))
      rw [if_neg (hp a)] at this
      have := h.gp.lt a
      simp only [oldU] at heq
      omega
  · exfalso
    have b : 0 < qs.length := by omega
    rw [ru_nil (l := ps) (by omega), ru_cons h.gq b] at heq
    have := old_rep ((qs.getD 0 default).n - qu).toNat (qs.getD 0 default).kind (ex (qs.drop 1))
    rw [if_neg (hq b)] at this
    have := h.gq.lt b
    simp only [newU] at heq
    omega
theorem JI.both (h : JI w ps pu qs qu T G) (a : 0 < ps.length) (b : 0 < qs.length) (hp : (ps.getD 0 default).kind ≠ 2) (hq : (qs.getD 0 default).kind ≠ 1) {n : Int} (hn : n = min ((ps.getD 0 default).n - pu) ((qs.getD 0 default).n - qu)) :
    JI (if (ps.getD 0 default).kind = 0 then putW w (qs.getD 0 default).kind n else if (qs.getD 0 default).kind = 0 then putW w 1 n else w) (tkS ps pu n) (tkU ps pu n) (tkS qs qu n) (tkU qs qu n) T G ∧
    jm (tkS ps pu n) (tkU ps pu n) (tkS qs qu n) (tkU qs qu n) < jm ps pu qs qu := by
  have hl := h.gp.lt a
  have hl2 := h.gq.lt b
  have okp := h.gp.ok a
  have okq := h.gq.ok b
  obtain ⟨g1, e1⟩ := tk_ok (n := n) h.gp a (by omega) (by omega)
  obtain ⟨g2, e2⟩ := tk_ok (n := n) h.gq b (by omega) (by omega)
  have tl1 := tk_len ps pu n
  have tl2 := tk_len qs qu n
  have n0 : 1 ≤ n := by omega
  clear hn
  generalize tkS ps pu n = ps' at *
  generalize tkU ps pu n = pu' at *
  generalize tkS qs qu n = qs' at *
  generalize tkU qs qu n = qu' at *
  have l1 := len_rep (by omega) e1
  have l2 := len_rep (by omega) e2
  have hlen := h.len
  have heq := h.eq
  have hfin := h.fin
  rw [← e1, ← e2] at heq hfin
  have t1 := new_rep n.toNat (ps.getD 0 default).kind (ru ps' pu')
  have t2 := old_rep n.toNat (qs.getD 0 default).kind (ru qs' qu')
  rw [if_neg hp] at t1
  rw [if_neg hq] at t2
  have heq' : newU (ru ps' pu') = oldU (ru qs' qu') := by omega
  refine ⟨?_, by unfold jm; omega⟩
  by_cases kp : (ps.getD 0 default).kind = 0
  · rw [if_pos kp]
    obtain ⟨p1, p2, p3⟩ := putW_ok (k := (qs.getD 0 default).kind) (n := n) h.gw ⟨okq.1, okq.2.1⟩ (by omega)
    refine ⟨p1, g1, g2, heq', by omega, ?_, Nat.le_trans tl1 h.lp, Nat.le_trans tl2 h.lq⟩
    rw [kp, uOf0, jc_K _ _ hq, foldW_app, putI ⟨okq.1, okq.2.1⟩ (by omega)] at hfin
    exact hfin
  · rw [if_neg kp]
    have kp1 : (ps.getD 0 default).kind = 1 := by have := okp.1; have := okp.2.1; omega
    rw [kp1, uOf1] at hfin
    by_cases kq : (qs.getD 0 default).kind = 0
    · rw [if_pos kq]
      obtain ⟨p1, p2, p3⟩ := putW_ok (k := 1) (n := n) h.gw (by decide) (by omega)
      refine ⟨p1, g1, g2, heq', by omega, ?_, Nat.le_trans tl1 h.lp, Nat.le_trans tl2 h.lq⟩
      rw [kq, uOf0, jc_AK, foldW_app, ← uOf1, putI (by decide) (by omega)] at hfin
      exact hfin
    · rw [if_neg kq]
      have kq2 : (qs.getD 0 default).kind = 2 := by have := okq.1; have := okq.2.1; omega
      refine ⟨h.gw, g1, g2, heq', by omega, ?_, Nat.le_trans tl1 h.lp, Nat.le_trans tl2 h.lq⟩
      rw [kq2, uOf2, jc_AC] at hfin
      exact hfin
theorem JI.done (h : JI w ps pu qs qu T G) (a : ps.length = 0) (b : qs.length = 0) : w = G := by
  have := h.fin
  rw [ru_nil a, ru_nil b] at this
  simpa [joinU, foldW] using this
end
def joinX (a b : List AxStep) : List AxStep := doneW (joinU (ex a) (ex b))
theorem JI.start {a b : List AxStep} (va : Valid a) (vb : Valid b) (hm : newI a = oldI b) : JI ⟨[], 0, 0⟩ a 0 b 0 ((ex a).length + (ex b).length) (foldW ⟨[], 0, 0⟩ (joinU (ex a) (ex b))) ∧ (ex a).length + (ex b).length ≤ 8589934588 := by
  have h1 := ex_len a
  have h2 := ex_len b
  refine ⟨⟨good0, good_r va.1, good_r vb.1, ?_, by rw [ru0, ru0]; simp [exW, ex], by rw [ru0, ru0], by omega, by omega⟩, by have := va.2.1; have := va.2.2; have := vb.2.1; have := vb.2.2; omega⟩
  rw [ru0, ru0]; unfold newI oldI at hm; omega

/-! ### Two writers -/
structure PI (x y : Wr) (ps : List AxStep) (pu : Int) (qs : List AxStep) (qu : Int) (T : Nat) (G1 G2 : Wr) : Prop where
  gx : GoodW x
  gy : GoodW y
  gp : GoodR ps pu
  gq : GoodR qs qu
  eq : oldU (ru ps pu) = oldU (ru qs qu)
  len1 : (exW x).length + (ru ps pu).length + (ru qs qu).length ≤ T
  len2 : (exW y).length + (ru ps pu).length + (ru qs qu).length ≤ T
  fin1 : foldW x (pairU (ru ps pu) (ru qs qu)).1 = G1
  fin2 : foldW y (pairU (ru ps pu) (ru qs qu)).2 = G2
  lp : (ex ps).length ≤ T
  lq : (ex qs).length ≤ T
section
variable {x y : Wr} {ps qs : List AxStep} {pu qu : Int} {T : Nat} {G1 G2 : Wr}
theorem PI.addQ (h : PI x y ps pu qs qu T G1 G2) (hp : 0 < ps.length → (ps.getD 0 default).kind ≠ 1) (h0 : 0 < qs.length) (hk : (qs.getD 0 default).kind = 1) :
    PI (putW x 0 ((qs.getD 0 default).n - qu)) (putW y 1 ((qs.getD 0 default).n - qu)) ps pu (tkS qs qu ((qs.getD 0 default).n - qu)) (tkU qs qu ((qs.getD 0 default).n - qu)) T G1 G2 ∧
    jm ps pu (tkS qs qu ((qs.getD 0 default).n - qu)) (tkU qs qu ((qs.getD 0 default).n - qu)) < jm ps pu qs qu := by
  have hl := h.gq.lt h0
  obtain ⟨g, e⟩ := tk_ok (n := (qs.getD 0 default).n - qu) h.gq h0 (by omega) (Int.le_refl _)
  have tl := tk_len qs qu ((qs.getD 0 default).n - qu)
  generalize hn : (qs.getD 0 default).n - qu = n at *
  generalize tkS qs qu n = qs' at *
  generalize tkU qs qu n = qu' at *
  rw [hk, uOf1] at e
  have e2 := len_rep (k := 1) (by omega) e
  obtain ⟨p1, p2, p3⟩ := putW_ok (k := 0) (n := n) h.gx (by decide) (by omega)
  obtain ⟨r1, r2, r3⟩ := putW_ok (k := 1) (n := n) h.gy (by decide) (by omega)
  have hlen := h.len1
  have hlen2 := h.len2
  have f1 := h.fin1
  have f2 := h.fin2
  rw [← e, pc_B _ (noA_ru h.gp hp), foldW_app, ← uOf0, putI (by decide) (by omega)] at f1
  rw [← e, pc_B _ (noA_ru h.gp hp), foldW_app, ← uOf1, putI (by decide) (by omega)] at f2
  refine ⟨⟨p1, r1, h.gp, g, ?_, by omega, by omega, f1, f2, h.lp, Nat.le_trans tl h.lq⟩, by unfold jm; omega⟩
  rw [h.eq, ← e, old_A]
theorem PI.two (h : PI x y ps pu qs qu T G1 G2) (hp : 0 < ps.length → (ps.getD 0 default).kind ≠ 1) (hq : 0 < qs.length → (qs.getD 0 default).kind ≠ 1) (h0 : 0 < ps.length ∨ 0 < qs.length) : 0 < ps.length ∧ 0 < qs.length := by
  have heq := h.eq
  by_cases a : 0 < ps.length
  · refine ⟨a, ?_⟩
    by_cases b : 0 < qs.length
    · exact b
    · exfalso
      rw [ru_nil (l := qs) (by omega), ru_cons h.gp a] at heq
      have := old_rep ((ps.getD 0 default).n - pu).toNat (ps.getD 0 default).kind (ex (ps.drop 1))
      rw [if_neg (hp a)] at this
      have := h.gp.lt a
      simp only [oldU] at heq
      omega
  · exfalso
    have b : 0 < qs.length := by omega
    rw [ru_nil (l := ps) (by omega), ru_cons h.gq b] at heq
    have := old_rep ((qs.getD 0 default).n - qu).toNat (qs.getD 0 default).kind (ex (qs.drop 1))
    rw [if_neg (hq b)] at this
    have := h.gq.lt b
    simp only [oldU] at heq
    omega
theorem PI.both (h : PI x y ps pu qs qu T G1 G2) (a : 0 < ps.length) (b : 0 < qs.length) (hp : (ps.getD 0 default).kind ≠ 1) (hq : (qs.getD 0 default).kind ≠ 1) {n : Int} (hn : n = min ((ps.getD 0 default).n - pu) ((qs.getD 0 default).n - qu)) :
    PI (if (qs.getD 0 default).kind = 0 then putW x (ps.getD 0 default).kind n else x) (if (ps.getD 0 default).kind = 0 then putW y (qs.getD 0 default).kind n else y) (tkS ps pu n) (tkU ps pu n) (tkS qs qu n) (tkU qs qu n) T G1 G2 ∧
    jm (tkS ps pu n) (tkU ps pu n) (tkS qs qu n) (tkU qs qu n) < jm ps pu qs qu := by
  have hl := h.gp.lt a
  have hl2 := h.gq.lt b
  have okp := h.gp.ok a
  have okq := h.gq.ok b
  obtain ⟨g1, e1⟩ := tk_ok (n := n) h.gp a (by omega) (by omega)
  obtain ⟨g2, e2⟩ := tk_ok (n := n) h.gq b (by omega) (by omega)
  have tl1 := tk_len ps pu n
  have tl2 := tk_len qs qu n
  have n0 : 1 ≤ n := by omega
  clear hn
  generalize tkS ps pu n = ps' at *
  generalize tkU ps pu n = pu' at *
  generalize tkS qs qu n = qs' at *
  generalize tkU qs qu n = qu' at *
  have l1 := len_rep (by omega) e1
  have l2 := len_rep (by omega) e2
  have hlen := h.len1
  have hlen2 := h.len2
  have heq := h.eq
  have f1 := h.fin1
  have f2 := h.fin2
  rw [← e1, ← e2, pc_XX _ _ _ hp hq] at f1 f2
  rw [← e1, ← e2] at heq
  have t1 := old_rep n.toNat (ps.getD 0 default).kind (ru ps' pu')
  have t2 := old_rep n.toNat (qs.getD 0 default).kind (ru qs' qu')
  rw [if_neg hp] at t1
  rw [if_neg hq] at t2
  have heq' : oldU (ru ps' pu') = oldU (ru qs' qu') := by omega
  obtain ⟨p1, p2, p3⟩ := putW_ok (k := (ps.getD 0 default).kind) (n := n) h.gx ⟨okp.1, okp.2.1⟩ (by omega)
  obtain ⟨r1, r2, r3⟩ := putW_ok (k := (qs.getD 0 default).kind) (n := n) h.gy ⟨okq.1, okq.2.1⟩ (by omega)
  have kq : (qs.getD 0 default).kind = 0 ∨ (qs.getD 0 default).kind = 2 := by have := okq.1; have := okq.2.1; omega
  have kp : (ps.getD 0 default).kind = 0 ∨ (ps.getD 0 default).kind = 2 := by have := okp.1; have := okp.2.1; omega
  refine ⟨⟨?_, ?_, g1, g2, heq', ?_, ?_, ?_, ?_, Nat.le_trans tl1 h.lp, Nat.le_trans tl2 h.lq⟩, by unfold jm; omega⟩
  · split; exact p1; exact h.gx
  · split; exact r1; exact h.gy
  · split <;> omega
  · split <;> omega
  · rcases kq with k | k
    · rw [if_neg (show ¬ (qs.getD 0 default).kind = 2 by omega), foldW_app, putI ⟨okp.1, okp.2.1⟩ (by omega)] at f1; rw [if_pos k]; exact f1
    · rw [if_pos k] at f1; rw [if_neg (show ¬ (qs.getD 0 default).kind = 0 by omega)]; exact f1
  · rcases kp with k | k
    · rw [if_neg (show ¬ (ps.getD 0 default).kind = 2 by omega), foldW_app, putI ⟨okq.1, okq.2.1⟩ (by omega)] at f2; rw [if_pos k]; exact f2
    · rw [if_pos k] at f2; rw [if_neg (show ¬ (ps.getD 0 default).kind = 0 by omega)]; exact f2
theorem PI.done (h : PI x y ps pu qs qu T G1 G2) (a : ps.length = 0) (b : qs.length = 0) : x = G1 ∧ y = G2 := by
  have f1 := h.fin1
  have f2 := h.fin2
  rw [ru_nil a, ru_nil b] at f1 f2
  simp only [pairU, foldW] at f1 f2
  exact ⟨f1, f2⟩
end
def pairX1 (a b : List AxStep) : List AxStep := doneW (pairU (ex a) (ex b)).1
def pairX2 (a b : List AxStep) : List AxStep := doneW (pairU (ex a) (ex b)).2
theorem PI.start {a b : List AxStep} (va : Valid a) (vb : Valid b) (hm : oldI a = oldI b) : PI ⟨[], 0, 0⟩ ⟨[], 0, 0⟩ a 0 b 0 ((ex a).length + (ex b).length) (foldW ⟨[], 0, 0⟩ (pairU (ex a) (ex b)).1) (foldW ⟨[], 0, 0⟩ (pairU (ex a) (ex b)).2) ∧ (ex a).length + (ex b).length ≤ 8589934588 := by
  have h1 := ex_len a
  have h2 := ex_len b
  refine ⟨⟨good0, good0, good_r va.1, good_r vb.1, ?_, by rw [ru0, ru0]; simp [exW, ex], by rw [ru0, ru0]; simp [exW, ex], by rw [ru0, ru0], by rw [ru0, ru0], by omega, by omega⟩, by have := va.2.1; have := va.2.2; have := vb.2.1; have := vb.2.2; omega⟩
  rw [ru0, ru0]; unfold oldI at hm; omega

/-! ### Undo -/
def swU : U → U
  | .K => .K
  | .A => .C
  | .C => .A
def undoX (a : List AxStep) : List AxStep := doneW ((ex a).map swU)
theorem swU_kind {k : Int} (h : 0 ≤ k ∧ k ≤ 2) : swU (uOf k) = uOf (([0, 2, 1] : List Int).getD k.toNat default) ∧ 0 ≤ ([0, 2, 1] : List Int).getD k.toNat default ∧ ([0, 2, 1] : List Int).getD k.toNat default ≤ 2 := by
  have : k = 0 ∨ k = 1 ∨ k = 2 := by omega
  rcases this with rfl | rfl | rfl <;> exact ⟨rfl, by decide, by decide⟩
structure UI (a : List AxStep) (w : Wr) (i : Nat) : Prop where
  gw : GoodW w
  len : (exW w).length + (ex (a.drop i)).length ≤ (ex a).length
  fin : foldW w ((ex (a.drop i)).map swU) = foldW ⟨[], 0, 0⟩ ((ex a).map swU)
theorem UI.start (a : List AxStep) : UI a ⟨[], 0, 0⟩ 0 := ⟨good0, by simp [exW, ex], rfl⟩
theorem UI.next {a : List AxStep} {w : Wr} {i : Nat} (h : UI a w i) (hf : Form a) (hi : i < a.length) : UI a (putW w (([0, 2, 1] : List Int).getD (a.getD i default).kind.toNat default) (a.getD i default).n) (i + 1) ∧
    0 ≤ (a.getD i default).kind ∧ (a.getD i default).kind ≤ 2 ∧ 1 ≤ (a.getD i default).n ∧ ((exW w).length : Int) + (a.getD i default).n ≤ (ex a).length ∧ 0 ≤ ([0, 2, 1] : List Int).getD (a.getD i default).kind.toNat default ∧ ([0, 2, 1] : List Int).getD (a.getD i default).kind.toNat default ≤ 2 := by
  have ok := ((at_of_form hf) i (Nat.zero_le _) hi).1
  obtain ⟨k1, k2, k3⟩ := swU_kind ⟨ok.1, ok.2.1⟩
  have e := ex_at hi
  have hlen := h.len
  rw [e] at hlen
  simp only [List.length_append, List.length_replicate] at hlen
  have hn := ok.2.2
  obtain ⟨p1, p2, p3⟩ := putW_ok (k := ([0, 2, 1] : List Int).getD (a.getD i default).kind.toNat default) (n := (a.getD i default).n) h.gw ⟨k2, k3⟩ (by omega)
  refine ⟨⟨p1, by omega, ?_⟩, ok.1, ok.2.1, hn, by omega, k2, k3⟩
  have f := h.fin
  rw [e, List.map_append, List.map_replicate, k1, foldW_app, putI ⟨k2, k3⟩ (by omega)] at f
  exact f
theorem UI.done {a : List AxStep} {w : Wr} {i : Nat} (h : UI a w i) (hi : a.length ≤ i) : w = foldW ⟨[], 0, 0⟩ ((ex a).map swU) := by
  have f := h.fin
  rw [ex_end hi] at f
  exact f
end Go.Ch
end
section
set_option linter.unusedVariables false
set_option linter.unusedSimpArgs false
set_option maxRecDepth 100000
set_option maxHeartbeats 4000000
open Go Go.Proofs Go.Ab
namespace Go.Ch
end Go.Ch
end
section
set_option linter.unusedVariables false
set_option linter.unusedSimpArgs false
set_option maxRecDepth 100000
set_option maxHeartbeats 4000000
open Go Go.Proofs Go.Ab
namespace Go.Ch
end Go.Ch
end
section
set_option linter.unusedVariables false
set_option linter.unusedSimpArgs false
namespace Go.Ch
open Go Go.Ab

/-! ### Steps of units -/
theorem segE_cls (u : List Int) (i k : Nat) (hik : i ≤ k) (h : ∀ j, i ≤ j → j < k → (u.getD j default = 0 ↔ u.getD i default = 0)) : (∀ j, i ≤ j → j < segE u i k → (u.getD j default = 0 ↔ u.getD i default = 0)) ∧
    (segE u i k < u.length → ¬ (u.getD (segE u i k) default = 0 ↔ u.getD i default = 0)) := by
  induction k using segE.induct (u := u) (i := i) with
  | case1 k hc ih =>
    rw [segE, if_pos hc]
    refine ih (by omega) (fun j h1 h2 => ?_)
    by_cases e : j = k
    · subst e; exact hc.2
    · exact h j h1 (by omega)
  | case2 k hc =>
    rw [segE, if_neg hc]
    exact ⟨h, fun hk hh => hc ⟨hk, hh⟩⟩
def segL (u : List Int) (i k : Nat) : List Int := (u.drop i).take (k - i)
theorem segL_mem {u : List Int} {i k : Nat} (hk : k ≤ u.length) {x : Int} (h : x ∈ segL u i k) : ∃ j, i ≤ j ∧ j < k ∧ u.getD j default = x := by
  unfold segL at h
  obtain ⟨m, hm, e⟩ := List.mem_iff_getElem.1 h
  simp only [List.length_take, List.length_drop] at hm
  refine ⟨i + m, by omega, by omega, ?_⟩
  rw [← e]
  simp [List.getD, List.getElem?_eq_getElem (show i + m < u.length by omega)]
theorem take_seg {u : List Int} {i k : Nat} (h : i ≤ k) : u.take k = u.take i ++ segL u i k := by
  unfold segL
  rw [show k = i + (k - i) by omega, List.take_add]
  simp
theorem sw_seg : ∀ {l : List Int}, (∀ x ∈ l, x = 1 ∨ x = 2) → Sw (l.map uOf) (rep (l.countP fun y => decide (y = 1)) .A ++ rep (l.countP fun y => decide (y = 2)) .C)
  | [], _ => .refl _
  | x :: l, h => by
    have ih := sw_seg (l := l) (fun y hy => h y (by simp [hy]))
    rcases h x (by simp) with rfl | rfl
    · simp only [List.map_cons, List.countP_cons]
      exact .cons _ ih
    · simp only [List.map_cons, List.countP_cons]
      refine .trans (.cons _ ih) ?_
      have := sw_C_As (l.countP fun y => decide (y = 1)) (rep (l.countP fun y => decide (y = 2)) .C)
      exact this
theorem seg_zero : ∀ {l : List Int}, (∀ x ∈ l, x = 0) → l.map uOf = rep l.length .K ∧ (l.countP fun y => decide (y = 0)) = l.length ∧ (l.countP fun y => decide (y = 1)) = 0 ∧ (l.countP fun y => decide (y = 2)) = 0
  | [], _ => ⟨rfl, rfl, rfl, rfl⟩
  | x :: l, h => by
    obtain ⟨a, b, c, d⟩ := seg_zero (l := l) (fun y hy => h y (by simp [hy]))
    have := h x (by simp)
    subst this
    refine ⟨by rw [List.map_cons, a]; rfl, by simp [List.countP_cons, b], by simp [List.countP_cons, c], by simp [List.countP_cons, d]⟩
theorem seg_nz : ∀ {l : List Int}, (∀ x ∈ l, x = 1 ∨ x = 2) → (l.countP fun y => decide (y = 0)) = 0 ∧ (l.countP fun y => decide (y = 1)) + (l.countP fun y => decide (y = 2)) = l.length
  | [], _ => ⟨rfl, rfl⟩
  | x :: l, h => by
    obtain ⟨a, b⟩ := seg_nz (l := l) (fun y hy => h y (by simp [hy]))
    rcases h x (by simp) with rfl | rfl
    · exact ⟨by simp [List.countP_cons, a], by simp [List.countP_cons]; omega⟩
    · exact ⟨by simp [List.countP_cons, a], by simp [List.countP_cons]; omega⟩
theorem ex_o1 (k : Int) (n : Nat) : ex (o1 k n) = rep n (uOf k) := by
  unfold o1
  split
  · simp [ex]
  · rw [show n = 0 by omega]; rfl
structure StI (u : List Int) (i : Nat) (out : List AxStep) : Prop where
  form : Form out
  sw : Sw (ex out) ((u.take i).map uOf)
  link : i < u.length → ∀ t, out.getLast? = some t → (t.kind = 0 ↔ u.getD i default ≠ 0)
theorem stepsL_ok {u : List Int} (hu : U3 u) : ∀ (m i : Nat) (out : List AxStep), u.length - i = m → i ≤ u.length → StI u i out → Form (stepsL u i out) ∧ Sw (ex (stepsL u i out)) (u.map uOf) := by
  intro m
  induction m using Nat.strongRecOn with
  | _ m ih =>
    intro i out hm hi h
    rw [stepsL]
    by_cases hlt : i < u.length
    rotate_left
    · rw [dif_neg hlt]
      have : u.take i = u := List.take_of_length_le (by omega)
      exact ⟨h.form, this ▸ h.sw⟩
    rw [dif_pos hlt]
    have hg := segE_gt u i hlt
    have hle := segE_le u i i hi
    obtain ⟨c1, c2⟩ := segE_cls u i i (Nat.le_refl _) (fun j h1 h2 => by omega)
    generalize segE u i i = k at *
    refine ih (u.length - k) (by omega) k _ rfl hle ?_
    have hu3 := hu3_of hu hlt
    have hmem : ∀ x ∈ segL u i k, (x = 0 ↔ u.getD i default = 0) ∧ (x = 0 ∨ x = 1 ∨ x = 2) := by
      intro x hx
      obtain ⟨j, j1, j2, e⟩ := segL_mem hle hx
      rw [← e]
      exact ⟨c1 j j1 j2, hu3_of hu (by omega)⟩
    have hsl : (segL u i k).length = k - i := by unfold segL; simp; omega
    have hc : ∀ x, cntX u i k x = (segL u i k).countP fun y => decide (y = x) := fun x => rfl
    rw [hc, hc, hc]
    have htk := take_seg (u := u) (Nat.le_of_lt hg)
    by_cases h0 : u.getD i default = 0
    · obtain ⟨s1, s2, s3, s4⟩ := seg_zero (l := segL u i k) (fun x hx => (hmem x hx).1.2 h0)
      rw [s2, s3, s4]
      have eo : o3 (segL u i k).length 0 0 = [⟨0, ((segL u i k).length : Int)⟩] := by
        unfold o3 o1; rw [if_pos (by omega)]; rfl
      rw [eo]
      refine ⟨form_snoc h.form (ok1_mk (by decide) (by omega)) (fun t ht => ?_), ?_, fun hk t ht => ?_⟩
      · have := h.link hlt t ht
        exact nx_mk (fun e => this.1 e h0) (by omega)
      · rw [htk, List.map_append, s1, ex_app]
        refine .trans (.right _ h.sw) (.of_eq ?_)
        simp [ex, uOf]
      · rw [List.getLast?_concat] at ht
        cases ht
        refine ⟨fun _ e => c2 hk ⟨fun _ => h0, fun _ => e⟩, fun _ => rfl⟩
    · have hnz : ∀ x ∈ segL u i k, x = 1 ∨ x = 2 := fun x hx => by
        obtain ⟨q1, q2⟩ := hmem x hx
        rcases q2 with q | q | q
        · exact absurd (q1.1 q) h0
        · exact .inl q
        · exact .inr q
      obtain ⟨z1, z2⟩ := seg_nz hnz
      have sw := sw_seg hnz
      rw [z1]
      generalize ((segL u i k).countP fun y => decide (y = 1)) = p at *
      generalize ((segL u i k).countP fun y => decide (y = 2)) = q at *
      have hlast : ∀ t, out.getLast? = some t → t.kind = 0 := fun t ht => (h.link hlt t ht).2 h0
      have f1 : Form (out ++ o1 1 p) := by
        unfold o1
        split
        · exact form_snoc h.form (ok1_mk (by decide) (by omega)) (fun t ht => nx_mk (by rw [hlast t ht]; decide) (by rw [hlast t ht]; decide))
        · rw [List.append_nil]; exact h.form
      have l1 : ∀ t, (out ++ o1 1 p).getLast? = some t → t.kind = 0 ∨ t.kind = 1 := by
        intro t ht
        unfold o1 at ht
        split at ht
        · rw [List.getLast?_concat] at ht; cases ht; exact .inr rfl
        · rw [List.append_nil] at ht; exact .inl (hlast t ht)
      have f2 : Form (out ++ o1 1 p ++ o1 2 q) := by
        unfold o1 at f1 l1 ⊢
        by_cases hq : 0 < q
        · rw [if_pos hq]
          exact form_snoc f1 (ok1_mk (by decide) (by omega)) (fun t ht => nx_mk (by rcases l1 t ht with e | e <;> rw [e] <;> decide) (by rcases l1 t ht with e | e <;> rw [e] <;> decide))
        · rw [if_neg hq, List.append_nil]; exact f1
      have eo : out ++ o3 0 p q = out ++ o1 1 p ++ o1 2 q := by unfold o3; simp [o1]
      rw [eo]
      refine ⟨f2, ?_, fun hk t ht => ?_⟩
      · rw [htk, List.map_append, ex_app, ex_app, ex_o1, ex_o1, List.append_assoc]
        exact .trans (.left _ (.symm sw)) (.right _ h.sw)
      · have hk2 : u.getD k default = 0 := by
          refine Classical.byContradiction fun e => c2 hk ⟨fun e' => absurd e' e, fun e' => absurd e' h0⟩
        have : t.kind ≠ 0 := by
          unfold o1 at ht
          by_cases hq : 0 < q
          · rw [if_pos hq, List.getLast?_concat] at ht; cases ht; simp only; decide
          · rw [if_neg hq, List.append_nil] at ht
            rw [if_pos (by omega), List.getLast?_concat] at ht; cases ht; simp only; decide
        exact ⟨fun e => absurd e this, fun e => absurd hk2 e⟩

/-! ### Fitting changes -/
theorem old_app (a b : List U) : oldU (a ++ b) = oldU a + oldU b := by
  induction a with
  | nil => simp [oldU]
  | cons x a ih => cases x <;> simp only [List.cons_append, oldU, ih] <;> omega
theorem new_len (u : List U) : newU u ≤ u.length := by
  induction u with
  | nil => simp [newU]
  | cons x u ih => cases x <;> simp only [newU, List.length_cons] <;> omega
theorem fitA_ok {u : List Int} {v : Int} (h : U3 u) (hv : v ≤ 5) : U3 (fitA u v) ∧ oldU ((fitA u v).map uOf) = oldU (u.map uOf) ∧ (fitA u v).length ≤ u.length + 2 := by
  unfold fitA
  refine ⟨h.app (U3.reps _), ?_, by simp; omega⟩
  rw [List.map_append, old_app, List.map_replicate]
  have := old_A (max 0 (v - 3)).toNat []
  simp only [List.append_nil, oldU] at this
  show _ + oldU (rep _ (uOf 1)) = _
  rw [uOf1, this]; rfl
theorem fitL_ok (raw : List Int) : ∀ (r : Nat) (used : Int) (u : List Int), U3 u → U3 (fitL raw r used u).1 ∧ oldU ((fitL raw r used u).1.map uOf) = oldU (u.map uOf) + r ∧ (fitL raw r used u).1.length ≤ u.length + 3 * r
  | 0, used, u, h => ⟨h, rfl, by simp [fitL]⟩
  | r + 1, used, u, h => by
    rw [fitL]
    have v1 := rollV_bd raw used (n := 6) (by decide)
    obtain ⟨a1, a2, a3⟩ := fitA_ok (v := rollV raw used 6) h (by omega)
    have hx : U3 [if rollV raw (rollU raw used) 6 = 0 then (2 : Int) else 0] := U3.one (by split <;> decide)
    obtain ⟨b1, b2, b3⟩ := fitL_ok raw r (rollU raw (rollU raw used)) _ (a1.app hx)
    refine ⟨b1, ?_, ?_⟩
    · rw [b2, List.map_append, old_app, a2]
      have : oldU ([if rollV raw (rollU raw used) 6 = 0 then (2 : Int) else 0].map uOf) = 1 := by
        split <;> rfl
      rw [this]; omega
    · simp only [List.length_append, List.length_cons, List.length_nil] at b3
      omega
theorem fit_ok (raw : List Int) (n : Int) (h0 : 0 ≤ n) (h1 : n ≤ 100000000) : Valid (stepsL (fitU raw n.toNat) 0 []) ∧ oldI (stepsL (fitU raw n.toNat) 0 []) = n ∧ 0 ≤ newI (stepsL (fitU raw n.toNat) 0 []) ∧ newI (stepsL (fitU raw n.toNat) 0 []) ≤ 3 * n + 2 := by
  obtain ⟨a1, a2, a3⟩ := fitL_ok raw n.toNat 0 [] (fun x hx => (by cases hx))
  have v1 := rollV_bd raw (fitL raw n.toNat 0 []).2 (n := 6) (by decide)
  obtain ⟨b1, b2, b3⟩ := fitA_ok (v := rollV raw (fitL raw n.toNat 0 []).2 6) a1 (by omega)
  have e : fitU raw n.toNat = fitA (fitL raw n.toNat 0 []).1 (rollV raw (fitL raw n.toNat 0 []).2 6) := rfl
  rw [← e] at b1 b2 b3
  obtain ⟨f, s⟩ := stepsL_ok b1 _ 0 [] rfl (by omega) ⟨trivial, .refl _, fun _ t ht => (by cases ht)⟩
  obtain ⟨o1, o2⟩ := sw_old s
  have hl := new_len ((fitU raw n.toNat).map uOf)
  simp only [List.length_map] at hl
  simp only [List.length_nil, List.map_nil, oldU] at a2 a3
  unfold Valid oldI newI
  refine ⟨⟨f, by omega, by omega⟩, by omega, by omega, by omega⟩

/-! ### The laws -/
end Go.Ch
end
section
set_option linter.unusedVariables false
set_option linter.unusedSimpArgs false
namespace Go.Ch
open Go Go.Ab

def placeS : List AxStep → Int → Int → Int → Int
  | [], _, _, _ => -1
  | s :: l, p, fr, tq => if s.kind = 1 then placeS l p fr (tq + s.n) else if s.kind = 0 then (if p < fr + s.n then tq + p - fr else placeS l p (fr + s.n) (tq + s.n)) else (if p < fr + s.n then -1 else placeS l p (fr + s.n) tq)
def gapS : List AxStep → Int → Bool → Int → Int → Int
  | [], _, _, _, tq => tq
  | s :: l, at_, r, fr, tq => gapS l at_ r (if s.kind = 1 then fr else fr + s.n) (if s.kind = 1 ∧ (fr < at_ ∨ (fr = at_ ∧ r = true)) then tq + s.n else if s.kind = 0 then tq + min s.n (max 0 (at_ - fr)) else tq)
def hullS : List AxStep → Int → Int → Int → Int → Int → Int → Int × Int
  | [], _, _, first, last, _, _ => (first, last)
  | s :: l, f, t, first, last, old, now =>
    hullS l f t (if (s.kind = 0 ∧ max f old < min t (old + s.n)) ∧ last = 0 then now + max f old - old else first) (if s.kind = 0 ∧ max f old < min t (old + s.n) then now + min t (old + s.n) - old else last)
      (if s.kind = 1 then old else old + s.n) (if s.kind = 2 then now else now + s.n)

theorem gap_ge : ∀ {l : List AxStep} (hl : Form l) (a : Int) (r : Bool) (fr tq : Int), tq ≤ gapS l a r fr tq
  | [], _, a, r, fr, tq => Int.le_refl _
  | s :: l, hl, a, r, fr, tq => by
    have ih := gap_ge hl.tail a r (if s.kind = 1 then fr else fr + s.n) (if s.kind = 1 ∧ (fr < a ∨ (fr = a ∧ r = true)) then tq + s.n else if s.kind = 0 then tq + min s.n (max 0 (a - fr)) else tq)
    have hn := hl.head.2.2
    rw [gapS]
    refine Int.le_trans ?_ ih
    split
    · omega
    · split <;> omega
theorem gap_mono : ∀ {l : List AxStep} (hl : Form l) (a fr tq tq' : Int), tq ≤ tq' → gapS l a false fr tq ≤ gapS l a true fr tq'
  | [], _, a, fr, tq, tq', h => h
  | s :: l, hl, a, fr, tq, tq', h => by
    have hn := hl.head.2.2
    rw [gapS, gapS]
    refine gap_mono hl.tail a _ _ _ ?_
    by_cases k1 : s.kind = 1
    · by_cases c : fr < a
      · rw [if_pos ⟨k1, .inl c⟩, if_pos ⟨k1, .inl c⟩]; omega
      · have n1 : ¬ (s.kind = 1 ∧ (fr < a ∨ (fr = a ∧ false = true))) := by
          rintro ⟨_, h | h⟩
          · omega
          · cases h.2
        have k0 : ¬ s.kind = 0 := by omega
        rw [if_neg n1, if_neg k0]
        split
        · omega
        · exact h
    · rw [if_neg (show ¬ (s.kind = 1 ∧ (fr < a ∨ (fr = a ∧ false = true))) from fun e => k1 e.1), if_neg (show ¬ (s.kind = 1 ∧ (fr < a ∨ (fr = a ∧ true = true))) from fun e => k1 e.1)]
      split <;> omega
theorem gap_past : ∀ {l : List AxStep} (hl : Form l) (a : Int) (r : Bool) (fr tq : Int), a < fr → gapS l a r fr tq = tq
  | [], _, a, r, fr, tq, h => rfl
  | s :: l, hl, a, r, fr, tq, h => by
    have hn := hl.head.2.2
    rw [gapS, if_neg (by omega : ¬ (s.kind = 1 ∧ (fr < a ∨ (fr = a ∧ r = true))))]
    rw [gap_past hl.tail a r _ _ (by split <;> omega)]
    split <;> omega
/-- A row that is kept is behind what is added at its gap. -/
theorem gap_place : ∀ {l : List AxStep} (hl : Form l) (p fr tq : Int), fr ≤ p → 0 ≤ placeS l p fr tq → gapS l p true fr tq ≤ placeS l p fr tq
  | [], _, p, fr, tq, h, h0 => by simp [placeS] at h0
  | s :: l, hl, p, fr, tq, h, h0 => by
    have hn := hl.head.2.2
    have hk := kinds hl.head
    rw [placeS] at h0 ⊢
    rw [gapS]
    by_cases k1 : s.kind = 1
    · rw [if_pos k1] at h0 ⊢
      rw [if_pos k1, if_pos ⟨k1, by rcases Int.lt_or_eq_of_le h with h | h; exact .inl h; exact .inr ⟨h, rfl⟩⟩]
      exact gap_place hl.tail p fr _ h h0
    · rw [if_neg k1] at h0 ⊢
      rw [if_neg k1, if_neg (by omega : ¬ (s.kind = 1 ∧ (fr < p ∨ (fr = p ∧ true = true))))]
      by_cases k0 : s.kind = 0
      · rw [if_pos k0] at h0 ⊢
        rw [if_pos k0]
        by_cases c : p < fr + s.n
        · rw [if_pos c] at h0 ⊢
          rw [gap_past hl.tail p true _ _ (by omega)]; omega
        · rw [if_neg c] at h0 ⊢
          rw [show min s.n (max 0 (p - fr)) = s.n by omega]
          exact gap_place hl.tail p _ _ (by omega) h0
      · rw [if_neg k0] at h0 ⊢
        rw [if_neg k0]
        by_cases c : p < fr + s.n
        · rw [if_pos c] at h0; omega
        · rw [if_neg c] at h0 ⊢
          exact gap_place hl.tail p _ _ (by omega) h0
/-- A gap is behind the kept rows before it. -/
theorem place_gap : ∀ {l : List AxStep} (hl : Form l) (p q fr tq : Int), fr ≤ p → p < q → 0 ≤ placeS l p fr tq → placeS l p fr tq + 1 ≤ gapS l q false fr tq
  | [], _, p, q, fr, tq, h, hq, h0 => by simp [placeS] at h0
  | s :: l, hl, p, q, fr, tq, h, hq, h0 => by
    have hn := hl.head.2.2
    rw [placeS] at h0 ⊢
    rw [gapS]
    by_cases k1 : s.kind = 1
    · rw [if_pos k1] at h0 ⊢
      rw [if_pos k1, if_pos ⟨k1, by omega⟩]
      exact place_gap hl.tail p q fr _ h hq h0
    · rw [if_neg k1] at h0 ⊢
      rw [if_neg k1, if_neg (by omega : ¬ (s.kind = 1 ∧ (fr < q ∨ (fr = q ∧ false = true))))]
      by_cases k0 : s.kind = 0
      · rw [if_pos k0] at h0 ⊢
        rw [if_pos k0]
        by_cases c : p < fr + s.n
        · rw [if_pos c] at h0 ⊢
          have := gap_ge hl.tail q false (fr + s.n) (tq + min s.n (max 0 (q - fr)))
          omega
        · rw [if_neg c] at h0 ⊢
          rw [show min s.n (max 0 (q - fr)) = s.n by omega]
          exact place_gap hl.tail p q _ _ (by omega) hq h0
      · rw [if_neg k0] at h0 ⊢
        rw [if_neg k0]
        by_cases c : p < fr + s.n
        · rw [if_pos c] at h0; omega
        · rw [if_neg c] at h0 ⊢
          exact place_gap hl.tail p q _ _ (by omega) hq h0
theorem hull_keep : ∀ {l : List AxStep} (hl : Form l) (f t first last old now : Int), 0 < last → last ≤ now → (hullS l f t first last old now).1 = first ∧ last ≤ (hullS l f t first last old now).2
  | [], _, f, t, first, last, old, now, h, h2 => ⟨rfl, Int.le_refl _⟩
  | s :: l, hl, f, t, first, last, old, now, h, h2 => by
    have hn := hl.head.2.2
    rw [hullS, if_neg (by omega : ¬ ((s.kind = 0 ∧ max f old < min t (old + s.n)) ∧ last = 0))]
    by_cases c : s.kind = 0 ∧ max f old < min t (old + s.n)
    · rw [if_pos c, if_neg (show ¬ s.kind = 2 by omega)]
      have ih := hull_keep hl.tail f t first (now + min t (old + s.n) - old) (if s.kind = 1 then old else old + s.n) (now + s.n) (by omega) (by omega)
      exact ⟨ih.1, by have := ih.2; omega⟩
    · rw [if_neg c]
      exact hull_keep hl.tail f t first last _ _ h (by split <;> omega)
end Go.Ch
end
section
set_option linter.unusedVariables false
set_option linter.unusedSimpArgs false
set_option maxRecDepth 100000
set_option maxHeartbeats 4000000
open Go Go.Proofs Go.Ab
namespace Go.Ch
theorem fc_place (l : List AxStep) (p : Int) (hv : Valid l) (hp : 0 ≤ p ∧ p ≤ 2147483647) : FC Tryd.prog 86 [VL 2 stepT l, VI p] (app emp []) (VI (placeS l p 0 0)) (app emp []) := by
 refine .go Tryd.f86 ?_
 refine .len 0 (fun hl0 => ?_)
 have ca := check_iff.2 hv
 have hv1 : oldI l ≤ 2147483647 := by have := hv.2.1; unfold oldI; omega
 have hv2 : newI l ≤ 2147483647 := by have := hv.2.2; unfold newI; omega
 have o0 : 0 ≤ oldI l := by unfold oldI; omega
 have o1 : 0 ≤ newI l := by unfold newI; omega
 refine .loop (α := Int × Int × Nat) [.r [], .r [], .r [(1, X (Xl stepT l))]] 48 (fun (fr, tq, i) => ([(1, VI p), (5, VI fr), (6, VI tq), (9, VL 2 stepT l), (10, VI (l.length : Int)), (11, VI (i : Int))], [])) (fun (fr, tq, i) => i ≤ l.length ∧ 0 ≤ fr ∧ 0 ≤ tq ∧ fr + oldU (ex (l.drop i)) = oldI l ∧ tq + newU (ex (l.drop i)) = newI l ∧ fr ≤ p ∧ placeS l p 0 0 = placeS (l.drop i) p fr tq) (fun (fr, tq, i) => l.length - i) (0, 0, 0) ?_ ?_
 ·
  exact ⟨by omega, by decide, by decide, by simp [oldI], by simp [newI], by omega, rfl⟩
 rintro ⟨fr, tq, i⟩ I3 ih3
 try dsimp only at I3
 refine .br [.r []] (decide ((i : Int) < (l.length : Int))) (fun h3 => ?_) (fun h3 => ?_)
 ·
  (try simp only [decide_eq_true_eq, decide_eq_false_iff_not, Int.not_lt, Int.not_le] at h3)
  have hst := lens_step (l := l) (i := i) (by omega) hv.1
  have hd := drop_ats (l := l) (i := i) (by omega)
  refine .br [.r [(0, X (Xi stepT l (i : Int)))], .r [], .r []] ((((l.getD i default)).kind) == 1) (fun h8 => ?_) (fun h8 => ?_)
  ·
   (try simp only [beq_iff_eq, beq_eq_false_iff_ne, ne_eq] at h8)
   refine .back [.r [(3, X (Xn (tq + (((l.getD i default)).n))))], .r [(0, X (Xn ((i : Int) + 1)))]] [] (ih3 (fr, (tq + (((l.getD i default)).n)), (i + 1)) ?_ ?_)
   ·
    obtain ⟨s1, s2, s3, s4, s5⟩ := hst
    (first | rw [if_pos (by omega)] at s1 | rw [if_neg (by omega)] at s1)
    (first | rw [if_pos (by omega)] at s2 | rw [if_neg (by omega)] at s2)
    refine ⟨by omega, by omega, by omega, by omega, by omega, by omega, ?_⟩
    rw [I3.2.2.2.2.2.2, hd, placeS]
    ((repeat' split) <;> first | rfl | omega)
   ·
    ((try dsimp only); omega)
  ·
   (try simp only [beq_iff_eq, beq_eq_false_iff_ne, ne_eq] at h8)
   refine .br [.r []] ((((l.getD i default)).kind) == 0) (fun h10 => ?_) (fun h10 => ?_)
   ·
    (try simp only [beq_iff_eq, beq_eq_false_iff_ne, ne_eq] at h10)
    refine .br [.r [(4, X (Xn (fr + (((l.getD i default)).n))))]] (decide (p < (fr + (((l.getD i default)).n)))) (fun h11 => ?_) (fun h11 => ?_)
    ·
     (try simp only [decide_eq_true_eq, decide_eq_false_iff_not, Int.not_lt, Int.not_le] at h11)
     have e1 : ((placeS l p 0 0) : Int) = ((tq + p) - fr) := by
      first | (rw [I3.2.2.2.2.2.2, drop_ends (by omega)]; rfl) | (rw [I3.2.2.2.2.2.2, hd, placeS]; ((repeat' split) <;> first | rfl | omega))
     exact .finE [.r [(2, X (Xn (tq + p))), (4, X (Xn ((tq + p) - fr)))]] [] (fun z0 => (VI z0, [])) (((tq + p) - fr) : Int) ((placeS l p 0 0) : Int) e1
    ·
     (try simp only [decide_eq_true_eq, decide_eq_false_iff_not, Int.not_lt, Int.not_le] at h11)
     refine .back [.r [(3, X (Xn (tq + (((l.getD i default)).n))))], .r [(3, X (Xn (fr + (((l.getD i default)).n))))], .r [(0, X (Xn ((i : Int) + 1)))]] [] (ih3 ((fr + (((l.getD i default)).n)), (tq + (((l.getD i default)).n)), (i + 1)) ?_ ?_)
     ·
      obtain ⟨s1, s2, s3, s4, s5⟩ := hst
      (first | rw [if_pos (by omega)] at s1 | rw [if_neg (by omega)] at s1)
      (first | rw [if_pos (by omega)] at s2 | rw [if_neg (by omega)] at s2)
      refine ⟨by omega, by omega, by omega, by omega, by omega, by omega, ?_⟩
      rw [I3.2.2.2.2.2.2, hd, placeS]
      ((repeat' split) <;> first | rfl | omega)
     ·
      ((try dsimp only); omega)
   ·
    (try simp only [beq_iff_eq, beq_eq_false_iff_ne, ne_eq] at h10)
    refine .br [.r [(4, X (Xn (fr + (((l.getD i default)).n))))]] (decide (p < (fr + (((l.getD i default)).n)))) (fun h6 => ?_) (fun h6 => ?_)
    ·
     (try simp only [decide_eq_true_eq, decide_eq_false_iff_not, Int.not_lt, Int.not_le] at h6)
     have e2 : ((placeS l p 0 0) : Int) = -1 := by
      first | (rw [I3.2.2.2.2.2.2, drop_ends (by omega)]; rfl) | (rw [I3.2.2.2.2.2.2, hd, placeS]; ((repeat' split) <;> first | rfl | omega))
     exact .finE [.r []] [] (fun z0 => (VI z0, [])) (-1 : Int) ((placeS l p 0 0) : Int) e2
    ·
     (try simp only [decide_eq_true_eq, decide_eq_false_iff_not, Int.not_lt, Int.not_le] at h6)
     refine .back [.r [(3, X (Xn (fr + (((l.getD i default)).n))))], .r [(0, X (Xn ((i : Int) + 1)))]] [] (ih3 ((fr + (((l.getD i default)).n)), tq, (i + 1)) ?_ ?_)
     ·
      obtain ⟨s1, s2, s3, s4, s5⟩ := hst
      (first | rw [if_pos (by omega)] at s1 | rw [if_neg (by omega)] at s1)
      (first | rw [if_pos (by omega)] at s2 | rw [if_neg (by omega)] at s2)
      refine ⟨by omega, by omega, by omega, by omega, by omega, by omega, ?_⟩
      rw [I3.2.2.2.2.2.2, hd, placeS]
      ((repeat' split) <;> first | rfl | omega)
     ·
      ((try dsimp only); omega)
 ·
  (try simp only [decide_eq_true_eq, decide_eq_false_iff_not, Int.not_lt, Int.not_le] at h3)
  have e3 : ((placeS l p 0 0) : Int) = -1 := by
   first | (rw [I3.2.2.2.2.2.2, drop_ends (by omega)]; rfl) | (rw [I3.2.2.2.2.2.2, hd, placeS]; ((repeat' split) <;> first | rfl | omega))
  exact .finE [.r []] [] (fun z0 => (VI z0, [])) (-1 : Int) ((placeS l p 0 0) : Int) e3

theorem fc_axApply (l : List AxStep) (pl : List Int) (hv : Valid l) (hp : ∀ x ∈ pl, 0 ≤ x ∧ x < oldI l) (hlen : pl.length ≤ 1000000000) : FC Tryd.prog 61 [VL 2 stepT l, VL 1 intT pl] (app emp []) (.tup [VL 1 intT (List.map (fun x => placeS l x 0 0) pl), VI 0]) (app emp []) := by
 refine .go Tryd.f61 ?_
 refine .len 0 (fun hl0 => ?_)
 refine .len 1 (fun hl1 => ?_)
 have ca := check_iff.2 hv
 have hv1 : oldI l ≤ 2147483647 := by have := hv.2.1; unfold oldI; omega
 have hv2 : newI l ≤ 2147483647 := by have := hv.2.2; unfold newI; omega
 have o0 : 0 ≤ oldI l := by unfold oldI; omega
 have o1 : 0 ≤ newI l := by unfold newI; omega
 refine .br [.r [], .r [(1, X (Xc0 (fc_axCheck l) X0))], .r []] ((checkX l) != 0) (fun h2 => ?_) (fun h2 => ?_)
 ·
  (try simp only [bne_iff_ne, bne_eq_false_iff_eq, ne_eq] at h2)
  exfalso
  omega
 ·
  (try simp only [bne_iff_ne, bne_eq_false_iff_eq, ne_eq] at h2)
  refine .loop (α := Nat × (List Int)) [.r [(1, X (Xc0 (fc_axLens l (by assumption)) X0))], .r [], .r [(1, X (Xl intT pl))], .le (.nR 9 1)] 145 (fun (i, out) => ([(0, VL 2 stepT l), (7, VI (oldI l)), (9, .row 144 out.length), (22, VL 1 intT pl), (23, VI (pl.length : Int)), (24, VI (i : Int))], [(144, OR 1 intT out)])) (fun (i, out) => i ≤ pl.length ∧ out = (pl.take i).map (fun x => placeS l x 0 0)) (fun (i, out) => pl.length - i) (0, []) ?_ ?_
  ·
   exact ⟨by omega, rfl⟩
  rintro ⟨i, out⟩ I7 ih7
  try dsimp only at I7
  have ol : out.length = i := by rw [I7.2]; simp; omega
  refine .br [.r []] (decide ((i : Int) < (pl.length : Int))) (fun h7 => ?_) (fun h7 => ?_)
  ·
   (try simp only [decide_eq_true_eq, decide_eq_false_iff_not, Int.not_lt, Int.not_le] at h7)
   have hx := hp (pl.getD i default) (by rw [show pl.getD i default = pl[i] by simp [List.getD, List.getElem?_eq_getElem (show i < pl.length by omega)]]; exact List.getElem_mem _)
   refine .br [.r [(0, X (Xi intT pl (i : Int)))], .r [(5, Xv 2 (!(decide ((pl.getD i default) < 0))) X0), (6, X (Xk' (decide ((pl.getD i default) < 0))))]] (decide ((pl.getD i default) < 0) || decide ((pl.getD i default) ≥ (oldI l))) (fun h9 => ?_) (fun h9 => ?_)
   ·
    (try simp only [decide_eq_true_eq, decide_eq_false_iff_not, Int.not_lt, Int.not_le, ge_iff_le, Bool.or_eq_true, Bool.or_eq_false_iff] at h9)
    exfalso
    omega
   ·
    (try simp only [decide_eq_true_eq, decide_eq_false_iff_not, Int.not_lt, Int.not_le, ge_iff_le, Bool.or_eq_true, Bool.or_eq_false_iff] at h9)
    refine .back [.r [(3, X (Xc0 (fc_place l (pl.getD i default) (by assumption) (by omega)) X0)), (5, X (rowC intT [(placeS l (pl.getD i default) 0 0)] (Xap 1 intT 144 out [(placeS l (pl.getD i default) 0 0)])))], .r [(0, X (Xn ((i : Int) + 1)))]] [(144, 144)] (ih7 ((i + 1), (out ++ [(placeS l (pl.getD i default) 0 0)])) ?_ ?_)
    ·
     refine ⟨by omega, ?_⟩
     rw [I7.2, List.take_succ_eq_append_getElem (show i < pl.length by omega), List.map_append]
     simp [List.getD, List.getElem?_eq_getElem (show i < pl.length by omega)]
    ·
     ((try dsimp only); omega)
  ·
   (try simp only [decide_eq_true_eq, decide_eq_false_iff_not, Int.not_lt, Int.not_le] at h7)
   have e1 : ((List.map (fun x => placeS l x 0 0) pl) : List Int) = out := by
    rw [I7.2, List.take_of_length_le (by omega)]
   exact .finE [.r [], .le (.fr 4 [(out.length : Nat) = (List.map intT out).length] ⟨lm, trivial⟩)] [] (fun z0 => (.tup [VL 1 intT z0, VI 0], [])) (out : List Int) ((List.map (fun x => placeS l x 0 0) pl) : List Int) e1

theorem fc_hull (l : List AxStep) (f t : Int) (hv : Valid l) (hf : 0 ≤ f ∧ f ≤ t ∧ t ≤ oldI l) : FC Tryd.prog 73 [VL 2 stepT l, VI f, VI t] (app emp []) (.tup [VI ((hullS l f t 0 0 0 0).1), VI ((hullS l f t 0 0 0 0).2)]) (app emp []) := by
 refine .go Tryd.f73 ?_
 refine .len 0 (fun hl0 => ?_)
 have ca := check_iff.2 hv
 have hv1 : oldI l ≤ 2147483647 := by have := hv.2.1; unfold oldI; omega
 have hv2 : newI l ≤ 2147483647 := by have := hv.2.2; unfold newI; omega
 have o0 : 0 ≤ oldI l := by unfold oldI; omega
 have o1 : 0 ≤ newI l := by unfold newI; omega
 refine .loop (α := Int × Int × Int × Int × Nat) [.r [], .r [], .r [(1, X (Xl stepT l))]] 72 (fun (first, last, fr, tq, i) => ([(1, VI f), (2, VI t), (8, VI first), (9, VI last), (10, VI fr), (11, VI tq), (16, VL 2 stepT l), (17, VI (l.length : Int)), (18, VI (i : Int))], [])) (fun (first, last, fr, tq, i) => i ≤ l.length ∧ 0 ≤ fr ∧ 0 ≤ tq ∧ fr + oldU (ex (l.drop i)) = oldI l ∧ tq + newU (ex (l.drop i)) = newI l ∧ 0 ≤ first ∧ first ≤ 10000000000 ∧ 0 ≤ last ∧ last ≤ 10000000000 ∧ hullS l f t 0 0 0 0 = hullS (l.drop i) f t first last fr tq) (fun (first, last, fr, tq, i) => l.length - i) (0, 0, 0, 0, 0) ?_ ?_
 ·
  exact ⟨by omega, by decide, by decide, by simp [oldI], by simp [newI], by decide, by decide, by decide, by decide, rfl⟩
 rintro ⟨first, last, fr, tq, i⟩ I3 ih3
 try dsimp only at I3
 refine .br [.r []] (decide ((i : Int) < (l.length : Int))) (fun h3 => ?_) (fun h3 => ?_)
 ·
  (try simp only [decide_eq_true_eq, decide_eq_false_iff_not, Int.not_lt, Int.not_le] at h3)
  have hst := lens_step (l := l) (i := i) (by omega) hv.1
  have hd := drop_ats (l := l) (i := i) (by omega)
  refine .br [.r [(0, X (Xi stepT l (i : Int)))], .r [(2, X (Xmax f fr)), (7, X (Xn (fr + (((l.getD i default)).n)))), (8, X (Xmin t (fr + (((l.getD i default)).n))))], .r [(6, Xv 2 ((((l.getD i default)).kind) == 0) X0), (7, X (Xk ((((l.getD i default)).kind) == 0)))]] (((((l.getD i default)).kind) == 0) && decide ((max f fr) < (min t (fr + (((l.getD i default)).n))))) (fun h6 => ?_) (fun h6 => ?_)
  ·
   (try simp only [decide_eq_true_eq, decide_eq_false_iff_not, Int.not_lt, Int.not_le, Bool.and_eq_true, Bool.and_eq_false_iff, Bool.not_eq_true', Bool.not_eq_false', beq_iff_eq, beq_eq_false_iff_ne, ne_eq] at h6)
   refine .br [.r []] (last == 0) (fun h7 => ?_) (fun h7 => ?_)
   ·
    (try simp only [beq_iff_eq, beq_eq_false_iff_ne, ne_eq] at h7)
    refine .br [.r [(2, X (Xn (tq + (max f fr)))), (4, X (Xn ((tq + (max f fr)) - fr)))], .r [(2, X (Xn (tq + (min t (fr + (((l.getD i default)).n)))))), (4, X (Xn ((tq + (min t (fr + (((l.getD i default)).n)))) - fr)))], .r []] ((((l.getD i default)).kind) != 2) (fun h10 => ?_) (fun h10 => ?_)
    ·
     (try simp only [bne_iff_ne, bne_eq_false_iff_eq, ne_eq] at h10)
     refine .br [.r [(3, X (Xn (tq + (((l.getD i default)).n))))], .r []] ((((l.getD i default)).kind) != 1) (fun h12 => ?_) (fun h12 => ?_)
     ·
      (try simp only [bne_iff_ne, bne_eq_false_iff_eq, ne_eq] at h12)
      refine .back [.r [(3, X (Xn (fr + (((l.getD i default)).n))))], .r [(0, X (Xn ((i : Int) + 1)))]] [] (ih3 (((tq + (max f fr)) - fr), ((tq + (min t (fr + (((l.getD i default)).n)))) - fr), (fr + (((l.getD i default)).n)), (tq + (((l.getD i default)).n)), (i + 1)) ?_ ?_)
      ·
       obtain ⟨s1, s2, s3, s4, s5⟩ := hst
       (first | rw [if_pos (by omega)] at s1 | rw [if_neg (by omega)] at s1)
       (first | rw [if_pos (by omega)] at s2 | rw [if_neg (by omega)] at s2)
       refine ⟨by omega, by omega, by omega, by omega, by omega, by omega, by omega, by omega, by omega, ?_⟩
       rw [I3.2.2.2.2.2.2.2.2.2, hd, hullS]
       congr 1 <;> ((repeat' split) <;> first | rfl | omega)
      ·
       ((try dsimp only); omega)
     ·
      (try simp only [bne_iff_ne, bne_eq_false_iff_eq, ne_eq] at h12)
      refine .back [.r [(0, X (Xn ((i : Int) + 1)))]] [] (ih3 (((tq + (max f fr)) - fr), ((tq + (min t (fr + (((l.getD i default)).n)))) - fr), fr, (tq + (((l.getD i default)).n)), (i + 1)) ?_ ?_)
      ·
       obtain ⟨s1, s2, s3, s4, s5⟩ := hst
       (first | rw [if_pos (by omega)] at s1 | rw [if_neg (by omega)] at s1)
       (first | rw [if_pos (by omega)] at s2 | rw [if_neg (by omega)] at s2)
       refine ⟨by omega, by omega, by omega, by omega, by omega, by omega, by omega, by omega, by omega, ?_⟩
       rw [I3.2.2.2.2.2.2.2.2.2, hd, hullS]
       congr 1 <;> ((repeat' split) <;> first | rfl | omega)
      ·
       ((try dsimp only); omega)
    ·
     (try simp only [bne_iff_ne, bne_eq_false_iff_eq, ne_eq] at h10)
     refine .br [.r []] ((((l.getD i default)).kind) != 1) (fun h12 => ?_) (fun h12 => ?_)
     ·
      (try simp only [bne_iff_ne, bne_eq_false_iff_eq, ne_eq] at h12)
      refine .back [.r [(3, X (Xn (fr + (((l.getD i default)).n))))], .r [(0, X (Xn ((i : Int) + 1)))]] [] (ih3 (((tq + (max f fr)) - fr), ((tq + (min t (fr + (((l.getD i default)).n)))) - fr), (fr + (((l.getD i default)).n)), tq, (i + 1)) ?_ ?_)
      ·
       obtain ⟨s1, s2, s3, s4, s5⟩ := hst
       (first | rw [if_pos (by omega)] at s1 | rw [if_neg (by omega)] at s1)
       (first | rw [if_pos (by omega)] at s2 | rw [if_neg (by omega)] at s2)
       refine ⟨by omega, by omega, by omega, by omega, by omega, by omega, by omega, by omega, by omega, ?_⟩
       rw [I3.2.2.2.2.2.2.2.2.2, hd, hullS]
       congr 1 <;> ((repeat' split) <;> first | rfl | omega)
      ·
       ((try dsimp only); omega)
     ·
      (try simp only [bne_iff_ne, bne_eq_false_iff_eq, ne_eq] at h12)
      refine .back [.r [(0, X (Xn ((i : Int) + 1)))]] [] (ih3 (((tq + (max f fr)) - fr), ((tq + (min t (fr + (((l.getD i default)).n)))) - fr), fr, tq, (i + 1)) ?_ ?_)
      ·
       obtain ⟨s1, s2, s3, s4, s5⟩ := hst
       (first | rw [if_pos (by omega)] at s1 | rw [if_neg (by omega)] at s1)
       (first | rw [if_pos (by omega)] at s2 | rw [if_neg (by omega)] at s2)
       refine ⟨by omega, by omega, by omega, by omega, by omega, by omega, by omega, by omega, by omega, ?_⟩
       rw [I3.2.2.2.2.2.2.2.2.2, hd, hullS]
       congr 1 <;> ((repeat' split) <;> first | rfl | omega)
      ·
       ((try dsimp only); omega)
   ·
    (try simp only [beq_iff_eq, beq_eq_false_iff_ne, ne_eq] at h7)
    refine .br [.r [(2, X (Xn (tq + (min t (fr + (((l.getD i default)).n)))))), (4, X (Xn ((tq + (min t (fr + (((l.getD i default)).n)))) - fr)))], .r []] ((((l.getD i default)).kind) != 2) (fun h10 => ?_) (fun h10 => ?_)
    ·
     (try simp only [bne_iff_ne, bne_eq_false_iff_eq, ne_eq] at h10)
     refine .br [.r [(3, X (Xn (tq + (((l.getD i default)).n))))], .r []] ((((l.getD i default)).kind) != 1) (fun h12 => ?_) (fun h12 => ?_)
     ·
      (try simp only [bne_iff_ne, bne_eq_false_iff_eq, ne_eq] at h12)
      refine .back [.r [(3, X (Xn (fr + (((l.getD i default)).n))))], .r [(0, X (Xn ((i : Int) + 1)))]] [] (ih3 (first, ((tq + (min t (fr + (((l.getD i default)).n)))) - fr), (fr + (((l.getD i default)).n)), (tq + (((l.getD i default)).n)), (i + 1)) ?_ ?_)
      ·
       obtain ⟨s1, s2, s3, s4, s5⟩ := hst
       (first | rw [if_pos (by omega)] at s1 | rw [if_neg (by omega)] at s1)
       (first | rw [if_pos (by omega)] at s2 | rw [if_neg (by omega)] at s2)
       refine ⟨by omega, by omega, by omega, by omega, by omega, by omega, by omega, by omega, by omega, ?_⟩
       rw [I3.2.2.2.2.2.2.2.2.2, hd, hullS]
       congr 1 <;> ((repeat' split) <;> first | rfl | omega)
      ·
       ((try dsimp only); omega)
     ·
      (try simp only [bne_iff_ne, bne_eq_false_iff_eq, ne_eq] at h12)
      refine .back [.r [(0, X (Xn ((i : Int) + 1)))]] [] (ih3 (first, ((tq + (min t (fr + (((l.getD i default)).n)))) - fr), fr, (tq + (((l.getD i default)).n)), (i + 1)) ?_ ?_)
      ·
       obtain ⟨s1, s2, s3, s4, s5⟩ := hst
       (first | rw [if_pos (by omega)] at s1 | rw [if_neg (by omega)] at s1)
       (first | rw [if_pos (by omega)] at s2 | rw [if_neg (by omega)] at s2)
       refine ⟨by omega, by omega, by omega, by omega, by omega, by omega, by omega, by omega, by omega, ?_⟩
       rw [I3.2.2.2.2.2.2.2.2.2, hd, hullS]
       congr 1 <;> ((repeat' split) <;> first | rfl | omega)
      ·
       ((try dsimp only); omega)
    ·
     (try simp only [bne_iff_ne, bne_eq_false_iff_eq, ne_eq] at h10)
     refine .br [.r []] ((((l.getD i default)).kind) != 1) (fun h12 => ?_) (fun h12 => ?_)
     ·
      (try simp only [bne_iff_ne, bne_eq_false_iff_eq, ne_eq] at h12)
      refine .back [.r [(3, X (Xn (fr + (((l.getD i default)).n))))], .r [(0, X (Xn ((i : Int) + 1)))]] [] (ih3 (first, ((tq + (min t (fr + (((l.getD i default)).n)))) - fr), (fr + (((l.getD i default)).n)), tq, (i + 1)) ?_ ?_)
      ·
       obtain ⟨s1, s2, s3, s4, s5⟩ := hst
       (first | rw [if_pos (by omega)] at s1 | rw [if_neg (by omega)] at s1)
       (first | rw [if_pos (by omega)] at s2 | rw [if_neg (by omega)] at s2)
       refine ⟨by omega, by omega, by omega, by omega, by omega, by omega, by omega, by omega, by omega, ?_⟩
       rw [I3.2.2.2.2.2.2.2.2.2, hd, hullS]
       congr 1 <;> ((repeat' split) <;> first | rfl | omega)
      ·
       ((try dsimp only); omega)
     ·
      (try simp only [bne_iff_ne, bne_eq_false_iff_eq, ne_eq] at h12)
      refine .back [.r [(0, X (Xn ((i : Int) + 1)))]] [] (ih3 (first, ((tq + (min t (fr + (((l.getD i default)).n)))) - fr), fr, tq, (i + 1)) ?_ ?_)
      ·
       obtain ⟨s1, s2, s3, s4, s5⟩ := hst
       (first | rw [if_pos (by omega)] at s1 | rw [if_neg (by omega)] at s1)
       (first | rw [if_pos (by omega)] at s2 | rw [if_neg (by omega)] at s2)
       refine ⟨by omega, by omega, by omega, by omega, by omega, by omega, by omega, by omega, by omega, ?_⟩
       rw [I3.2.2.2.2.2.2.2.2.2, hd, hullS]
       congr 1 <;> ((repeat' split) <;> first | rfl | omega)
      ·
       ((try dsimp only); omega)
  ·
   (try simp only [decide_eq_true_eq, decide_eq_false_iff_not, Int.not_lt, Int.not_le, Bool.and_eq_true, Bool.and_eq_false_iff, Bool.not_eq_true', Bool.not_eq_false', beq_iff_eq, beq_eq_false_iff_ne, ne_eq] at h6)
   refine .br [.r []] ((((l.getD i default)).kind) != 2) (fun h10 => ?_) (fun h10 => ?_)
   ·
    (try simp only [bne_iff_ne, bne_eq_false_iff_eq, ne_eq] at h10)
    refine .br [.r [(3, X (Xn (tq + (((l.getD i default)).n))))], .r []] ((((l.getD i default)).kind) != 1) (fun h12 => ?_) (fun h12 => ?_)
    ·
     (try simp only [bne_iff_ne, bne_eq_false_iff_eq, ne_eq] at h12)
     refine .back [.r [(3, X (Xn (fr + (((l.getD i default)).n))))], .r [(0, X (Xn ((i : Int) + 1)))]] [] (ih3 (first, last, (fr + (((l.getD i default)).n)), (tq + (((l.getD i default)).n)), (i + 1)) ?_ ?_)
     ·
      obtain ⟨s1, s2, s3, s4, s5⟩ := hst
      (first | rw [if_pos (by omega)] at s1 | rw [if_neg (by omega)] at s1)
      (first | rw [if_pos (by omega)] at s2 | rw [if_neg (by omega)] at s2)
      refine ⟨by omega, by omega, by omega, by omega, by omega, by omega, by omega, by omega, by omega, ?_⟩
      rw [I3.2.2.2.2.2.2.2.2.2, hd, hullS]
      congr 1 <;> ((repeat' split) <;> first | rfl | omega)
     ·
      ((try dsimp only); omega)
    ·
     (try simp only [bne_iff_ne, bne_eq_false_iff_eq, ne_eq] at h12)
     refine .back [.r [(0, X (Xn ((i : Int) + 1)))]] [] (ih3 (first, last, fr, (tq + (((l.getD i default)).n)), (i + 1)) ?_ ?_)
     ·
      obtain ⟨s1, s2, s3, s4, s5⟩ := hst
      (first | rw [if_pos (by omega)] at s1 | rw [if_neg (by omega)] at s1)
      (first | rw [if_pos (by omega)] at s2 | rw [if_neg (by omega)] at s2)
      refine ⟨by omega, by omega, by omega, by omega, by omega, by omega, by omega, by omega, by omega, ?_⟩
      rw [I3.2.2.2.2.2.2.2.2.2, hd, hullS]
      congr 1 <;> ((repeat' split) <;> first | rfl | omega)
     ·
      ((try dsimp only); omega)
   ·
    (try simp only [bne_iff_ne, bne_eq_false_iff_eq, ne_eq] at h10)
    refine .br [.r []] ((((l.getD i default)).kind) != 1) (fun h12 => ?_) (fun h12 => ?_)
    ·
     (try simp only [bne_iff_ne, bne_eq_false_iff_eq, ne_eq] at h12)
     refine .back [.r [(3, X (Xn (fr + (((l.getD i default)).n))))], .r [(0, X (Xn ((i : Int) + 1)))]] [] (ih3 (first, last, (fr + (((l.getD i default)).n)), tq, (i + 1)) ?_ ?_)
     ·
      obtain ⟨s1, s2, s3, s4, s5⟩ := hst
      (first | rw [if_pos (by omega)] at s1 | rw [if_neg (by omega)] at s1)
      (first | rw [if_pos (by omega)] at s2 | rw [if_neg (by omega)] at s2)
      refine ⟨by omega, by omega, by omega, by omega, by omega, by omega, by omega, by omega, by omega, ?_⟩
      rw [I3.2.2.2.2.2.2.2.2.2, hd, hullS]
      congr 1 <;> ((repeat' split) <;> first | rfl | omega)
     ·
      ((try dsimp only); omega)
    ·
     (try simp only [bne_iff_ne, bne_eq_false_iff_eq, ne_eq] at h12)
     refine .back [.r [(0, X (Xn ((i : Int) + 1)))]] [] (ih3 (first, last, fr, tq, (i + 1)) ?_ ?_)
     ·
      obtain ⟨s1, s2, s3, s4, s5⟩ := hst
      (first | rw [if_pos (by omega)] at s1 | rw [if_neg (by omega)] at s1)
      (first | rw [if_pos (by omega)] at s2 | rw [if_neg (by omega)] at s2)
      refine ⟨by omega, by omega, by omega, by omega, by omega, by omega, by omega, by omega, by omega, ?_⟩
      rw [I3.2.2.2.2.2.2.2.2.2, hd, hullS]
      congr 1 <;> ((repeat' split) <;> first | rfl | omega)
     ·
      ((try dsimp only); omega)
 ·
  (try simp only [decide_eq_true_eq, decide_eq_false_iff_not, Int.not_lt, Int.not_le] at h3)
  have e1 : ((hullS l f t 0 0 0 0).1 : Int) = first := by
   rw [I3.2.2.2.2.2.2.2.2.2, drop_ends (by omega)]; rfl
  have e2 : ((hullS l f t 0 0 0 0).2 : Int) = last := by
   rw [I3.2.2.2.2.2.2.2.2.2, drop_ends (by omega)]; rfl
  exact .finE [.r []] [] (fun (z0, z1) => (.tup [VI z0, VI z1], [])) ((first : Int), (last : Int)) (((hullS l f t 0 0 0 0).1 : Int), ((hullS l f t 0 0 0 0).2 : Int)) (pr e1 e2)
end Go.Ch
end
section
set_option linter.unusedVariables false
set_option linter.unusedSimpArgs false
set_option maxRecDepth 100000
set_option maxHeartbeats 4000000
open Go Go.Proofs Go.Ab
namespace Go.Ch
theorem fc_char (c : Int) : FC Tryd.prog 99 [VI c] (app emp []) (VB (decide (CharP c))) (app emp []) := by
 refine .go Tryd.f99 ?_
 have e1 : ((decide (CharP c)) : Bool) = (((((c == 9) || (c == 10)) || (decide (c ≥ 32) && decide (c < 127))) || (decide (c ≥ 160) && decide (c < 55296))) || (decide (c > 57343) && decide (c ≤ 1114111))) := by
  rw [Bool.eq_iff_iff, decide_eq_true_iff]; unfold CharP; simp only [Bool.or_eq_true, Bool.and_eq_true, decide_eq_true_eq, beq_iff_eq]; constructor <;> intro hh <;> omega
 exact .finE [.r [], .r [(4, Xv 1 (!(c == 9)) X0), (5, X (Xk' (c == 9))), (8, Xv 1 (!((c == 9) || (c == 10))) X0), (9, Xv 1 (!((c == 9) || (c == 10))) X0), (11, Xv 1 ((!((c == 9) || (c == 10))) && (decide (c ≥ 32))) X0), (12, Xka (!((c == 9) || (c == 10))) (decide (c ≥ 32))), (13, X (Xk' ((c == 9) || (c == 10)))), (16, Xv 1 (!(((c == 9) || (c == 10)) || (decide (c ≥ 32) && decide (c < 127)))) X0), (17, Xv 1 (!(((c == 9) || (c == 10)) || (decide (c ≥ 32) && decide (c < 127)))) X0), (19, Xv 1 ((!(((c == 9) || (c == 10)) || (decide (c ≥ 32) && decide (c < 127)))) && (decide (c ≥ 160))) X0), (20, Xka (!(((c == 9) || (c == 10)) || (decide (c ≥ 32) && decide (c < 127)))) (decide (c ≥ 160))), (21, X (Xk' (((c == 9) || (c == 10)) || (decide (c ≥ 32) && decide (c < 127))))), (24, Xv 1 (!((((c == 9) || (c == 10)) || (decide (c ≥ 32) && decide (c < 127))) || (decide (c ≥ 160) && decide (c < 55296)))) X0), (25, Xv 1 (!((((c == 9) || (c == 10)) || (decide (c ≥ 32) && decide (c < 127))) || (decide (c ≥ 160) && decide (c < 55296)))) X0), (27, Xv 1 ((!((((c == 9) || (c == 10)) || (decide (c ≥ 32) && decide (c < 127))) || (decide (c ≥ 160) && decide (c < 55296)))) && (decide (c > 57343))) X0), (28, Xka (!((((c == 9) || (c == 10)) || (decide (c ≥ 32) && decide (c < 127))) || (decide (c ≥ 160) && decide (c < 55296)))) (decide (c > 57343))), (29, X (Xk' ((((c == 9) || (c == 10)) || (decide (c ≥ 32) && decide (c < 127))) || (decide (c ≥ 160) && decide (c < 55296)))))]] [] (fun z0 => (VB z0, [])) ((((((c == 9) || (c == 10)) || (decide (c ≥ 32) && decide (c < 127))) || (decide (c ≥ 160) && decide (c < 55296))) || (decide (c > 57343) && decide (c ≤ 1114111))) : Bool) ((decide (CharP c)) : Bool) e1

theorem fc_in (x a b : Int) : FC Tryd.prog 17 [VI x, VI a, VI b] (app emp []) (VB (decide (a ≤ x ∧ x ≤ b))) (app emp []) := by
 refine .go Tryd.f17 ?_
 have e1 : ((decide (a ≤ x ∧ x ≤ b)) : Bool) = (decide (x ≥ a) && decide (x ≤ b)) := by
  rw [Bool.eq_iff_iff]; simp; try omega
 exact .finE [.r [], .r [(6, Xv 2 (decide (x ≥ a)) X0), (7, X (Xk (decide (x ≥ a))))]] [] (fun z0 => (VB z0, [])) ((decide (x ≥ a) && decide (x ≤ b)) : Bool) ((decide (a ≤ x ∧ x ≤ b)) : Bool) e1

theorem fc_charR (c : Int) : FC Tryd.prog 66 [VI c] (app emp []) (VB (decide (CharP c))) (app emp []) := by
 refine .go Tryd.f66 ?_
 have e1 : ((decide (CharP c)) : Bool) = (((((c == 9) || (c == 10)) || (decide (32 ≤ c ∧ c ≤ 126))) || (decide (160 ≤ c ∧ c ≤ 55295))) || (decide (57344 ≤ c ∧ c ≤ 1114111))) := by
  rw [Bool.eq_iff_iff, decide_eq_true_iff]; unfold CharP; simp only [Bool.or_eq_true, Bool.and_eq_true, decide_eq_true_eq, beq_iff_eq]; constructor <;> intro hh <;> omega
 exact .finE [.r [], .r [(4, Xv 1 (!(c == 9)) X0), (5, X (Xk' (c == 9))), (8, Xv 1 (!((c == 9) || (c == 10))) (Xc0 (fc_in c 32 126) X0)), (9, X (Xk' ((c == 9) || (c == 10)))), (12, Xv 1 (!(((c == 9) || (c == 10)) || (decide (32 ≤ c ∧ c ≤ 126)))) (Xc0 (fc_in c 160 55295) X0)), (13, X (Xk' (((c == 9) || (c == 10)) || (decide (32 ≤ c ∧ c ≤ 126))))), (16, Xv 1 (!((((c == 9) || (c == 10)) || (decide (32 ≤ c ∧ c ≤ 126))) || (decide (160 ≤ c ∧ c ≤ 55295)))) (Xc0 (fc_in c 57344 1114111) X0)), (17, X (Xk' ((((c == 9) || (c == 10)) || (decide (32 ≤ c ∧ c ≤ 126))) || (decide (160 ≤ c ∧ c ≤ 55295)))))]] [] (fun z0 => (VB z0, [])) ((((((c == 9) || (c == 10)) || (decide (32 ≤ c ∧ c ≤ 126))) || (decide (160 ≤ c ∧ c ≤ 55295))) || (decide (57344 ≤ c ∧ c ≤ 1114111))) : Bool) ((decide (CharP c)) : Bool) e1
end Go.Ch
end
section
set_option linter.unusedVariables false
namespace Go.Ch
open Go Go.Ab

structure Cell where
  row : Int
  col : Int
  text : ByteArray
  ref : Int
  attrs : List Attr
instance : Inhabited Cell := ⟨⟨0, 0, { data := #[] }, 0, []⟩⟩
structure Rect where
  row : Int
  col : Int
  h : Int
  w : Int
deriving DecidableEq
instance : Inhabited Rect := ⟨⟨0, 0, 0, 0⟩⟩
structure Grid where
  rows : Int
  cols : Int
  cells : List Cell
  merges : List Rect
instance : Inhabited Grid := ⟨⟨0, 0, [], []⟩⟩
structure GEd where
  rows : List AxStep
  cols : List AxStep
  cells : List Cell
  split : List Rect
  merge : List Rect
instance : Inhabited GEd := ⟨⟨[], [], [], [], []⟩⟩
def cellT (c : Cell) : Tree := .agg [TI c.row, TI c.col, TS c.text, TI c.ref, .lst 2 (c.attrs.map attrT)]
def rectT (r : Rect) : Tree := .agg [TI r.row, TI r.col, TI r.h, TI r.w]
def gridT (g : Grid) : Tree := .agg [TI g.rows, TI g.cols, .lst 5 (g.cells.map cellT), .lst 4 (g.merges.map rectT)]
def gedT (e : GEd) : Tree := .agg [.lst 2 (e.rows.map stepT), .lst 2 (e.cols.map stepT), .lst 5 (e.cells.map cellT), .lst 4 (e.split.map rectT), .lst 4 (e.merge.map rectT)]

def cmpI (x y : Int) : Int := if x < y then -1 else if x > y then 1 else 0
def orL : List Int → Int
  | [] => 0
  | x :: l => if x ≠ 0 then x else orL l
theorem orL_at {l : List Int} {i : Nat} (h : i < l.length) : orL (l.drop i) = if l.getD i default ≠ 0 then l.getD i default else orL (l.drop (i + 1)) := by
  rw [List.drop_eq_getElem_cons h, orL]
  simp [List.getD, List.getElem?_eq_getElem h]
def ordC (a b : Cell) : Int := orL [cmpI a.row b.row, cmpI a.col b.col]
def emptyC (c : Cell) : Bool := (seq c.text { data := #[] } && c.ref == 0) && (c.attrs.length : Int) == 0

/-! ### Rectangles -/
def insB (r : Rect) (m n : Int) : Bool := decide (0 ≤ r.row ∧ 0 ≤ r.col ∧ 1 ≤ r.h ∧ 1 ≤ r.w ∧ r.row < m ∧ r.col < n ∧ r.h ≤ m - r.row ∧ r.w ≤ n - r.col)
def meetB (a b : Rect) : Bool := decide (a.row < b.row + b.h ∧ b.row < a.row + a.h ∧ a.col < b.col + b.w ∧ b.col < a.col + a.w)
/-- Numbers that do not overflow. -/
def RB (r : Rect) : Prop := -1000000000000 ≤ r.row ∧ r.row ≤ 1000000000000 ∧ -1000000000000 ≤ r.col ∧ r.col ≤ 1000000000000 ∧ -1000000000000 ≤ r.h ∧ r.h ≤ 1000000000000 ∧ -1000000000000 ≤ r.w ∧ r.w ≤ 1000000000000
def befB (a b : Rect) : Bool := decide (a.row < b.row ∨ (a.row = b.row ∧ a.col < b.col))
theorem rect_ext {a b : Rect} (h1 : a.row = b.row) (h2 : a.col = b.col) (h3 : a.h = b.h) (h4 : a.w = b.w) : a = b := by
  cases a; cases b; simp_all
/-- The index of a rectangle. -/
def idxQ (l : List Rect) (r : Rect) (i : Nat) : Int := if i < l.length then (if l.getD i default = r then (i : Int) else idxQ l r (i + 1)) else -1
termination_by l.length - i
theorem idxQ_ge {l : List Rect} {r : Rect} : ∀ (n i : Nat), l.length - i = n → (0 ≤ idxQ l r i ↔ r ∈ l.drop i)
  | 0, i, h => by rw [idxQ, if_neg (by omega), List.drop_eq_nil_of_le (by omega)]; simp
  | n + 1, i, h => by
    have hi : i < l.length := by omega
    have hd : l.drop i = l.getD i default :: l.drop (i + 1) := by rw [List.drop_eq_getElem_cons hi]; simp [List.getD, List.getElem?_eq_getElem hi]
    rw [idxQ, if_pos hi, hd]
    split
    · rename_i e
      rw [e]
      exact ⟨fun _ => List.mem_cons_self .., fun _ => by omega⟩
    · rename_i e
      rw [idxQ_ge n (i + 1) (by omega), List.mem_cons]
      exact ⟨.inr, fun h => h.resolve_left (fun h => e h.symm)⟩
def hasQ (l : List Rect) (r : Rect) : Bool := decide (r ∈ l)

/-! ### Through changes of the axes -/
def thrR (r : Rect) (rows cols : List AxStep) : Rect :=
  let (a, h) := if 0 < rows.length then ((hullS rows r.row (r.row + r.h) 0 0 0 0).1, (hullS rows r.row (r.row + r.h) 0 0 0 0).2 - (hullS rows r.row (r.row + r.h) 0 0 0 0).1) else (r.row, r.h)
  let (b, w) := if 0 < cols.length then ((hullS cols r.col (r.col + r.w) 0 0 0 0).1, (hullS cols r.col (r.col + r.w) 0 0 0 0).2 - (hullS cols r.col (r.col + r.w) 0 0 0 0).1) else (r.col, r.w)
  ⟨a, b, h, w⟩
def thrB (r : Rect) : Bool := decide (0 < r.h ∧ 0 < r.w ∧ 2 < r.h + r.w)
/-- An axis' change, if there is one, and the numbers that it speaks of. -/
def AxIn (a : List AxStep) (fr tq : Int) : Prop := 0 < a.length → Valid a ∧ 0 ≤ fr ∧ fr ≤ tq ∧ tq ≤ oldI a
theorem hull_bdA : ∀ {l : List AxStep} (hl : Form l) (M f t first last old now : Int), 0 ≤ first → first ≤ M → 0 ≤ last → last ≤ M → 0 ≤ now → now + newU (ex l) ≤ M →
    0 ≤ (hullS l f t first last old now).1 ∧ (hullS l f t first last old now).1 ≤ M ∧ 0 ≤ (hullS l f t first last old now).2 ∧ (hullS l f t first last old now).2 ≤ M
  | [], _, M, f, t, first, last, old, now, h1, h2, h3, h4, h5, h6 => ⟨h1, h2, h3, h4⟩
  | s :: l, hl, M, f, t, first, last, old, now, h1, h2, h3, h4, h5, h6 => by
    have hn := hl.head.2.2
    have hk := hl.head
    have e : (newU (ex (s :: l)) : Int) = (if s.kind = 2 then 0 else s.n) + newU (ex l) := by
      rw [ex, new_rep, Int.toNat_of_nonneg (by omega)]
    rw [e] at h6
    rw [hullS]
    have hz : (0 : Int) ≤ newU (ex l) := by omega
    by_cases c : s.kind = 0 ∧ max f old < min t (old + s.n)
    · rw [if_pos c, if_neg (show ¬ s.kind = 2 by omega)]
      rw [if_neg (show ¬ s.kind = 2 by omega)] at h6
      refine hull_bdA hl.tail M f t _ _ _ _ ?_ ?_ (by omega) (by omega) (by omega) (by omega) <;> (split <;> omega)
    · rw [if_neg c, if_neg (fun h => c h.1)]
      refine hull_bdA hl.tail M f t _ _ _ _ h1 h2 h3 h4 ?_ ?_
      · split <;> omega
      · split at h6 <;> (split <;> omega)
theorem hull_bd {l : List AxStep} {f t : Int} (hv : Valid l) (h : 0 ≤ f ∧ f ≤ t ∧ t ≤ oldI l) : 0 ≤ (hullS l f t 0 0 0 0).1 ∧ (hullS l f t 0 0 0 0).1 ≤ 2147483647 ∧ 0 ≤ (hullS l f t 0 0 0 0).2 ∧ (hullS l f t 0 0 0 0).2 ≤ 2147483647 :=
  hull_bdA hv.1 2147483647 f t 0 0 0 0 (by omega) (by omega) (by omega) (by omega) (by omega) (by have := hv.2.2; omega)

/-! ### Cells -/
def mvR (a : List AxStep) (p : Int) : Int := if 0 < a.length then placeS a p 0 0 else p
def mvC (rows cols : List AxStep) (c : Cell) : Option Cell :=
  if 0 < rows.length ∧ mvR rows c.row < 0 then none else if 0 < cols.length ∧ mvR cols c.col < 0 then none else some { c with row := mvR rows c.row, col := mvR cols c.col }
def movL (l : List Cell) (rows cols : List AxStep) : List Cell := l.filterMap (mvC rows cols)
def PIn (a : List AxStep) (p : Int) : Prop := 0 < a.length → Valid a ∧ 0 ≤ p ∧ p < oldI a
def CAN (k : Nat) (l : List Cell) : Prop := ∀ c ∈ l, c.attrs.length ≤ k
theorem getDC_mem {l : List Cell} {i : Nat} (h : i < l.length) : l.getD i default ∈ l := by
  rw [show l.getD i default = l[i] by simp [List.getD, List.getElem?_eq_getElem h]]; exact List.getElem_mem _
theorem movL_succ {l : List Cell} {rows cols : List AxStep} {i : Nat} (h : i < l.length) : movL (l.take (i + 1)) rows cols = movL (l.take i) rows cols ++ (mvC rows cols (l.getD i default)).toList := by
  unfold movL
  rw [List.take_succ_eq_append_getElem h, List.filterMap_append]
  simp only [List.getD, List.getElem?_eq_getElem h, Option.getD_some]
  simp only [List.filterMap_cons, List.filterMap_nil]
  cases mvC rows cols l[i] <;> rfl
theorem movL_len (l : List Cell) (rows cols : List AxStep) : (movL l rows cols).length ≤ l.length := List.length_filterMap_le _ _
/-- 'put': the cells ahead of c stay; the one at its place goes; c stands there unless it is empty. -/
def putC (c : Cell) (k : List Cell → List Cell) : List Cell → List Cell
  | [] => (if emptyC c = true then [] else [c]) ++ k []
  | x :: l => if ordC x c < 0 then x :: putC c k l else if ordC x c = 0 then (if emptyC c = true then [] else [c]) ++ k l else (if emptyC c = true then [] else [c]) ++ k (x :: l)
def putL : List Cell → List Cell → List Cell
  | [], l => l
  | c :: ns, l => putC c (putL ns) l
theorem dropC {l : List Cell} {i : Nat} (h : i < l.length) : l.drop i = l.getD i default :: l.drop (i + 1) := by
  rw [List.drop_eq_getElem_cons h]; simp [List.getD, List.getElem?_eq_getElem h]
theorem dropC_end {l : List Cell} {i : Nat} (h : l.length ≤ i) : l.drop i = [] := List.drop_eq_nil_of_le h
theorem putC_lt {c : Cell} {k : List Cell → List Cell} {l : List Cell} {j : Nat} (h : j < l.length) (h0 : ordC (l.getD j default) c < 0) : putC c k (l.drop j) = l.getD j default :: putC c k (l.drop (j + 1)) := by
  rw [dropC h, putC, if_pos h0]
theorem putC_eq {c : Cell} {k : List Cell → List Cell} {l : List Cell} {j : Nat} (h : j < l.length) (h0 : ordC (l.getD j default) c = 0) : putC c k (l.drop j) = (if emptyC c = true then [] else [c]) ++ k (l.drop (j + 1)) := by
  rw [dropC h, putC, if_neg (by omega), if_pos h0]
theorem putC_gt {c : Cell} {k : List Cell → List Cell} {l : List Cell} {j : Nat} (h : j < l.length → 0 < ordC (l.getD j default) c) : putC c k (l.drop j) = (if emptyC c = true then [] else [c]) ++ k (l.drop j) := by
  by_cases hj : j < l.length
  · have := h hj
    rw [dropC hj, putC, if_neg (by omega), if_neg (by omega)]
  · rw [dropC_end (by omega), putC]
def bareC (c : Cell) : Cell := ⟨c.row, c.col, { data := #[] }, 0, []⟩
def sameC (a b : Cell) : Bool := (((a.row == b.row && a.col == b.col) && seq a.text b.text) && a.ref == b.ref) && sameL a.attrs b.attrs
def difC (c : Cell) (k : List Cell → List Cell) : List Cell → List Cell
  | [] => c :: k []
  | x :: l => if ordC x c < 0 then bareC x :: difC c k l else if ordC x c = 0 then (if sameC x c = true then k l else c :: k l) else c :: k (x :: l)
def difL : List Cell → List Cell → List Cell
  | [], fr => fr.map bareC
  | c :: ns, fr => difC c (difL ns) fr
end Go.Ch
end
