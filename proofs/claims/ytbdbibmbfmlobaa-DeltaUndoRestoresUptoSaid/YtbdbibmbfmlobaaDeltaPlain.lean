/- Steps of a delta: their encoding, the checks, lengths, units and what they do to a flow. -/
import Derived.Test.YtbdbibmbfmlobaaFlowPlain
import Derived.Test.YtbdbibmbfmlobaaAttrFacts
set_option linter.unusedVariables false
set_option linter.unusedSimpArgs false
namespace Go.Ch
open Go Go.Ab

structure DStep where
  kind : Int
  n : Int
  attrs : List Attr
  elems : List Elem
instance : Inhabited DStep := ⟨⟨0, 0, [], []⟩⟩
def dstepT (s : DStep) : Tree := .agg [.sc (.int .i64 s.kind), .sc (.int .i64 s.n), .lst 2 (s.attrs.map attrT), .lst 3 (s.elems.map elemT)]
def AN (n : Nat) (l : List Elem) : Prop := ∀ x ∈ l, x.attrs.length ≤ n
def stepD (s : DStep) : Int :=
  if s.kind = 1 then (if s.n ≠ 0 ∨ 0 < s.attrs.length then 4 else if s.elems.length = 0 then 11 else partE s.elems 0)
  else if s.kind = 0 ∨ s.kind = 2 then
    (if 0 < s.elems.length ∨ (s.kind = 2 ∧ 0 < s.attrs.length) then 4 else if s.n < 1 ∨ 2147483647 < s.n then 2 else chkA true s.attrs 0)
  else 8
def szD (s : DStep) : Int := if s.kind = 1 then (s.elems.length : Int) else s.n
def DOk (s : DStep) : Prop :=
  (s.kind = 1 ∧ s.n = 0 ∧ s.attrs = [] ∧ s.elems ≠ [] ∧ ∀ x ∈ s.elems, elemE x = 0) ∨
  ((s.kind = 0 ∨ s.kind = 2) ∧ s.elems = [] ∧ (s.kind = 2 → s.attrs = []) ∧ 1 ≤ s.n ∧ s.n ≤ 2147483647 ∧ VG true s.attrs)
theorem len0 {α : Type} {l : List α} : ¬ 0 < l.length ↔ l = [] := by
  rw [Nat.not_lt, Nat.le_zero, List.length_eq_zero_iff]
theorem step_iff {s : DStep} : stepD s = 0 ↔ DOk s := by
  unfold stepD DOk
  by_cases k1 : s.kind = 1
  · rw [if_pos k1]
    by_cases c1 : s.n ≠ 0 ∨ 0 < s.attrs.length
    · rw [if_pos c1]
      constructor
      · intro h; omega
      · rintro (⟨_, h1, h2, _⟩ | ⟨h, _⟩)
        · rw [h2] at c1; simp at c1; omega
        · omega
    rw [if_neg c1]
    by_cases c2 : s.elems.length = 0
    · rw [if_pos c2]
      constructor
      · intro h; omega
      · rintro (⟨_, _, _, h, _⟩ | ⟨h, _⟩)
        · exact absurd (List.length_eq_zero_iff.1 c2) h
        · omega
    rw [if_neg c2, part_iff]
    have ha : s.attrs = [] := len0.1 (by omega)
    constructor
    · intro h
      exact .inl ⟨k1, by omega, ha, fun e => c2 (by rw [e]; rfl), h⟩
    · rintro (⟨_, _, _, _, h⟩ | ⟨h, _⟩)
      · exact h
      · omega
  rw [if_neg k1]
  by_cases k2 : s.kind = 0 ∨ s.kind = 2
  · rw [if_pos k2]
    by_cases c1 : 0 < s.elems.length ∨ (s.kind = 2 ∧ 0 < s.attrs.length)
    · rw [if_pos c1]
      constructor
      · intro h; omega
      · rintro (⟨h, _⟩ | ⟨_, h1, h2, _⟩)
        · omega
        · rcases c1 with c | ⟨c, d⟩
          · rw [h1] at c; simp at c
          · rw [h2 c] at d; simp at d
    rw [if_neg c1]
    by_cases c2 : s.n < 1 ∨ 2147483647 < s.n
    · rw [if_pos c2]
      constructor
      · intro h; omega
      · rintro (⟨h, _⟩ | ⟨_, _, _, h1, h2, _⟩) <;> omega
    rw [if_neg c2, chk_iff]
    constructor
    · intro h
      exact .inr ⟨k2, len0.1 (by omega), fun h2 => len0.1 (by omega), by omega, by omega, h⟩
    · rintro (⟨h, _⟩ | ⟨_, _, _, _, _, h⟩)
      · omega
      · exact h
  · rw [if_neg k2]
    constructor
    · intro h; omega
    · rintro (⟨h, _⟩ | ⟨h, _⟩)
      · omega
      · exact absurd h k2
theorem stepD_sz {s : DStep} (h : stepD s = 0) : (s.kind = 0 ∨ s.kind = 1 ∨ s.kind = 2) ∧ 0 ≤ s.n ∧ s.n ≤ 2147483647 ∧ 1 ≤ szD s ∧ szD s ≤ max 2147483647 s.elems.length := by
  unfold szD
  rcases step_iff.1 h with ⟨k, n, a, e, _⟩ | ⟨k, _, _, n1, n2, _⟩
  · have : 0 < s.elems.length := List.length_pos_iff.2 e
    rw [if_pos k]; omega
  · rw [if_neg (by omega)]; omega
/-- Neighbours that a delta must not have. -/
def adjD (w x : DStep) : Bool := ((w.kind == x.kind) && ((x.kind != 0) || sameL w.attrs x.attrs)) || ((w.kind == 2) && (x.kind == 1))
theorem adjD_yes {w x : DStep} : adjD w x = true ↔ (w.kind = x.kind ∧ (¬ x.kind = 0 ∨ sameL w.attrs x.attrs = true)) ∨ (w.kind = 2 ∧ x.kind = 1) := by
  unfold adjD; simp
theorem adjD_no {w x : DStep} (h : (¬ w.kind = x.kind ∨ (x.kind = 0 ∧ sameL w.attrs x.attrs = false)) ∧ (¬ w.kind = 2 ∨ ¬ x.kind = 1)) : ¬ adjD w x = true := by
  rw [adjD_yes]
  rintro (⟨a, b⟩ | ⟨a, b⟩)
  · rcases h.1 with c | ⟨c, d⟩
    · exact c a
    · rcases b with b | b
      · exact b c
      · rw [d] at b; cases b
  · rcases h.2 with c | c
    · exact c a
    · exact c b
/-- Bounds on the lists inside. -/
def DN (n : Nat) (l : List DStep) : Prop := ∀ s ∈ l, s.elems.length ≤ n ∧ s.attrs.length ≤ n ∧ AN n s.elems
theorem DN.at_ {n : Nat} {l : List DStep} (h : DN n l) {k : Nat} (hk : k < l.length) : (l.getD k default).elems.length ≤ n ∧ (l.getD k default).attrs.length ≤ n ∧ AN n (l.getD k default).elems := by
  refine h _ ?_
  rw [show l.getD k default = l[k] by simp [List.getD, List.getElem?_eq_getElem hk]]
  exact List.getElem_mem hk
def chkD (l : List DStep) (i : Nat) (b a : Int) : Int :=
  if i < l.length then
    if stepD (l.getD i default) ≠ 0 then stepD (l.getD i default)
    else if 0 < i ∧ adjD (l.getD (i - 1) default) (l.getD i default) = true then 5
    else chkD l (i + 1) (if (l.getD i default).kind ≠ 1 then min (b + (l.getD i default).n) 2147483648 else b) (if (l.getD i default).kind ≠ 2 then min (a + szD (l.getD i default)) 2147483648 else a)
  else if 2147483647 < b ∨ 2147483647 < a then 3 else 0
termination_by l.length - i
def checkD (l : List DStep) : Int := chkD l 0 0 0
def oS (s : DStep) : Int := if s.kind = 1 then 0 else s.n
def nS (s : DStep) : Int := if s.kind = 2 then 0 else szD s
def oldD : List DStep → Int
  | [] => 0
  | s :: l => oS s + oldD l
def newD : List DStep → Int
  | [] => 0
  | s :: l => nS s + newD l
def DForm : List DStep → Prop
  | [] => True
  | [s] => DOk s
  | s :: t :: l => DOk s ∧ adjD s t = false ∧ DForm (t :: l)
def DFormAt (l : List DStep) (i : Nat) : Prop := ∀ k, i ≤ k → k < l.length → DOk (l.getD k default) ∧ (0 < k → adjD (l.getD (k - 1) default) (l.getD k default) = false)
theorem dropD {α : Type} [Inhabited α] {l : List α} {i : Nat} (h : i < l.length) : l.drop i = l.getD i default :: l.drop (i + 1) := by
  rw [List.drop_eq_getElem_cons h]; simp [List.getD, List.getElem?_eq_getElem h]
theorem oS_nn {s : DStep} (h : DOk s) : 0 ≤ oS s ∧ 0 ≤ nS s := by
  have := stepD_sz (step_iff.2 h)
  unfold oS nS
  constructor <;> split <;> omega
theorem atD_drop {l : List DStep} {i : Nat} (h : DFormAt l i) : ∀ s ∈ l.drop i, DOk s := by
  intro s hs
  obtain ⟨k, hk, e⟩ := List.mem_iff_getElem.1 hs
  rw [List.length_drop] at hk
  have := (h (i + k) (by omega) (by omega)).1
  rw [List.getElem_drop] at e
  rw [← e]
  simpa [List.getD, List.getElem?_eq_getElem (show i + k < l.length by omega)] using this
theorem sums_nn : ∀ {l : List DStep}, (∀ s ∈ l, DOk s) → 0 ≤ oldD l ∧ 0 ≤ newD l
  | [], _ => ⟨Int.le_refl _, Int.le_refl _⟩
  | s :: l, h => by
    have h1 := oS_nn (h s (by simp))
    have h2 := sums_nn (l := l) (fun t ht => h t (by simp [ht]))
    simp only [oldD, newD]; omega
theorem chkD_all (l : List DStep) : ∀ (m i : Nat) (b a : Int), l.length - i = m → 0 ≤ b → 0 ≤ a → b ≤ 2147483648 → a ≤ 2147483648 →
    (chkD l i b a = 0 ↔ DFormAt l i ∧ b + oldD (l.drop i) ≤ 2147483647 ∧ a + newD (l.drop i) ≤ 2147483647)
  | 0, i, b, a, h, hb, ha, hb2, ha2 => by
    rw [chkD, if_neg (by omega), List.drop_eq_nil_of_le (by omega)]
    simp only [oldD, newD]
    split
    · constructor
      · intro h; omega
      · rintro ⟨_, h1, h2⟩; omega
    · exact ⟨fun _ => ⟨fun k h1 h2 => by omega, by omega, by omega⟩, fun _ => rfl⟩
  | m + 1, i, b, a, h, hb, ha, hb2, ha2 => by
    have hi : i < l.length := by omega
    rw [chkD, if_pos hi]
    have step : DFormAt l i ↔ (DOk (l.getD i default) ∧ (0 < i → adjD (l.getD (i - 1) default) (l.getD i default) = false)) ∧ DFormAt l (i + 1) := by
      constructor
      · exact fun h => ⟨h i (Nat.le_refl _) hi, fun k h1 h2 => h k (by omega) h2⟩
      · rintro ⟨h1, h2⟩ k h3 h4
        by_cases e : k = i
        · subst e; exact h1
        · exact h2 k (by omega) h4
    rw [step, dropD hi]
    simp only [oldD, newD]
    have ih := fun b' a' => chkD_all l m (i + 1) b' a' (by omega)
    have nn := fun f : DFormAt l (i + 1) => sums_nn (atD_drop f)
    generalize l.getD i default = x at *
    generalize l.getD (i - 1) default = y at *
    by_cases c1 : stepD x ≠ 0
    · rw [if_pos c1]; constructor
      · intro h; exact absurd h c1
      · rintro ⟨⟨⟨h, _⟩, _⟩, _⟩; exact absurd (step_iff.2 h) c1
    rw [if_neg c1]
    have hs := step_iff.1 (by omega : stepD x = 0)
    have hz := stepD_sz (by omega : stepD x = 0)
    by_cases c3 : 0 < i ∧ adjD y x = true
    · rw [if_pos c3]; constructor
      · intro h; omega
      · rintro ⟨⟨⟨_, h⟩, _⟩, _⟩
        have := h c3.1
        rw [c3.2] at this; cases this
    rw [if_neg c3, ih _ _ (by split <;> omega) (by split <;> omega) (by split <;> omega) (by split <;> omega)]
    unfold oS nS
    constructor
    · rintro ⟨f, h1, h2⟩
      obtain ⟨n0, n1⟩ := nn f
      refine ⟨⟨⟨hs, fun h0 => ?_⟩, f⟩, ?_, ?_⟩
      · cases e : adjD y x
        · rfl
        · exact absurd ⟨h0, e⟩ c3
      · by_cases k1 : x.kind = 1
        · rw [if_pos k1]; rw [if_neg (by omega)] at h1; omega
        · rw [if_neg k1]; rw [if_pos k1] at h1; omega
      · by_cases k1 : x.kind = 2
        · rw [if_pos k1]; rw [if_neg (by omega)] at h2; omega
        · rw [if_neg k1]; rw [if_pos k1] at h2; omega
    · rintro ⟨⟨_, f⟩, h1, h2⟩
      obtain ⟨n0, n1⟩ := nn f
      refine ⟨f, ?_, ?_⟩
      · by_cases k1 : x.kind = 1
        · rw [if_pos k1] at h1; rw [if_neg (by omega)]; omega
        · rw [if_neg k1] at h1; rw [if_pos k1]; omega
      · by_cases k1 : x.kind = 2
        · rw [if_pos k1] at h2; rw [if_neg (by omega)]; omega
        · rw [if_neg k1] at h2; rw [if_pos k1]; omega
theorem dform_of_at : ∀ {l : List DStep}, DFormAt l 0 → DForm l
  | [], _ => trivial
  | [s], h => (h 0 (Nat.le_refl _) (by simp)).1
  | s :: t :: l, h => by
    refine ⟨(h 0 (Nat.le_refl _) (by simp)).1, (h 1 (by omega) (by simp)).2 (by omega), dform_of_at (fun k h1 h2 => ?_)⟩
    have h2' : k + 1 < (s :: t :: l).length := by simp at h2 ⊢; omega
    have := h (k + 1) (by omega) h2'
    simp only [List.getD_cons_succ] at this
    refine ⟨this.1, fun h0 => ?_⟩
    have e := this.2 (by omega)
    rw [show k + 1 - 1 = (k - 1) + 1 by omega, List.getD_cons_succ] at e
    exact e
theorem at_of_dform : ∀ {l : List DStep}, DForm l → DFormAt l 0
  | [], _ => fun k h1 h2 => by simp at h2
  | [s], h => fun k h1 h2 => by
    have : k = 0 := by simp at h2; omega
    subst this
    exact ⟨h, fun h0 => by omega⟩
  | s :: t :: l, h => fun k h1 h2 => by
    obtain ⟨a, b, c⟩ := h
    rcases k with _ | k
    · exact ⟨a, fun h0 => by omega⟩
    · have := at_of_dform c k (Nat.zero_le _) (by simp at h2 ⊢; omega)
      rw [List.getD_cons_succ]
      refine ⟨this.1, fun _ => ?_⟩
      rcases k with _ | k
      · exact b
      · rw [Nat.add_sub_cancel, List.getD_cons_succ]
        have e := this.2 (by omega)
        rw [Nat.add_sub_cancel] at e
        exact e
def DValid (l : List DStep) : Prop := DForm l ∧ oldD l ≤ 2147483647 ∧ newD l ≤ 2147483647
theorem checkD_iff {l : List DStep} : checkD l = 0 ↔ DValid l := by
  unfold checkD DValid
  rw [chkD_all l _ 0 0 0 rfl (Int.le_refl _) (Int.le_refl _) (by decide) (by decide)]
  simp only [List.drop_zero, Int.zero_add]
  exact ⟨fun h => ⟨dform_of_at h.1, h.2⟩, fun h => ⟨at_of_dform h.1, h.2⟩⟩
theorem DForm.all {l : List DStep} (h : DForm l) : ∀ s ∈ l, DOk s := by
  have := atD_drop (at_of_dform h)
  simpa using this

theorem dlens_step {l : List DStep} {i : Nat} (h : i < l.length) (hf : DForm l) : oldD (l.drop i) = (if (l.getD i default).kind = 1 then 0 else (l.getD i default).n) + oldD (l.drop (i + 1)) ∧
    newD (l.drop i) = (if (l.getD i default).kind = 2 then 0 else szD (l.getD i default)) + newD (l.drop (i + 1)) ∧ DOk (l.getD i default) ∧ 0 ≤ oldD (l.drop (i + 1)) ∧ 0 ≤ newD (l.drop (i + 1)) ∧ 0 ≤ (l.getD i default).n ∧ 1 ≤ szD (l.getD i default) ∧ ((l.getD i default).kind = 0 ∨ (l.getD i default).kind = 1 ∨ (l.getD i default).kind = 2) := by
  have h1 := ((at_of_dform hf) i (Nat.zero_le _) h).1
  have h2 := stepD_sz (step_iff.2 h1)
  have h3 := sums_nn (l := l.drop (i + 1)) (fun s hs => hf.all s (List.mem_of_mem_drop hs))
  rw [dropD h]
  exact ⟨rfl, rfl, h1, h3.1, h3.2, h2.2.1, h2.2.2.2.1, h2.1⟩
theorem dend {l : List DStep} {i : Nat} (h : l.length ≤ i) : oldD (l.drop i) = 0 ∧ newD (l.drop i) = 0 := by rw [List.drop_eq_nil_of_le h]; exact ⟨rfl, rfl⟩

/-! ### The reference's check -/
def adjR (w x : DStep) : Prop := if x.kind = 1 then w.kind ≠ 0 else if x.kind = 2 then w.kind = 2 else w.kind = 0 ∧ sameL w.attrs x.attrs = true
instance (w x : DStep) : Decidable (adjR w x) := by unfold adjR; infer_instance
theorem adjR_1 {w x : DStep} (h : x.kind = 1) (k : w.kind ≠ 0) : adjR w x := by unfold adjR; rw [if_pos h]; exact k
theorem adjR_2 {w x : DStep} (h : x.kind = 2) (k : w.kind = 2) : adjR w x := by unfold adjR; rw [if_neg (by omega), if_pos h]; exact k
theorem adjR_0 {w x : DStep} (h : x.kind ≠ 1) (h2 : x.kind ≠ 2) (k : w.kind = 0 ∧ sameL w.attrs x.attrs = true) : adjR w x := by unfold adjR; rw [if_neg h, if_neg h2]; exact k
theorem adjR_n1 {w x : DStep} (h : x.kind = 1) (k : w.kind = 0) : ¬ adjR w x := by unfold adjR; rw [if_pos h]; exact fun q => q k
theorem adjR_n2 {w x : DStep} (h : x.kind = 2) (k : ¬ w.kind = 2) : ¬ adjR w x := by unfold adjR; rw [if_neg (by omega), if_pos h]; exact k
theorem adjR_n0 {w x : DStep} (h : x.kind ≠ 1) (h2 : x.kind ≠ 2) (k : ¬ w.kind = 0 ∨ sameL w.attrs x.attrs = false) : ¬ adjR w x := by
  unfold adjR; rw [if_neg h, if_neg h2]
  rintro ⟨a, b⟩
  rcases k with k | k
  · exact k a
  · rw [k] at b; cases b
def chkR (l : List DStep) (i : Nat) (b a : Int) : Int :=
  if i < l.length then
    if stepD (l.getD i default) ≠ 0 then stepD (l.getD i default)
    else if 0 < i ∧ adjR (l.getD (i - 1) default) (l.getD i default) then 5
    else chkR l (i + 1) (if (l.getD i default).kind ≠ 1 ∧ b < 2147483648 then b + (l.getD i default).n else b) (if (l.getD i default).kind ≠ 2 ∧ a < 2147483648 then a + ((l.getD i default).n + (l.getD i default).elems.length) else a)
  else if 2147483647 < b ∨ 2147483647 < a then 3 else 0
termination_by l.length - i
def refD (l : List DStep) : Int := chkR l 0 0 0
theorem adjR_iff {w x : DStep} (hw : stepD w = 0) (hx : stepD x = 0) : adjR w x ↔ adjD w x = true := by
  have h1 := (stepD_sz hw).1
  have h2 := (stepD_sz hx).1
  rw [adjD_yes]
  unfold adjR
  by_cases k1 : x.kind = 1
  · rw [if_pos k1]; constructor
    · intro h
      rcases h1 with q | q | q
      · exact absurd q h
      · exact .inl ⟨by omega, .inl (by omega)⟩
      · exact .inr ⟨q, k1⟩
    · rintro (⟨h, _⟩ | ⟨h, _⟩) <;> omega
  rw [if_neg k1]
  by_cases k2 : x.kind = 2
  · rw [if_pos k2]; constructor
    · intro h; exact .inl ⟨by omega, .inl (by omega)⟩
    · rintro (⟨h, _⟩ | ⟨h, _⟩) <;> omega
  rw [if_neg k2]
  constructor
  · rintro ⟨a, b⟩; exact .inl ⟨by omega, .inr b⟩
  · rintro (⟨h, q | q⟩ | ⟨h, _⟩)
    · omega
    · exact ⟨by omega, q⟩
    · omega
theorem szD_sum {x : DStep} (h : stepD x = 0) : szD x = x.n + x.elems.length := by
  unfold szD
  rcases step_iff.1 h with ⟨k, n, _⟩ | ⟨k, e, _⟩
  · rw [if_pos k]; omega
  · rw [if_neg (by omega), e]; simp
theorem chkR_all (l : List DStep) : ∀ (m i : Nat) (b a : Int), l.length - i = m → 0 ≤ b → 0 ≤ a → (0 < i → stepD (l.getD (i - 1) default) = 0) →
    (chkR l i b a = 0 ↔ chkD l i (min b 2147483648) (min a 2147483648) = 0)
  | 0, i, b, a, h, hb, ha, hw => by
    rw [chkR, chkD, if_neg (show ¬ i < l.length by omega), if_neg (show ¬ i < l.length by omega)]
    split <;> split <;> first | exact Iff.rfl | (exfalso; omega)
  | m + 1, i, b, a, h, hb, ha, hw => by
    have hi : i < l.length := by omega
    rw [chkR, chkD, if_pos hi, if_pos hi]
    have ih := fun b' a' hb' ha' => chkR_all l m (i + 1) b' a' (by omega) hb' ha'
    rw [Nat.add_sub_cancel] at ih
    generalize l.getD i default = x at *
    generalize l.getD (i - 1) default = y at *
    by_cases c1 : stepD x ≠ 0
    · rw [if_pos c1, if_pos c1]
    have c0 : stepD x = 0 := by omega
    have hz := stepD_sz c0
    have hs := szD_sum c0
    rw [if_neg c1, if_neg c1]
    by_cases c3 : 0 < i ∧ adjD y x = true
    · rw [if_pos c3, if_pos ⟨c3.1, (adjR_iff (hw c3.1) c0).2 c3.2⟩]
    rw [if_neg c3, if_neg (fun q => c3 ⟨q.1, (adjR_iff (hw q.1) c0).1 q.2⟩), ih _ _ (by split <;> omega) (by split <;> omega) (fun _ => c0)]
    rw [← hs]
    have e1 : min (if x.kind ≠ 1 ∧ b < 2147483648 then b + x.n else b) 2147483648 = if x.kind ≠ 1 then min (min b 2147483648 + x.n) 2147483648 else min b 2147483648 := by
      split <;> split <;> omega
    have e2 : min (if x.kind ≠ 2 ∧ a < 2147483648 then a + szD x else a) 2147483648 = if x.kind ≠ 2 then min (min a 2147483648 + szD x) 2147483648 else min a 2147483648 := by
      split <;> split <;> omega
    rw [e1, e2]
theorem refD_iff {l : List DStep} : refD l = 0 ↔ DValid l := by
  rw [← checkD_iff]
  exact chkR_all l _ 0 0 0 rfl (Int.le_refl _) (Int.le_refl _) (fun h => by omega)
def sumNs : List DStep → Int
  | [] => 0
  | s :: l => s.n + sumNs l
/-- Sizes of the strings inside. -/
def sameDS (x y : DStep) : Bool := ((x.kind == y.kind) && (x.n == y.n)) && (sameL x.attrs y.attrs && sameF x.elems y.elems)

/-! ### Units -/
inductive DU where
  | K (c : List Attr)
  | A (e : Elem)
  | C
def exS (s : DStep) : List DU := if s.kind = 1 then s.elems.map .A else if s.kind = 2 then List.replicate s.n.toNat .C else List.replicate s.n.toNat (.K s.attrs)
def exD : List DStep → List DU
  | [] => []
  | s :: l => exS s ++ exD l
theorem exD_app (a b : List DStep) : exD (a ++ b) = exD a ++ exD b := by
  induction a with
  | nil => rfl
  | cons s a ih => simp [exD, ih]
/-- An element changed by an attribute change. -/
def chgE (c : List Attr) (x : Elem) : Elem := ⟨x.char, x.ref, fm rawG x.attrs c⟩
def applyU : List DU → List Elem → List Elem
  | [], _ => []
  | .A e :: u, l => e :: applyU u l
  | .K c :: u, x :: l => chgE c x :: applyU u l
  | .C :: u, _ :: l => applyU u l
  | .K _ :: u, [] => applyU u []
  | .C :: u, [] => applyU u []
def undoU : List DU → List Elem → List DU
  | [], _ => []
  | .A _ :: u, l => .C :: undoU u l
  | .K c :: u, x :: l => .K (fm chgG (fm rawG x.attrs c) x.attrs) :: undoU u l
  | .C :: u, x :: l => .A x :: undoU u l
  | .K _ :: u, [] => undoU u []
  | .C :: u, [] => undoU u []
def oldN : List DU → Nat
  | [] => 0
  | .A _ :: u => oldN u
  | _ :: u => oldN u + 1
def newN : List DU → Nat
  | [] => 0
  | .C :: u => newN u
  | _ :: u => newN u + 1
def UOk : List DU → Prop
  | [] => True
  | .K c :: u => VG true c ∧ UOk u
  | _ :: u => UOk u
theorem undoU_back : ∀ (u : List DU) (l : List Elem), oldN u = l.length → UOk u → (∀ x ∈ l, VG false x.attrs) → applyU (undoU u l) (applyU u l) = l
  | [], [], _, _, _ => rfl
  | [], _ :: _, h, _, _ => by simp [oldN] at h
  | .A e :: u, l, h, hu, hl => by simp only [undoU, applyU]; exact undoU_back u l h hu hl
  | .K c :: u, [], h, _, _ => by simp [oldN] at h
  | .C :: u, [], h, _, _ => by simp [oldN] at h
  | .K c :: u, x :: l, h, hu, hl => by
    simp only [undoU, applyU]
    rw [undoU_back u l (by simpa [oldN] using h) hu.2 (fun y hy => hl y (by simp [hy]))]
    congr 1
    unfold chgE
    simp only
    rw [undo_back np_mt vp_mt (hl x (by simp)) hu.1]
  | .C :: u, x :: l, h, hu, hl => by
    simp only [undoU, applyU]
    rw [undoU_back u l (by simpa [oldN] using h) hu (fun y hy => hl y (by simp [hy]))]
inductive DSw : List DU → List DU → Prop
  | refl (u : List DU) : DSw u u
  | cons (x : DU) {u v : List DU} (h : DSw u v) : DSw (x :: u) (x :: v)
  | swap (e : Elem) (u : List DU) : DSw (.A e :: .C :: u) (.C :: .A e :: u)
  | symm {u v : List DU} (h : DSw u v) : DSw v u
  | trans {u v w : List DU} (h : DSw u v) (k : DSw v w) : DSw u w
theorem DSw.left (w : List DU) {u v : List DU} (h : DSw u v) : DSw (w ++ u) (w ++ v) := by
  induction w with
  | nil => exact h
  | cons x w ih => exact .cons x ih
theorem DSw.right (w : List DU) {u v : List DU} (h : DSw u v) : DSw (u ++ w) (v ++ w) := by
  induction h with
  | refl u => exact .refl _
  | cons x _ ih => exact .cons x ih
  | swap e u => exact .swap e _
  | symm _ ih => exact .symm ih
  | trans _ _ a b => exact .trans a b
theorem sw_applyU {u v : List DU} (h : DSw u v) : ∀ l, applyU u l = applyU v l := by
  induction h with
  | refl u => exact fun _ => rfl
  | cons x _ ih =>
    intro l
    cases x <;> cases l <;> simp [applyU, ih]
  | swap e u => intro l; cases l <;> simp [applyU]
  | symm _ ih => exact fun l => (ih l).symm
  | trans _ _ a b => exact fun l => (a l).trans (b l)
theorem dsw_lens {u v : List DU} (h : DSw u v) : oldN u = oldN v ∧ newN u = newN v := by
  induction h with
  | refl u => exact ⟨rfl, rfl⟩
  | cons x _ ih => cases x <;> simp [oldN, newN, ih.1, ih.2]
  | swap e u => exact ⟨rfl, rfl⟩
  | symm _ ih => exact ⟨ih.1.symm, ih.2.symm⟩
  | trans _ _ a b => exact ⟨a.1.trans b.1, a.2.trans b.2⟩
theorem dsw_C_As (e : List Elem) (u : List DU) : DSw (.C :: (e.map .A ++ u)) (e.map .A ++ .C :: u) := by
  induction e with
  | nil => exact .refl _
  | cons x e ih => exact .trans (.symm (.swap x _)) (.cons _ ih)
theorem dsw_Cs_As (c : Nat) (e : List Elem) (u : List DU) : DSw (List.replicate c .C ++ (e.map .A ++ u)) (e.map .A ++ (List.replicate c .C ++ u)) := by
  induction c with
  | zero => exact .refl _
  | succ c ih => exact .trans (.cons _ ih) (dsw_C_As e _)
theorem applyU_As (e : List Elem) (u : List DU) (l : List Elem) : applyU (e.map .A ++ u) l = e ++ applyU u l := by
  induction e with
  | nil => rfl
  | cons x e ih => simp [applyU, ih]
theorem applyU_Ks (n : Nat) (c : List Attr) (u : List DU) : ∀ l : List Elem, applyU (List.replicate n (.K c) ++ u) l = (l.take n).map (chgE c) ++ applyU u (l.drop n) := by
  induction n with
  | zero => intro l; simp
  | succ n ih =>
    intro l
    cases l with
    | nil => have := ih []; simpa [applyU, List.replicate_succ] using this
    | cons x l => simp [applyU, List.replicate_succ, ih]
theorem applyU_Cs (n : Nat) (u : List DU) : ∀ l : List Elem, applyU (List.replicate n .C ++ u) l = applyU u (l.drop n) := by
  induction n with
  | zero => intro l; simp
  | succ n ih =>
    intro l
    cases l with
    | nil => have := ih []; simpa [applyU, List.replicate_succ] using this
    | cons x l => simp [applyU, List.replicate_succ, ih]
def rawD (l : List Elem) (d : List DStep) : List Elem := applyU (exD d) l
/-- One step of the walk over a flow. -/
theorem raw_at {d : List DStep} {i : Nat} (h : i < d.length) (l : List Elem) : applyU (exD (d.drop i)) l =
    if (d.getD i default).kind = 1 then (d.getD i default).elems ++ applyU (exD (d.drop (i + 1))) l
    else if (d.getD i default).kind = 2 then applyU (exD (d.drop (i + 1))) (l.drop (d.getD i default).n.toNat)
    else (l.take (d.getD i default).n.toNat).map (chgE (d.getD i default).attrs) ++ applyU (exD (d.drop (i + 1))) (l.drop (d.getD i default).n.toNat) := by
  rw [dropD h, exD]
  unfold exS
  split
  · rw [applyU_As]
  · split
    · rw [applyU_Cs]
    · rw [applyU_Ks]
end Go.Ch
