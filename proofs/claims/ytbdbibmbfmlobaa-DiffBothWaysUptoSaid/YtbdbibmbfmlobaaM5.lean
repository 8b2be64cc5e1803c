/- Steps of a delta: their encoding, the checks, lengths, units and what they do to a flow. -/
import Derived.Test.YtbdbibmbfmlobaaM1
import Derived.Test.YtbdbibmbfmlobaaM2
import Derived.Test.YtbdbibmbfmlobaaM3
import Derived.Test.YtbdbibmbfmlobaaM4
import Derived.Test.YtbdbibmbfmlobaaProg
section
set_option linter.unusedVariables false
set_option linter.unusedSimpArgs false
namespace Go.Ch
open Go Go.Ab

structure DStep where
  kind : Int
  n : Int
  attrs : List Attr
  elems : List Elem
instance : Inhabited DStep := ⟨⟨0, 0, [], []⟩⟩
def dstepT (s : DStep) : Tree := .agg [.sc (.int .i64 s.kind), .sc (.int .i64 s.n), .lst 2 (s.attrs.map attrT), .lst 3 (s.elems.map elemT)]
def AN (n : Nat) (l : List Elem) : Prop := ∀ x ∈ l, x.attrs.length ≤ n
def stepD (s : DStep) : Int :=
  if s.kind = 1 then (if s.n ≠ 0 ∨ 0 < s.attrs.length then 4 else if s.elems.length = 0 then 11 else partE s.elems 0)
  else if s.kind = 0 ∨ s.kind = 2 then
    (if 0 < s.elems.length ∨ (s.kind = 2 ∧ 0 < s.attrs.length) then 4 else if s.n < 1 ∨ 2147483647 < s.n then 2 else chkA true s.attrs 0)
  else 8
def szD (s : DStep) : Int := if s.kind = 1 then (s.elems.length : Int) else s.n
def DOk (s : DStep) : Prop :=
  (s.kind = 1 ∧ s.n = 0 ∧ s.attrs = [] ∧ s.elems ≠ [] ∧ ∀ x ∈ s.elems, elemE x = 0) ∨
  ((s.kind = 0 ∨ s.kind = 2) ∧ s.elems = [] ∧ (s.kind = 2 → s.attrs = []) ∧ 1 ≤ s.n ∧ s.n ≤ 2147483647 ∧ VG true s.attrs)
theorem len0 {α : Type} {l : List α} : ¬ 0 < l.length ↔ l = [] := by
  rw [Nat.not_lt, Nat.le_zero, List.length_eq_zero_iff]
theorem step_iff {s : DStep} : stepD s = 0 ↔ DOk s := by
  unfold stepD DOk
  by_cases k1 : s.kind = 1
  · rw [if_pos k1]
    by_cases c1 : s.n ≠ 0 ∨ 0 < s.attrs.length
    · rw [if_pos c1]
      constructor
      · intro h; omega
      · rintro (⟨_, h1, h2, _⟩ | ⟨h, _⟩)
        · rw [h2] at c1; simp at c1; omega
        · omega
    rw [if_neg c1]
    by_cases c2 : s.elems.length = 0
    · rw [if_pos c2]
      constructor
      · intro h; omega
      · rintro (⟨_, _, _, h, _⟩ | ⟨h, _⟩)
        · exact absurd (List.length_eq_zero_iff.1 c2) h
        · omega
    rw [if_neg c2, part_iff]
    have ha : s.attrs = [] := len0.1 (by omega)
    constructor
    · intro h
      exact .inl ⟨k1, by omega, ha, fun e => c2 (by rw [e]; rfl), h⟩
    · rintro (⟨_, _, _, _, h⟩ | ⟨h, _⟩)
      · exact h
      · omega
  rw [if_neg k1]
  by_cases k2 : s.kind = 0 ∨ s.kind = 2
  · rw [if_pos k2]
    by_cases c1 : 0 < s.elems.length ∨ (s.kind = 2 ∧ 0 < s.attrs.length)
    · rw [if_pos c1]
      constructor
      · intro h; omega
      · rintro (⟨h, _⟩ | ⟨_, h1, h2, _⟩)
        · omega
        · rcases c1 with c | ⟨c, d⟩
          · rw [h1] at c; simp at c
          · rw [h2 c] at d; simp at d
    rw [if_neg c1]
    by_cases c2 : s.n < 1 ∨ 2147483647 < s.n
    · rw [if_pos c2]
      constructor
      · intro h; omega
      · rintro (⟨h, _⟩ | ⟨_, _, _, h1, h2, _⟩) <;> omega
    rw [if_neg c2, chk_iff]
    constructor
    · intro h
      exact .inr ⟨k2, len0.1 (by omega), fun h2 => len0.1 (by omega), by omega, by omega, h⟩
    · rintro (⟨h, _⟩ | ⟨_, _, _, _, _, h⟩)
      · omega
      · exact h
  · rw [if_neg k2]
    constructor
    · intro h; omega
    · rintro (⟨h, _⟩ | ⟨h, _⟩)
      · omega
      · exact absurd h k2
theorem stepD_sz {s : DStep} (h : stepD s = 0) : (s.kind = 0 ∨ s.kind = 1 ∨ s.kind = 2) ∧ 0 ≤ s.n ∧ s.n ≤ 2147483647 ∧ 1 ≤ szD s ∧ szD s ≤ max 2147483647 s.elems.length := by
  unfold szD
  rcases step_iff.1 h with ⟨k, n, a, e, _⟩ | ⟨k, _, _, n1, n2, _⟩
  · have : 0 < s.elems.length := List.length_pos_iff.2 e
    rw [if_pos k]; omega
  · rw [if_neg (by omega)]; omega
/-- Neighbours that a delta must not have. -/
def adjD (w x : DStep) : Bool := ((w.kind == x.kind) && ((x.kind != 0) || sameL w.attrs x.attrs)) || ((w.kind == 2) && (x.kind == 1))
theorem adjD_yes {w x : DStep} : adjD w x = true ↔ (w.kind = x.kind ∧ (¬ x.kind = 0 ∨ sameL w.attrs x.attrs = true)) ∨ (w.kind = 2 ∧ x.kind = 1) := by
  unfold adjD; simp
theorem adjD_no {w x : DStep} (h : (¬ w.kind = x.kind ∨ (x.kind = 0 ∧ sameL w.attrs x.attrs = false)) ∧ (¬ w.kind = 2 ∨ ¬ x.kind = 1)) : ¬ adjD w x = true := by
  rw [adjD_yes]
  rintro (⟨a, b⟩ | ⟨a, b⟩)
  · rcases h.1 with c | ⟨c, d⟩
    · exact c a
    · rcases b with b | b
      · exact b c
      · rw [d] at b; cases b
  · rcases h.2 with c | c
    · exact c a
    · exact c b
/-- Bounds on the lists inside. -/
def DN (n : Nat) (l : List DStep) : Prop := ∀ s ∈ l, s.elems.length ≤ n ∧ s.attrs.length ≤ n ∧ AN n s.elems
theorem DN.at_ {n : Nat} {l : List DStep} (h : DN n l) {k : Nat} (hk : k < l.length) : (l.getD k default).elems.length ≤ n ∧ (l.getD k default).attrs.length ≤ n ∧ AN n (l.getD k default).elems := by
  refine h _ ?_
  rw [show l.getD k default = l[k] by simp [List.getD, List.getElem?_eq_getElem hk]]
  exact List.getElem_mem hk
def chkD (l : List DStep) (i : Nat) (b a : Int) : Int :=
  if i < l.length then
    if stepD (l.getD i default) ≠ 0 then stepD (l.getD i default)
    else if 0 < i ∧ adjD (l.getD (i - 1) default) (l.getD i default) = true then 5
    else chkD l (i + 1) (if (l.getD i default).kind ≠ 1 then min (b + (l.getD i default).n) 2147483648 else b) (if (l.getD i default).kind ≠ 2 then min (a + szD (l.getD i default)) 2147483648 else a)
  else if 2147483647 < b ∨ 2147483647 < a then 3 else 0
termination_by l.length - i
def checkD (l : List DStep) : Int := chkD l 0 0 0
def oS (s : DStep) : Int := if s.kind = 1 then 0 else s.n
def nS (s : DStep) : Int := if s.kind = 2 then 0 else szD s
def oldD : List DStep → Int
  | [] => 0
  | s :: l => oS s + oldD l
def newD : List DStep → Int
  | [] => 0
  | s :: l => nS s + newD l
def DForm : List DStep → Prop
  | [] => True
  | [s] => DOk s
  | s :: t :: l => DOk s ∧ adjD s t = false ∧ DForm (t :: l)
def DFormAt (l : List DStep) (i : Nat) : Prop := ∀ k, i ≤ k → k < l.length → DOk (l.getD k default) ∧ (0 < k → adjD (l.getD (k - 1) default) (l.getD k default) = false)
theorem dropD {α : Type} [Inhabited α] {l : List α} {i : Nat} (h : i < l.length) : l.drop i = l.getD i default :: l.drop (i + 1) := by
  rw [List.drop_eq_getElem_cons h]; simp [List.getD, List.getElem?_eq_getElem h]
theorem oS_nn {s : DStep} (h : DOk s) : 0 ≤ oS s ∧ 0 ≤ nS s := by
  have := stepD_sz (step_iff.2 h)
  unfold oS nS
  constructor <;> split <;> omega
theorem atD_drop {l : List DStep} {i : Nat} (h : DFormAt l i) : ∀ s ∈ l.drop i, DOk s := by
  intro s hs
  obtain ⟨k, hk, e⟩ := List.mem_iff_getElem.1 hs
  rw [List.length_drop] at hk
  have := (h (i + k) (by omega) (by omega)).1
  rw [List.getElem_drop] at e
  rw [← e]
  simpa [List.getD, List.getElem?_eq_getElem (show i + k < l.length by omega)] using this
theorem sums_nn : ∀ {l : List DStep}, (∀ s ∈ l, DOk s) → 0 ≤ oldD l ∧ 0 ≤ newD l
  | [], _ => ⟨Int.le_refl _, Int.le_refl _⟩
  | s :: l, h => by
    have h1 := oS_nn (h s (by simp))
    have h2 := sums_nn (l := l) (fun t ht => h t (by simp [ht]))
    simp only [oldD, newD]; omega
theorem chkD_all (l : List DStep) : ∀ (m i : Nat) (b a : Int), l.length - i = m → 0 ≤ b → 0 ≤ a → b ≤ 2147483648 → a ≤ 2147483648 →
    (chkD l i b a = 0 ↔ DFormAt l i ∧ b + oldD (l.drop i) ≤ 2147483647 ∧ a + newD (l.drop i) ≤ 2147483647)
  | 0, i, b, a, h, hb, ha, hb2, ha2 => by
    rw [chkD, if_neg (by omega), List.drop_eq_nil_of_le (by omega)]
    simp only [oldD, newD]
    split
    · constructor
      · intro h; omega
      · rintro ⟨_, h1, h2⟩; omega
    · exact ⟨fun _ => ⟨fun k h1 h2 => by omega, by omega, by omega⟩, fun _ => rfl⟩
  | m + 1, i, b, a, h, hb, ha, hb2, ha2 => by
    have hi : i < l.length := by omega
    rw [chkD, if_pos hi]
    have step : DFormAt l i ↔ (DOk (l.getD i default) ∧ (0 < i → adjD (l.getD (i - 1) default) (l.getD i default) = false)) ∧ DFormAt l (i + 1) := by
      constructor
      · exact fun h => ⟨h i (Nat.le_refl _) hi, fun k h1 h2 => h k (by omega) h2⟩
      · rintro ⟨h1, h2⟩ k h3 h4
        by_cases e : k = i
        · subst e; exact h1
        · exact h2 k (by omega) h4
    rw [step, dropD hi]
    simp only [oldD, newD]
    have ih := fun b' a' => chkD_all l m (i + 1) b' a' (by omega)
    have nn := fun f : DFormAt l (i + 1) => sums_nn (atD_drop f)
    generalize l.getD i default = x at *
    generalize l.getD (i - 1) default = y at *
    by_cases c1 : stepD x ≠ 0
    · rw [if_pos c1]; constructor
      · intro h; exact absurd h c1
      · rintro ⟨⟨⟨h, _⟩, _⟩, _⟩; exact absurd (step_iff.2 h) c1
    rw [if_neg c1]
    have hs := step_iff.1 (by omega : stepD x = 0)
    have hz := stepD_sz (by omega : stepD x = 0)
    by_cases c3 : 0 < i ∧ adjD y x = true
    · rw [if_pos c3]; constructor
      · intro h; omega
      · rintro ⟨⟨⟨_, h⟩, _⟩, _⟩
        have := h c3.1
        rw [c3.2] at this; cases this
    rw [if_neg c3, ih _ _ (by split <;> omega) (by split <;> omega) (by split <;> omega) (by split <;> omega)]
    unfold oS nS
    constructor
    · rintro ⟨f, h1, h2⟩
      obtain ⟨n0, n1⟩ := nn f
      refine ⟨⟨⟨hs, fun h0 => ?_⟩, f⟩, ?_, ?_⟩
      · cases e : adjD y x
        · rfl
        · exact absurd ⟨h0, e⟩ c3
      · by_cases k1 : x.kind = 1
        · rw [if_pos k1]; rw [if_neg (by omega)] at h1; omega
        · rw [if_neg k1]; rw [if_pos k1] at h1; omega
      · by_cases k1 : x.kind = 2
        · rw [if_pos k1]; rw [if_neg (by omega)] at h2; omega
        · rw [if_neg k1]; rw [if_pos k1] at h2; omega
    · rintro ⟨⟨_, f⟩, h1, h2⟩
      obtain ⟨n0, n1⟩ := nn f
      refine ⟨f, ?_, ?_⟩
      · by_cases k1 : x.kind = 1
        · rw [if_pos k1] at h1; rw [if_neg (by omega)]; omega
        · rw [if_neg k1] at h1; rw [if_pos k1]; omega
      · by_cases k1 : x.kind = 2
        · rw [if_pos k1] at h2; rw [if_neg (by omega)]; omega
        · rw [if_neg k1] at h2; rw [if_pos k1]; omega
theorem dform_of_at : ∀ {l : List DStep}, DFormAt l 0 → DForm l
  | [], _ => trivial
  | [s], h => (h 0 (Nat.le_refl _) (by simp)).1
  | s :: t :: l, h => by
    refine ⟨(h 0 (Nat.le_refl _) (by simp)).1, (h 1 (by omega) (by simp)).2 (by omega), dform_of_at (fun k h1 h2 => ?_)⟩
    have h2' : k + 1 < (s :: t :: l).length := by simp at h2 ⊢; omega
    have := h (k + 1) (by omega) h2'
    simp only [List.getD_cons_succ] at this
    refine ⟨this.1, fun h0 => ?_⟩
    have e := this.2 (by omega)
    rw [show k + 1 - 1 = (k - 1) + 1 by omega, List.getD_cons_succ] at e
    exact e
theorem at_of_dform : ∀ {l : List DStep}, DForm l → DFormAt l 0
  | [], _ => fun k h1 h2 => by simp at h2
  | [s], h => fun k h1 h2 => by
    have : k = 0 := by simp at h2; omega
    subst this
    exact ⟨h, fun h0 => by omega⟩
  | s :: t :: l, h => fun k h1 h2 => by
    obtain ⟨a, b, c⟩ := h
    rcases k with _ | k
    · exact ⟨a, fun h0 => by omega⟩
    · have := at_of_dform c k (Nat.zero_le _) (by simp at h2 ⊢; omega)
      rw [List.getD_cons_succ]
      refine ⟨this.1, fun _ => ?_⟩
      rcases k with _ | k
      · exact b
      · rw [Nat.add_sub_cancel, List.getD_cons_succ]
        have e := this.2 (by omega)
        rw [Nat.add_sub_cancel] at e
        exact e
def DValid (l : List DStep) : Prop := DForm l ∧ oldD l ≤ 2147483647 ∧ newD l ≤ 2147483647
theorem checkD_iff {l : List DStep} : checkD l = 0 ↔ DValid l := by
  unfold checkD DValid
  rw [chkD_all l _ 0 0 0 rfl (Int.le_refl _) (Int.le_refl _) (by decide) (by decide)]
  simp only [List.drop_zero, Int.zero_add]
  exact ⟨fun h => ⟨dform_of_at h.1, h.2⟩, fun h => ⟨at_of_dform h.1, h.2⟩⟩
theorem DForm.all {l : List DStep} (h : DForm l) : ∀ s ∈ l, DOk s := by
  have := atD_drop (at_of_dform h)
  simpa using this

theorem dlens_step {l : List DStep} {i : Nat} (h : i < l.length) (hf : DForm l) : oldD (l.drop i) = (if (l.getD i default).kind = 1 then 0 else (l.getD i default).n) + oldD (l.drop (i + 1)) ∧
    newD (l.drop i) = (if (l.getD i default).kind = 2 then 0 else szD (l.getD i default)) + newD (l.drop (i + 1)) ∧ DOk (l.getD i default) ∧ 0 ≤ oldD (l.drop (i + 1)) ∧ 0 ≤ newD (l.drop (i + 1)) ∧ 0 ≤ (l.getD i default).n ∧ 1 ≤ szD (l.getD i default) ∧ ((l.getD i default).kind = 0 ∨ (l.getD i default).kind = 1 ∨ (l.getD i default).kind = 2) := by
  have h1 := ((at_of_dform hf) i (Nat.zero_le _) h).1
  have h2 := stepD_sz (step_iff.2 h1)
  have h3 := sums_nn (l := l.drop (i + 1)) (fun s hs => hf.all s (List.mem_of_mem_drop hs))
  rw [dropD h]
  exact ⟨rfl, rfl, h1, h3.1, h3.2, h2.2.1, h2.2.2.2.1, h2.1⟩
theorem dend {l : List DStep} {i : Nat} (h : l.length ≤ i) : oldD (l.drop i) = 0 ∧ newD (l.drop i) = 0 := by rw [List.drop_eq_nil_of_le h]; exact ⟨rfl, rfl⟩

/-! ### The reference's check -/
def adjR (w x : DStep) : Prop := if x.kind = 1 then w.kind ≠ 0 else if x.kind = 2 then w.kind = 2 else w.kind = 0 ∧ sameL w.attrs x.attrs = true
instance (w x : DStep) : Decidable (adjR w x) := by unfold adjR; infer_instance
def chkR (l : List DStep) (i : Nat) (b a : Int) : Int :=
  if i < l.length then
    if stepD (l.getD i default) ≠ 0 then stepD (l.getD i default)
    else if 0 < i ∧ adjR (l.getD (i - 1) default) (l.getD i default) then 5
    else chkR l (i + 1) (if (l.getD i default).kind ≠ 1 ∧ b < 2147483648 then b + (l.getD i default).n else b) (if (l.getD i default).kind ≠ 2 ∧ a < 2147483648 then a + ((l.getD i default).n + (l.getD i default).elems.length) else a)
  else if 2147483647 < b ∨ 2147483647 < a then 3 else 0
termination_by l.length - i
def refD (l : List DStep) : Int := chkR l 0 0 0
def sumNs : List DStep → Int
  | [] => 0
  | s :: l => s.n + sumNs l
/-- Sizes of the strings inside. -/
def sameDS (x y : DStep) : Bool := ((x.kind == y.kind) && (x.n == y.n)) && (sameL x.attrs y.attrs && sameF x.elems y.elems)

/-! ### Units -/
inductive DU where
  | K (c : List Attr)
  | A (e : Elem)
  | C
def exS (s : DStep) : List DU := if s.kind = 1 then s.elems.map .A else if s.kind = 2 then List.replicate s.n.toNat .C else List.replicate s.n.toNat (.K s.attrs)
def exD : List DStep → List DU
  | [] => []
  | s :: l => exS s ++ exD l
theorem exD_app (a b : List DStep) : exD (a ++ b) = exD a ++ exD b := by
  induction a with
  | nil => rfl
  | cons s a ih => simp [exD, ih]
/-- An element changed by an attribute change. -/
def chgE (c : List Attr) (x : Elem) : Elem := ⟨x.char, x.ref, fm rawG x.attrs c⟩
def applyU : List DU → List Elem → List Elem
  | [], _ => []
  | .A e :: u, l => e :: applyU u l
  | .K c :: u, x :: l => chgE c x :: applyU u l
  | .C :: u, _ :: l => applyU u l
  | .K _ :: u, [] => applyU u []
  | .C :: u, [] => applyU u []
def undoU : List DU → List Elem → List DU
  | [], _ => []
  | .A _ :: u, l => .C :: undoU u l
  | .K c :: u, x :: l => .K (fm chgG (fm rawG x.attrs c) x.attrs) :: undoU u l
  | .C :: u, x :: l => .A x :: undoU u l
  | .K _ :: u, [] => undoU u []
  | .C :: u, [] => undoU u []
def oldN : List DU → Nat
  | [] => 0
  | .A _ :: u => oldN u
  | _ :: u => oldN u + 1
def newN : List DU → Nat
  | [] => 0
  | .C :: u => newN u
  | _ :: u => newN u + 1
def UOk : List DU → Prop
  | [] => True
  | .K c :: u => VG true c ∧ UOk u
  | _ :: u => UOk u
inductive DSw : List DU → List DU → Prop
  | refl (u : List DU) : DSw u u
  | cons (x : DU) {u v : List DU} (h : DSw u v) : DSw (x :: u) (x :: v)
  | swap (e : Elem) (u : List DU) : DSw (.A e :: .C :: u) (.C :: .A e :: u)
  | symm {u v : List DU} (h : DSw u v) : DSw v u
  | trans {u v w : List DU} (h : DSw u v) (k : DSw v w) : DSw u w
theorem DSw.left (w : List DU) {u v : List DU} (h : DSw u v) : DSw (w ++ u) (w ++ v) := by
  induction w with
  | nil => exact h
  | cons x w ih => exact .cons x ih
theorem DSw.right (w : List DU) {u v : List DU} (h : DSw u v) : DSw (u ++ w) (v ++ w) := by
  induction h with
  | refl u => exact .refl _
  | cons x _ ih => exact .cons x ih
  | swap e u => exact .swap e _
  | symm _ ih => exact .symm ih
  | trans _ _ a b => exact .trans a b
theorem sw_applyU {u v : List DU} (h : DSw u v) : ∀ l, applyU u l = applyU v l := by
  induction h with
  | refl u => exact fun _ => rfl
  | cons x _ ih =>
    intro l
    cases x <;> cases l <;> simp [applyU, ih]
  | swap e u => intro l; cases l <;> simp [applyU]
  | symm _ ih => exact fun l => (ih l).symm
  | trans _ _ a b => exact fun l => (a l).trans (b l)
theorem dsw_lens {u v : List DU} (h : DSw u v) : oldN u = oldN v ∧ newN u = newN v := by
  induction h with
  | refl u => exact ⟨rfl, rfl⟩
  | cons x _ ih => cases x <;> simp [oldN, newN, ih.1, ih.2]
  | swap e u => exact ⟨rfl, rfl⟩
  | symm _ ih => exact ⟨ih.1.symm, ih.2.symm⟩
  | trans _ _ a b => exact ⟨a.1.trans b.1, a.2.trans b.2⟩
theorem dsw_C_As (e : List Elem) (u : List DU) : DSw (.C :: (e.map .A ++ u)) (e.map .A ++ .C :: u) := by
  induction e with
  | nil => exact .refl _
  | cons x e ih => exact .trans (.symm (.swap x _)) (.cons _ ih)
theorem dsw_Cs_As (c : Nat) (e : List Elem) (u : List DU) : DSw (List.replicate c .C ++ (e.map .A ++ u)) (e.map .A ++ (List.replicate c .C ++ u)) := by
  induction c with
  | zero => exact .refl _
  | succ c ih => exact .trans (.cons _ ih) (dsw_C_As e _)
theorem applyU_As (e : List Elem) (u : List DU) (l : List Elem) : applyU (e.map .A ++ u) l = e ++ applyU u l := by
  induction e with
  | nil => rfl
  | cons x e ih => simp [applyU, ih]
theorem applyU_Ks (n : Nat) (c : List Attr) (u : List DU) : ∀ l : List Elem, applyU (List.replicate n (.K c) ++ u) l = (l.take n).map (chgE c) ++ applyU u (l.drop n) := by
  induction n with
  | zero => intro l; simp
  | succ n ih =>
    intro l
    cases l with
    | nil => have := ih []; simpa [applyU, List.replicate_succ] using this
    | cons x l => simp [applyU, List.replicate_succ, ih]
theorem applyU_Cs (n : Nat) (u : List DU) : ∀ l : List Elem, applyU (List.replicate n .C ++ u) l = applyU u (l.drop n) := by
  induction n with
  | zero => intro l; simp
  | succ n ih =>
    intro l
    cases l with
    | nil => have := ih []; simpa [applyU, List.replicate_succ] using this
    | cons x l => simp [applyU, List.replicate_succ, ih]
def rawD (l : List Elem) (d : List DStep) : List Elem := applyU (exD d) l
/-- One step of the walk over a flow. -/
theorem raw_at {d : List DStep} {i : Nat} (h : i < d.length) (l : List Elem) : applyU (exD (d.drop i)) l =
    if (d.getD i default).kind = 1 then (d.getD i default).elems ++ applyU (exD (d.drop (i + 1))) l
    else if (d.getD i default).kind = 2 then applyU (exD (d.drop (i + 1))) (l.drop (d.getD i default).n.toNat)
    else (l.take (d.getD i default).n.toNat).map (chgE (d.getD i default).attrs) ++ applyU (exD (d.drop (i + 1))) (l.drop (d.getD i default).n.toNat) := by
  rw [dropD h, exD]
  unfold exS
  split
  · rw [applyU_As]
  · split
    · rw [applyU_Cs]
    · rw [applyU_Ks]
end Go.Ch
end
section
set_option linter.unusedVariables false
set_option linter.unusedSimpArgs false
set_option maxRecDepth 100000
set_option maxHeartbeats 4000000
open Go Go.Proofs Go.Ab
namespace Go.Ch
theorem set_fill {α : Type} [Inhabited α] {l : List α} {i n : Nat} {z x : α} (hn : n = l.length) (hi : i < n) (hx : x = l.getD i default) : (l.take i ++ List.replicate (n - i) z).set i x = l.take (i + 1) ++ List.replicate (n - (i + 1)) z := by
  subst hn
  have h1 : (l.take i).length = i := by simp; omega
  rw [List.set_append, if_neg (by omega), h1, Nat.sub_self, show l.length - i = (l.length - (i + 1)) + 1 by omega, List.replicate_succ, List.set_cons_zero, List.take_succ_eq_append_getElem hi, hx, List.append_assoc]
  simp only [List.getD, List.getElem?_eq_getElem hi, Option.getD_some]
  rfl

theorem fc_copy (l : List Elem) (hn : l.length ≤ 1000000000000) (hs : AN 400000000000 l) : FC Try.prog 137 [VL 3 elemT l] (app emp []) (VL 3 elemT l) (app emp []) := by
 refine .go Try.f137 ?_
 refine .len 0 (fun hl0 => ?_)
 refine .loop (α := Nat × (List Elem)) [.r [], .r [(1, X (Xl elemT l)), (2, X (Xmz 3 elemT 24 (l.length : Int) (l.length : Int) ({ char := 0, ref := 0, attrs := [] } : Elem) [TI 0, TI 0, TN] ⟨.inl rfl, ⟨.inl rfl, ⟨tw_nil (by decide), trivial⟩⟩⟩))], .r [(1, X (Xl elemT l))]] 64 (fun (i, o) => ([(3, .row 24 l.length), (9, VL 3 elemT l), (10, VI (l.length : Int)), (11, VI (i : Int))], [(24, OR 3 elemT o)])) (fun (i, o) => i ≤ l.length ∧ o = l.take i ++ List.replicate (l.length - i) ({ char := 0, ref := 0, attrs := [] } : Elem)) (fun (i, o) => l.length - i) (0, (List.replicate l.length ({ char := 0, ref := 0, attrs := [] } : Elem))) ?_ ?_
 ·
  exact ⟨by omega, by simp⟩
 rintro ⟨i, o⟩ I3 ih3
 try dsimp only at I3
 have ol : o.length = l.length := by rw [I3.2]; simp; omega
 refine .br [.r []] (decide ((i : Int) < (l.length : Int))) (fun h3 => ?_) (fun h3 => ?_)
 ·
  (try simp only [decide_eq_true_eq, decide_eq_false_iff_not, Int.not_lt, Int.not_le] at h3)
  have hx := hs _ (getDE_mem (l := l) (k := i) (by omega))
  refine .back [.r [(1, X (Xi elemT l (i : Int)))], .r [(8, X (Xan attrT 184 (((l.getD i default)).attrs))), (10, X (Xpn l.length elemT o (i : Int))), (11, X (rowC attrT (((l.getD i default)).attrs) (Xsn l.length 3 elemT 24 o i ((l.getD i default)) [(184, OF 2 attrT (((l.getD i default)).attrs))])))], .r [(0, X (Xn ((i : Int) + 1)))]] [(24, 24)] (ih3 ((i + 1), (o.set i ((l.getD i default)))) ?_ ?_)
  ·
   refine ⟨by omega, ?_⟩
   rw [I3.2]
   exact set_fill rfl (by omega) rfl
  ·
   ((try dsimp only); omega)
 ·
  (try simp only [decide_eq_true_eq, decide_eq_false_iff_not, Int.not_lt, Int.not_le] at h3)
  have e1 : (l : List Elem) = o := by
   rw [I3.2, List.take_of_length_le (by omega), show l.length - i = 0 by omega]; simp
  exact .finE [.r [], .le (.fr 2 [(l.length : Nat) = (List.map elemT o).length] ⟨lm, trivial⟩)] [] (fun z0 => (VL 3 elemT z0, [])) (o : List Elem) (l : List Elem) e1

theorem map_fill {l : List Elem} {i : Nat} {z : Elem} {f : Elem → Elem} (hi : i < l.length) {y : Elem} (hy : y = f (l.getD i default)) : ((l.take i).map f ++ List.replicate (l.length - i) z).set i y = (l.take (i + 1)).map f ++ List.replicate (l.length - (i + 1)) z := by
  have h1 : ((l.take i).map f).length = i := by simp; omega
  rw [List.set_append, if_neg (by omega), h1, Nat.sub_self, show l.length - i = (l.length - (i + 1)) + 1 by omega, List.replicate_succ, List.set_cons_zero, List.take_succ_eq_append_getElem hi, hy, List.map_append, List.append_assoc]
  simp only [List.getD, List.getElem?_eq_getElem hi, Option.getD_some]
  rfl

theorem fc_changed (l : List Elem) (c : List Attr) (hn : l.length ≤ 1000000000000) (hs : ∀ x ∈ l, x.attrs.length + c.length < 1099511627776) : FC Try.prog 114 [VL 3 elemT l, VL 2 attrT c] (app emp []) (VL 3 elemT (List.map (chgE c) l)) (app emp []) := by
 refine .go Try.f114 ?_
 refine .len 0 (fun hl0 => ?_)
 refine .len 1 (fun hl1 => ?_)
 refine .loop (α := Nat × (List Elem)) [.r [], .r [(1, X (Xl elemT l)), (2, X (Xmz 3 elemT 24 (l.length : Int) (l.length : Int) ({ char := 0, ref := 0, attrs := [] } : Elem) [TI 0, TI 0, TN] ⟨.inl rfl, ⟨.inl rfl, ⟨tw_nil (by decide), trivial⟩⟩⟩))], .r [(1, X (Xl elemT l))]] 64 (fun (i, o) => ([(1, VL 2 attrT c), (5, .row 24 l.length), (11, VL 3 elemT l), (12, VI (l.length : Int)), (13, VI (i : Int))], [(24, OR 3 elemT o)])) (fun (i, o) => i ≤ l.length ∧ o = (l.take i).map (chgE c) ++ List.replicate (l.length - i) ({ char := 0, ref := 0, attrs := [] } : Elem)) (fun (i, o) => l.length - i) (0, (List.replicate l.length ({ char := 0, ref := 0, attrs := [] } : Elem))) ?_ ?_
 ·
  exact ⟨by omega, by simp⟩
 rintro ⟨i, o⟩ I3 ih3
 try dsimp only at I3
 have ol : o.length = l.length := by rw [I3.2]; simp; omega
 refine .br [.r []] (decide ((i : Int) < (l.length : Int))) (fun h3 => ?_) (fun h3 => ?_)
 ·
  (try simp only [decide_eq_true_eq, decide_eq_false_iff_not, Int.not_lt, Int.not_le] at h3)
  have hx := hs _ (getDE_mem (l := l) (k := i) (by omega))
  refine .back [.r [(1, X (Xi elemT l (i : Int)))], .r [(3, X (Xc1 144 (fc_raw (((l.getD i default)).attrs) c (by omega)) X0))], .r [(3, X (Xpn l.length elemT o (i : Int))), (4, X (Xsn l.length 3 elemT 24 o i ({ char := ((l.getD i default)).char, ref := ((l.getD i default)).ref, attrs := (fm rawG (((l.getD i default)).attrs) c) } : Elem)))], .r [(0, X (Xn ((i : Int) + 1)))]] [(24, 24)] (ih3 ((i + 1), (o.set i ({ char := ((l.getD i default)).char, ref := ((l.getD i default)).ref, attrs := (fm rawG (((l.getD i default)).attrs) c) } : Elem))) ?_ ?_)
  ·
   refine ⟨by omega, ?_⟩
   rw [I3.2]
   exact map_fill (by omega) rfl
  ·
   ((try dsimp only); omega)
 ·
  (try simp only [decide_eq_true_eq, decide_eq_false_iff_not, Int.not_lt, Int.not_le] at h3)
  have e1 : ((List.map (chgE c) l) : List Elem) = o := by
   rw [I3.2, List.take_of_length_le (by omega), show l.length - i = 0 by omega]; simp
  exact .finE [.r [], .le (.fr 4 [(l.length : Nat) = (List.map elemT o).length] ⟨lm, trivial⟩)] [] (fun z0 => (VL 3 elemT z0, [])) (o : List Elem) ((List.map (chgE c) l) : List Elem) e1

def ltr (s : ByteArray) (i : Nat) : Elem := ⟨(byt s i : Int), 0, []⟩
def lettersL (s : ByteArray) : List Elem := (List.range s.size).map (ltr s)

theorem fc_letters (s : ByteArray) (hs : s.size ≤ 1000000000) : FC Try.prog 98 [VS s] (app emp []) (VL 3 elemT (lettersL s)) (app emp []) := by
 refine .go Try.f98 ?_
 refine .loop (α := Nat × (List Elem)) [.r [], .r [], .r [], .le (.nR 3 3)] 41 (fun (i, o) => ([(0, VS s), (3, .row 40 o.length), (6, VI (s.size : Int)), (7, VI (i : Int))], [(40, OR 3 elemT o)])) (fun (i, o) => i ≤ s.size ∧ o = (List.range i).map (ltr s)) (fun (i, o) => s.size - i) (0, []) ?_ ?_
 ·
  exact ⟨by omega, rfl⟩
 rintro ⟨i, o⟩ I3 ih3
 try dsimp only at I3
 have ol : o.length = i := by rw [I3.2]; simp
 refine .br [.r []] (decide ((i : Int) < (s.size : Int))) (fun h3 => ?_) (fun h3 => ?_)
 ·
  (try simp only [decide_eq_true_eq, decide_eq_false_iff_not, Int.not_lt, Int.not_le] at h3)
  refine .back [.r [], .r [(3, X (Xb s (i : Int))), (4, X (Xn ((((s[i]?).getD 0).toNat : Nat) : Int)) (by have := UInt8.toNat_lt ((s[i]?).getD 0); omega)), (5, X (Xf [(2, 2)])), (7, X (rowC elemT [({ char := ((((s[i]?).getD 0).toNat : Nat) : Int), ref := 0, attrs := [] } : Elem)] (Xap 3 elemT 40 o [({ char := ((((s[i]?).getD 0).toNat : Nat) : Int), ref := 0, attrs := [] } : Elem)])))], .r [(0, X (Xn ((i : Int) + 1)))]] [(40, 40)] (ih3 ((i + 1), (o ++ [({ char := ((((s[i]?).getD 0).toNat : Nat) : Int), ref := 0, attrs := [] } : Elem)])) ?_ ?_)
  ·
   refine ⟨by omega, ?_⟩
   rw [I3.2, List.range_succ, List.map_append]
   rfl
  ·
   ((try dsimp only); omega)
 ·
  (try simp only [decide_eq_true_eq, decide_eq_false_iff_not, Int.not_lt, Int.not_le] at h3)
  have e1 : ((lettersL s) : List Elem) = o := by
   rw [I3.2, show i = s.size by omega]; rfl
  exact .finE [.r [], .le (.fr 2 [(o.length : Nat) = (List.map elemT o).length] ⟨lm, trivial⟩)] [] (fun z0 => (VL 3 elemT z0, [])) (o : List Elem) ((lettersL s) : List Elem) e1

end Go.Ch
end
section
set_option linter.unusedVariables false
set_option linter.unusedSimpArgs false
set_option maxRecDepth 100000
set_option maxHeartbeats 4000000
open Go Go.Proofs Go.Ab
namespace Go.Ch
theorem fc_step (x : DStep) : FC Try.prog 102 [.t (dstepT x)] (app emp []) (VI (stepD x)) (app emp []) := by
 refine .go Try.f102 ?_
 refine .br [.r [], .r [], .r []] (x.kind == 0) (fun h2 => ?_) (fun h2 => ?_)
 ·
  (try simp only [beq_iff_eq, beq_eq_false_iff_ne, ne_eq] at h2)
  refine .br [] (x.kind == 0) (fun h2 => ?_) (fun h2 => ?_)
  ·
   (try simp only [beq_iff_eq, beq_eq_false_iff_ne, ne_eq] at h2)
   refine .br [.r [(2, X (Xl elemT x.elems)), (6, Xv 1 (!(decide ((x.elems.length : Int) > 0))) X0), (7, Xv 1 (!(decide ((x.elems.length : Int) > 0))) X0), (8, Xv 1 (!(decide ((x.elems.length : Int) > 0))) X0), (10, Xv 1 ((!(decide ((x.elems.length : Int) > 0))) && (x.kind == 2)) X0), (11, Xv 1 ((!(decide ((x.elems.length : Int) > 0))) && (x.kind == 2)) (Xl attrT x.attrs)), (12, Xv 1 ((!(decide ((x.elems.length : Int) > 0))) && (x.kind == 2)) X0), (13, Xka (!(decide ((x.elems.length : Int) > 0))) (x.kind == 2)), (14, X (Xk' (decide ((x.elems.length : Int) > 0))))]] (decide ((x.elems.length : Int) > 0) || ((x.kind == 2) && decide ((x.attrs.length : Int) > 0))) (fun h4 => ?_) (fun h4 => ?_)
   ·
    (try simp only [decide_eq_true_eq, decide_eq_false_iff_not, Int.not_lt, Int.not_le, gt_iff_lt, Bool.and_eq_true, Bool.and_eq_false_iff, Bool.not_eq_true', Bool.not_eq_false', Bool.or_eq_true, Bool.or_eq_false_iff, beq_iff_eq, beq_eq_false_iff_ne, ne_eq] at h4)
    have e1 : ((stepD x) : Int) = 4 := by
     unfold stepD; ((repeat' split) <;> first | rfl | omega | (simp_all; done) | (simp_all; omega))
    exact .finE [.r []] [] (fun z0 => (VI z0, [])) (4 : Int) ((stepD x) : Int) e1
   ·
    (try simp only [decide_eq_true_eq, decide_eq_false_iff_not, Int.not_lt, Int.not_le, gt_iff_lt, Bool.and_eq_true, Bool.and_eq_false_iff, Bool.not_eq_true', Bool.not_eq_false', Bool.or_eq_true, Bool.or_eq_false_iff, beq_iff_eq, beq_eq_false_iff_ne, ne_eq] at h4)
    refine .br [.r [(5, Xv 1 (!(decide (x.n < 1))) X0), (6, Xv 1 (!(decide (x.n < 1))) X0), (7, X (Xk' (decide (x.n < 1))))]] (decide (x.n < 1) || decide (x.n > 2147483647)) (fun h6 => ?_) (fun h6 => ?_)
    ·
     (try simp only [decide_eq_true_eq, decide_eq_false_iff_not, Int.not_lt, Int.not_le, gt_iff_lt, Bool.or_eq_true, Bool.or_eq_false_iff] at h6)
     have e2 : ((stepD x) : Int) = 2 := by
      unfold stepD; ((repeat' split) <;> first | rfl | omega | (simp_all; done) | (simp_all; omega))
     exact .finE [.r []] [] (fun z0 => (VI z0, [])) (2 : Int) ((stepD x) : Int) e2
    ·
     (try simp only [decide_eq_true_eq, decide_eq_false_iff_not, Int.not_lt, Int.not_le, gt_iff_lt, Bool.or_eq_true, Bool.or_eq_false_iff] at h6)
     have e3 : ((stepD x) : Int) = (chkA true x.attrs 0) := by
      unfold stepD; ((repeat' split) <;> first | rfl | omega | (simp_all; done) | (simp_all; omega))
     exact .finE [.r [(2, X (Xc0 (fc_acheckChange x.attrs) X0))]] [] (fun z0 => (VI z0, [])) ((chkA true x.attrs 0) : Int) ((stepD x) : Int) e3
  ·
   (try simp only [beq_iff_eq, beq_eq_false_iff_ne, ne_eq] at h2)
   refine .br [.r []] (x.kind == 1) (fun h9 => ?_) (fun h9 => ?_)
   ·
    (try simp only [beq_iff_eq, beq_eq_false_iff_ne, ne_eq] at h9)
    refine .br [.r [(5, Xv 1 (!(x.n != 0)) X0), (6, Xv 1 (!(x.n != 0)) (Xl attrT x.attrs)), (7, Xv 1 (!(x.n != 0)) X0), (8, X (Xk' (x.n != 0)))]] ((x.n != 0) || decide ((x.attrs.length : Int) > 0)) (fun h10 => ?_) (fun h10 => ?_)
    ·
     (try simp only [decide_eq_true_eq, decide_eq_false_iff_not, Int.not_lt, Int.not_le, gt_iff_lt, Bool.or_eq_true, Bool.or_eq_false_iff, bne_iff_ne, bne_eq_false_iff_eq, ne_eq] at h10)
     have e4 : ((stepD x) : Int) = 4 := by
      unfold stepD; ((repeat' split) <;> first | rfl | omega | (simp_all; done) | (simp_all; omega))
     exact .finE [.r []] [] (fun z0 => (VI z0, [])) (4 : Int) ((stepD x) : Int) e4
    ·
     (try simp only [decide_eq_true_eq, decide_eq_false_iff_not, Int.not_lt, Int.not_le, gt_iff_lt, Bool.or_eq_true, Bool.or_eq_false_iff, bne_iff_ne, bne_eq_false_iff_eq, ne_eq] at h10)
     refine .br [.r [(2, X (Xl elemT x.elems))]] ((x.elems.length : Int) == 0) (fun h12 => ?_) (fun h12 => ?_)
     ·
      (try simp only [beq_iff_eq, beq_eq_false_iff_ne, ne_eq] at h12)
      have e5 : ((stepD x) : Int) = 11 := by
       unfold stepD; ((repeat' split) <;> first | rfl | omega | (simp_all; done) | (simp_all; omega))
      exact .finE [.r []] [] (fun z0 => (VI z0, [])) (11 : Int) ((stepD x) : Int) e5
     ·
      (try simp only [beq_iff_eq, beq_eq_false_iff_ne, ne_eq] at h12)
      have e6 : ((stepD x) : Int) = (partE x.elems 0) := by
       unfold stepD; ((repeat' split) <;> first | rfl | omega | (simp_all; done) | (simp_all; omega))
      exact .finE [.r [(2, X (Xc0 (fc_checkPart x.elems) X0))]] [] (fun z0 => (VI z0, [])) ((partE x.elems 0) : Int) ((stepD x) : Int) e6
   ·
    (try simp only [beq_iff_eq, beq_eq_false_iff_ne, ne_eq] at h9)
    have e7 : ((stepD x) : Int) = 8 := by
     unfold stepD; ((repeat' split) <;> first | rfl | omega | (simp_all; done) | (simp_all; omega))
    exact .finE [.r []] [] (fun z0 => (VI z0, [])) (8 : Int) ((stepD x) : Int) e7
 ·
  (try simp only [beq_iff_eq, beq_eq_false_iff_ne, ne_eq] at h2)
  refine .br [.r []] (x.kind == 2) (fun h3 => ?_) (fun h3 => ?_)
  ·
   (try simp only [beq_iff_eq, beq_eq_false_iff_ne, ne_eq] at h3)
   refine .br [.r [(2, X (Xl elemT x.elems)), (6, Xv 1 (!(decide ((x.elems.length : Int) > 0))) X0), (7, Xv 1 (!(decide ((x.elems.length : Int) > 0))) X0), (8, Xv 1 (!(decide ((x.elems.length : Int) > 0))) X0), (10, Xv 1 ((!(decide ((x.elems.length : Int) > 0))) && (x.kind == 2)) X0), (11, Xv 1 ((!(decide ((x.elems.length : Int) > 0))) && (x.kind == 2)) (Xl attrT x.attrs)), (12, Xv 1 ((!(decide ((x.elems.length : Int) > 0))) && (x.kind == 2)) X0), (13, Xka (!(decide ((x.elems.length : Int) > 0))) (x.kind == 2)), (14, X (Xk' (decide ((x.elems.length : Int) > 0))))]] (decide ((x.elems.length : Int) > 0) || ((x.kind == 2) && decide ((x.attrs.length : Int) > 0))) (fun h4 => ?_) (fun h4 => ?_)
   ·
    (try simp only [decide_eq_true_eq, decide_eq_false_iff_not, Int.not_lt, Int.not_le, gt_iff_lt, Bool.and_eq_true, Bool.and_eq_false_iff, Bool.not_eq_true', Bool.not_eq_false', Bool.or_eq_true, Bool.or_eq_false_iff, beq_iff_eq, beq_eq_false_iff_ne, ne_eq] at h4)
    have e8 : ((stepD x) : Int) = 4 := by
     unfold stepD; ((repeat' split) <;> first | rfl | omega | (simp_all; done) | (simp_all; omega))
    exact .finE [.r []] [] (fun z0 => (VI z0, [])) (4 : Int) ((stepD x) : Int) e8
   ·
    (try simp only [decide_eq_true_eq, decide_eq_false_iff_not, Int.not_lt, Int.not_le, gt_iff_lt, Bool.and_eq_true, Bool.and_eq_false_iff, Bool.not_eq_true', Bool.not_eq_false', Bool.or_eq_true, Bool.or_eq_false_iff, beq_iff_eq, beq_eq_false_iff_ne, ne_eq] at h4)
    refine .br [.r [(5, Xv 1 (!(decide (x.n < 1))) X0), (6, Xv 1 (!(decide (x.n < 1))) X0), (7, X (Xk' (decide (x.n < 1))))]] (decide (x.n < 1) || decide (x.n > 2147483647)) (fun h6 => ?_) (fun h6 => ?_)
    ·
     (try simp only [decide_eq_true_eq, decide_eq_false_iff_not, Int.not_lt, Int.not_le, gt_iff_lt, Bool.or_eq_true, Bool.or_eq_false_iff] at h6)
     have e9 : ((stepD x) : Int) = 2 := by
      unfold stepD; ((repeat' split) <;> first | rfl | omega | (simp_all; done) | (simp_all; omega))
     exact .finE [.r []] [] (fun z0 => (VI z0, [])) (2 : Int) ((stepD x) : Int) e9
    ·
     (try simp only [decide_eq_true_eq, decide_eq_false_iff_not, Int.not_lt, Int.not_le, gt_iff_lt, Bool.or_eq_true, Bool.or_eq_false_iff] at h6)
     have e10 : ((stepD x) : Int) = (chkA true x.attrs 0) := by
      unfold stepD; ((repeat' split) <;> first | rfl | omega | (simp_all; done) | (simp_all; omega))
     exact .finE [.r [(2, X (Xc0 (fc_acheckChange x.attrs) X0))]] [] (fun z0 => (VI z0, [])) ((chkA true x.attrs 0) : Int) ((stepD x) : Int) e10
  ·
   (try simp only [beq_iff_eq, beq_eq_false_iff_ne, ne_eq] at h3)
   refine .br [.r []] (x.kind == 1) (fun h9 => ?_) (fun h9 => ?_)
   ·
    (try simp only [beq_iff_eq, beq_eq_false_iff_ne, ne_eq] at h9)
    refine .br [.r [(5, Xv 1 (!(x.n != 0)) X0), (6, Xv 1 (!(x.n != 0)) (Xl attrT x.attrs)), (7, Xv 1 (!(x.n != 0)) X0), (8, X (Xk' (x.n != 0)))]] ((x.n != 0) || decide ((x.attrs.length : Int) > 0)) (fun h10 => ?_) (fun h10 => ?_)
    ·
     (try simp only [decide_eq_true_eq, decide_eq_false_iff_not, Int.not_lt, Int.not_le, gt_iff_lt, Bool.or_eq_true, Bool.or_eq_false_iff, bne_iff_ne, bne_eq_false_iff_eq, ne_eq] at h10)
     have e11 : ((stepD x) : Int) = 4 := by
      unfold stepD; ((repeat' split) <;> first | rfl | omega | (simp_all; done) | (simp_all; omega))
     exact .finE [.r []] [] (fun z0 => (VI z0, [])) (4 : Int) ((stepD x) : Int) e11
    ·
     (try simp only [decide_eq_true_eq, decide_eq_false_iff_not, Int.not_lt, Int.not_le, gt_iff_lt, Bool.or_eq_true, Bool.or_eq_false_iff, bne_iff_ne, bne_eq_false_iff_eq, ne_eq] at h10)
     refine .br [.r [(2, X (Xl elemT x.elems))]] ((x.elems.length : Int) == 0) (fun h12 => ?_) (fun h12 => ?_)
     ·
      (try simp only [beq_iff_eq, beq_eq_false_iff_ne, ne_eq] at h12)
      have e12 : ((stepD x) : Int) = 11 := by
       unfold stepD; ((repeat' split) <;> first | rfl | omega | (simp_all; done) | (simp_all; omega))
      exact .finE [.r []] [] (fun z0 => (VI z0, [])) (11 : Int) ((stepD x) : Int) e12
     ·
      (try simp only [beq_iff_eq, beq_eq_false_iff_ne, ne_eq] at h12)
      have e13 : ((stepD x) : Int) = (partE x.elems 0) := by
       unfold stepD; ((repeat' split) <;> first | rfl | omega | (simp_all; done) | (simp_all; omega))
      exact .finE [.r [(2, X (Xc0 (fc_checkPart x.elems) X0))]] [] (fun z0 => (VI z0, [])) ((partE x.elems 0) : Int) ((stepD x) : Int) e13
   ·
    (try simp only [beq_iff_eq, beq_eq_false_iff_ne, ne_eq] at h9)
    have e14 : ((stepD x) : Int) = 8 := by
     unfold stepD; ((repeat' split) <;> first | rfl | omega | (simp_all; done) | (simp_all; omega))
    exact .finE [.r []] [] (fun z0 => (VI z0, [])) (8 : Int) ((stepD x) : Int) e14

theorem fc_size (x : DStep) : FC Try.prog 125 [.t (dstepT x)] (app emp []) (VI (szD x)) (app emp []) := by
 refine .go Try.f125 ?_
 refine .br [.r [], .r []] (x.kind == 1) (fun h1 => ?_) (fun h1 => ?_)
 ·
  (try simp only [beq_iff_eq, beq_eq_false_iff_ne, ne_eq] at h1)
  have e1 : ((szD x) : Int) = (x.elems.length : Int) := by
   unfold szD; ((repeat' split) <;> first | rfl | omega | (simp_all; done) | (simp_all; omega))
  exact .finE [.r [(2, X (Xl elemT x.elems))]] [] (fun z0 => (VI z0, [])) ((x.elems.length : Int) : Int) ((szD x) : Int) e1
 ·
  (try simp only [beq_iff_eq, beq_eq_false_iff_ne, ne_eq] at h1)
  have e2 : ((szD x) : Int) = x.n := by
   unfold szD; ((repeat' split) <;> first | rfl | omega | (simp_all; done) | (simp_all; omega))
  exact .finE [.r []] [] (fun z0 => (VI z0, [])) (x.n : Int) ((szD x) : Int) e2

theorem fc_dCheck (l : List DStep) (hd : DN 400000000000 l) : FC Try.prog 109 [VL 4 dstepT l] (app emp []) (VI (checkD l)) (app emp []) := by
 refine .go Try.f109 ?_
 refine .len 0 (fun hl0 => ?_)
 refine .loop (α := Int × Int × Nat) [.r [], .r [], .r [(1, X (Xl dstepT l))]] 48 (fun (b, a, i) => ([(0, VL 4 dstepT l), (3, VI b), (4, VI a), (9, VL 4 dstepT l), (10, VI (l.length : Int)), (11, VI (i : Int))], [])) (fun (b, a, i) => i ≤ l.length ∧ 0 ≤ b ∧ b ≤ 2147483648 ∧ 0 ≤ a ∧ a ≤ 2147483648 ∧ checkD l = chkD l i b a) (fun (b, a, i) => l.length - i) (0, 0, 0) ?_ ?_
 ·
  exact ⟨by omega, by decide, by decide, by decide, by decide, rfl⟩
 rintro ⟨b, a, i⟩ I3 ih3
 try dsimp only at I3
 refine .br [.r []] (decide ((i : Int) < (l.length : Int))) (fun h3 => ?_) (fun h3 => ?_)
 ·
  (try simp only [decide_eq_true_eq, decide_eq_false_iff_not, Int.not_lt, Int.not_le] at h3)
  refine .br [.r [(1, X (Xi dstepT l (i : Int)))], .r [(1, X (Xc0 (fc_step ((l.getD i default))) X0))], .r []] ((stepD ((l.getD i default))) != 0) (fun h6 => ?_) (fun h6 => ?_)
  ·
   (try simp only [bne_iff_ne, bne_eq_false_iff_eq, ne_eq] at h6)
   have e1 : ((checkD l) : Int) = (stepD ((l.getD i default))) := by
    rw [I3.2.2.2.2.2, chkD]; ((repeat' split) <;> first | rfl | omega | (simp_all; done) | (simp_all; omega))
   exact .finE [.r []] [] (fun z0 => (VI z0, [])) ((stepD ((l.getD i default))) : Int) ((checkD l) : Int) e1
  ·
   (try simp only [bne_iff_ne, bne_eq_false_iff_eq, ne_eq] at h6)
   have hz := stepD_sz (s := l.getD i default) (by omega)
   obtain ⟨hx, _, _⟩ := hd.at_ (k := i) (by omega)
   refine .br [.r []] (decide ((i : Int) > 0)) (fun h8 => ?_) (fun h8 => ?_)
   ·
    (try simp only [decide_eq_true_eq, decide_eq_false_iff_not, Int.not_lt, Int.not_le, gt_iff_lt] at h8)
    refine .br [.r [(2, X (Xn ((i : Int) - 1))), (3, X (Xi' dstepT l ((i : Int) - 1) (i - 1)))], .r [(7, Xv 1 ((((l.getD (i - 1) default)).kind) == (((l.getD i default)).kind)) X0), (8, Xv 1 ((((l.getD (i - 1) default)).kind) == (((l.getD i default)).kind)) X0), (9, Xv 1 ((((l.getD (i - 1) default)).kind) == (((l.getD i default)).kind)) X0), (11, Xv 1 (((((l.getD (i - 1) default)).kind) == (((l.getD i default)).kind)) && !((((l.getD i default)).kind) != 0)) X0), (13, Xv 1 (((((l.getD (i - 1) default)).kind) == (((l.getD i default)).kind)) && !((((l.getD i default)).kind) != 0)) X0), (14, Xv 2 (((((l.getD (i - 1) default)).kind) == (((l.getD i default)).kind)) && !((((l.getD i default)).kind) != 0)) (Xc0 (fc_attrSame (((l.getD (i - 1) default)).attrs) (((l.getD i default)).attrs)) X0)), (15, Xko ((((l.getD (i - 1) default)).kind) == (((l.getD i default)).kind)) ((((l.getD i default)).kind) != 0)), (16, X (Xk ((((l.getD (i - 1) default)).kind) == (((l.getD i default)).kind)))), (19, Xv 1 (!(((((l.getD (i - 1) default)).kind) == (((l.getD i default)).kind)) && (((((l.getD i default)).kind) != 0) || (sameL (((l.getD (i - 1) default)).attrs) (((l.getD i default)).attrs))))) X0), (20, Xv 1 (!(((((l.getD (i - 1) default)).kind) == (((l.getD i default)).kind)) && (((((l.getD i default)).kind) != 0) || (sameL (((l.getD (i - 1) default)).attrs) (((l.getD i default)).attrs))))) X0), (21, Xv 1 (!(((((l.getD (i - 1) default)).kind) == (((l.getD i default)).kind)) && (((((l.getD i default)).kind) != 0) || (sameL (((l.getD (i - 1) default)).attrs) (((l.getD i default)).attrs))))) X0), (23, Xv 1 ((!(((((l.getD (i - 1) default)).kind) == (((l.getD i default)).kind)) && (((((l.getD i default)).kind) != 0) || (sameL (((l.getD (i - 1) default)).attrs) (((l.getD i default)).attrs))))) && ((((l.getD (i - 1) default)).kind) == 2)) X0), (24, Xv 1 ((!(((((l.getD (i - 1) default)).kind) == (((l.getD i default)).kind)) && (((((l.getD i default)).kind) != 0) || (sameL (((l.getD (i - 1) default)).attrs) (((l.getD i default)).attrs))))) && ((((l.getD (i - 1) default)).kind) == 2)) X0), (25, Xka (!(((((l.getD (i - 1) default)).kind) == (((l.getD i default)).kind)) && (((((l.getD i default)).kind) != 0) || (sameL (((l.getD (i - 1) default)).attrs) (((l.getD i default)).attrs))))) ((((l.getD (i - 1) default)).kind) == 2)), (26, X (Xk' (((((l.getD (i - 1) default)).kind) == (((l.getD i default)).kind)) && (((((l.getD i default)).kind) != 0) || (sameL (((l.getD (i - 1) default)).attrs) (((l.getD i default)).attrs))))))]] ((((((l.getD (i - 1) default)).kind) == (((l.getD i default)).kind)) && (((((l.getD i default)).kind) != 0) || (sameL (((l.getD (i - 1) default)).attrs) (((l.getD i default)).attrs)))) || (((((l.getD (i - 1) default)).kind) == 2) && ((((l.getD i default)).kind) == 1))) (fun h10 => ?_) (fun h10 => ?_)
    ·
     (try simp only [Bool.and_eq_true, Bool.and_eq_false_iff, Bool.not_eq_true', Bool.not_eq_false', Bool.or_eq_true, Bool.or_eq_false_iff, beq_iff_eq, beq_eq_false_iff_ne, ne_eq, bne_iff_ne, bne_eq_false_iff_eq] at h10)
     have e2 : ((checkD l) : Int) = 5 := by
      rw [I3.2.2.2.2.2, chkD, if_pos (by omega), if_neg (by omega), if_pos ⟨by omega, adjD_yes.2 h10⟩]
     exact .finE [.r []] [] (fun z0 => (VI z0, [])) (5 : Int) ((checkD l) : Int) e2
    ·
     (try simp only [Bool.and_eq_true, Bool.and_eq_false_iff, Bool.not_eq_true', Bool.not_eq_false', Bool.or_eq_true, Bool.or_eq_false_iff, beq_iff_eq, beq_eq_false_iff_ne, ne_eq, bne_iff_ne, bne_eq_false_iff_eq] at h10)
     refine .br [.r []] ((((l.getD i default)).kind) != 1) (fun h12 => ?_) (fun h12 => ?_)
     ·
      (try simp only [bne_iff_ne, bne_eq_false_iff_eq, ne_eq] at h12)
      refine .br [.r [(3, X (Xn (b + (((l.getD i default)).n)))), (4, X (Xmin (b + (((l.getD i default)).n)) 2147483648))], .r []] ((((l.getD i default)).kind) != 2) (fun h14 => ?_) (fun h14 => ?_)
      ·
       (try simp only [bne_iff_ne, bne_eq_false_iff_eq, ne_eq] at h14)
       refine .at 528 [(80, 80)] ([(0, VL 4 dstepT l), (3, VI (min (b + (((l.getD i default)).n)) 2147483648)), (4, VI a), (6, .ptr 80 0), (9, VL 4 dstepT l), (10, VI (l.length : Int)), (11, VI (i : Int)), (65, VB ((((l.getD i default)).kind) != 2))], [(80, .box [VI (((l.getD i default)).kind), VI (((l.getD i default)).n), VL 2 attrT (((l.getD i default)).attrs), VL 3 elemT (((l.getD i default)).elems)])]) ?_
       refine .back [.r [(2, X (Xc0 (fc_size ((l.getD i default))) X0)), (3, X (Xn (a + (szD ((l.getD i default)))))), (4, X (Xmin (a + (szD ((l.getD i default)))) 2147483648))], .r [(0, X (Xn ((i : Int) + 1)))]] [] (ih3 ((min (b + (((l.getD i default)).n)) 2147483648), (min (a + (szD ((l.getD i default)))) 2147483648), (i + 1)) ?_ ?_)
       ·
        refine ⟨by omega, by omega, by omega, by omega, by omega, ?_⟩
        rw [I3.2.2.2.2.2, chkD, if_pos (by omega), if_neg (by omega), if_neg (by first | omega | exact fun hh => adjD_no h10 hh.2)]
        ((repeat' split) <;> first | rfl | omega | (simp_all; done) | (simp_all; omega))
       ·
        ((try dsimp only); omega)
      ·
       (try simp only [bne_iff_ne, bne_eq_false_iff_eq, ne_eq] at h14)
       refine .at 528 [(80, 80)] ([(0, VL 4 dstepT l), (3, VI (min (b + (((l.getD i default)).n)) 2147483648)), (4, VI a), (6, .ptr 80 0), (9, VL 4 dstepT l), (10, VI (l.length : Int)), (11, VI (i : Int)), (65, VB ((((l.getD i default)).kind) != 2))], [(80, .box [VI (((l.getD i default)).kind), VI (((l.getD i default)).n), VL 2 attrT (((l.getD i default)).attrs), VL 3 elemT (((l.getD i default)).elems)])]) ?_
       refine .back [.r [(0, X (Xn ((i : Int) + 1)))]] [] (ih3 ((min (b + (((l.getD i default)).n)) 2147483648), a, (i + 1)) ?_ ?_)
       ·
        refine ⟨by omega, by omega, by omega, by omega, by omega, ?_⟩
        rw [I3.2.2.2.2.2, chkD, if_pos (by omega), if_neg (by omega), if_neg (by first | omega | exact fun hh => adjD_no h10 hh.2)]
        ((repeat' split) <;> first | rfl | omega | (simp_all; done) | (simp_all; omega))
       ·
        ((try dsimp only); omega)
     ·
      (try simp only [bne_iff_ne, bne_eq_false_iff_eq, ne_eq] at h12)
      refine .br [.r []] ((((l.getD i default)).kind) != 2) (fun h14 => ?_) (fun h14 => ?_)
      ·
       (try simp only [bne_iff_ne, bne_eq_false_iff_eq, ne_eq] at h14)
       refine .at 480 [(80, 80)] ([(0, VL 4 dstepT l), (3, VI b), (4, VI a), (6, .ptr 80 0), (9, VL 4 dstepT l), (10, VI (l.length : Int)), (11, VI (i : Int)), (65, VB ((((l.getD i default)).kind) != 2))], [(80, .box [VI (((l.getD i default)).kind), VI (((l.getD i default)).n), VL 2 attrT (((l.getD i default)).attrs), VL 3 elemT (((l.getD i default)).elems)])]) ?_
       refine .back [.r [(2, X (Xc0 (fc_size ((l.getD i default))) X0)), (3, X (Xn (a + (szD ((l.getD i default)))))), (4, X (Xmin (a + (szD ((l.getD i default)))) 2147483648))], .r [(0, X (Xn ((i : Int) + 1)))]] [] (ih3 (b, (min (a + (szD ((l.getD i default)))) 2147483648), (i + 1)) ?_ ?_)
       ·
        refine ⟨by omega, by omega, by omega, by omega, by omega, ?_⟩
        rw [I3.2.2.2.2.2, chkD, if_pos (by omega), if_neg (by omega), if_neg (by first | omega | exact fun hh => adjD_no h10 hh.2)]
        ((repeat' split) <;> first | rfl | omega | (simp_all; done) | (simp_all; omega))
       ·
        ((try dsimp only); omega)
      ·
       (try simp only [bne_iff_ne, bne_eq_false_iff_eq, ne_eq] at h14)
       refine .at 480 [(80, 80)] ([(0, VL 4 dstepT l), (3, VI b), (4, VI a), (6, .ptr 80 0), (9, VL 4 dstepT l), (10, VI (l.length : Int)), (11, VI (i : Int)), (65, VB ((((l.getD i default)).kind) != 2))], [(80, .box [VI (((l.getD i default)).kind), VI (((l.getD i default)).n), VL 2 attrT (((l.getD i default)).attrs), VL 3 elemT (((l.getD i default)).elems)])]) ?_
       refine .back [.r [(0, X (Xn ((i : Int) + 1)))]] [] (ih3 (b, a, (i + 1)) ?_ ?_)
       ·
        refine ⟨by omega, by omega, by omega, by omega, by omega, ?_⟩
        rw [I3.2.2.2.2.2, chkD, if_pos (by omega), if_neg (by omega), if_neg (by first | omega | exact fun hh => adjD_no h10 hh.2)]
        ((repeat' split) <;> first | rfl | omega | (simp_all; done) | (simp_all; omega))
       ·
        ((try dsimp only); omega)
   ·
    (try simp only [decide_eq_true_eq, decide_eq_false_iff_not, Int.not_lt, Int.not_le, gt_iff_lt] at h8)
    refine .br [.r []] ((((l.getD i default)).kind) != 1) (fun h12 => ?_) (fun h12 => ?_)
    ·
     (try simp only [bne_iff_ne, bne_eq_false_iff_eq, ne_eq] at h12)
     refine .br [.r [(3, X (Xn (b + (((l.getD i default)).n)))), (4, X (Xmin (b + (((l.getD i default)).n)) 2147483648))], .r []] ((((l.getD i default)).kind) != 2) (fun h14 => ?_) (fun h14 => ?_)
     ·
      (try simp only [bne_iff_ne, bne_eq_false_iff_eq, ne_eq] at h14)
      refine .back [.r [(2, X (Xc0 (fc_size ((l.getD i default))) X0)), (3, X (Xn (a + (szD ((l.getD i default)))))), (4, X (Xmin (a + (szD ((l.getD i default)))) 2147483648))], .r [(0, X (Xn ((i : Int) + 1)))]] [] (ih3 ((min (b + (((l.getD i default)).n)) 2147483648), (min (a + (szD ((l.getD i default)))) 2147483648), (i + 1)) ?_ ?_)
      ·
       refine ⟨by omega, by omega, by omega, by omega, by omega, ?_⟩
       rw [I3.2.2.2.2.2, chkD, if_pos (by omega), if_neg (by omega), if_neg (by first | omega | exact fun hh => adjD_no h10 hh.2)]
       ((repeat' split) <;> first | rfl | omega | (simp_all; done) | (simp_all; omega))
      ·
       ((try dsimp only); omega)
     ·
      (try simp only [bne_iff_ne, bne_eq_false_iff_eq, ne_eq] at h14)
      refine .back [.r [(0, X (Xn ((i : Int) + 1)))]] [] (ih3 ((min (b + (((l.getD i default)).n)) 2147483648), a, (i + 1)) ?_ ?_)
      ·
       refine ⟨by omega, by omega, by omega, by omega, by omega, ?_⟩
       rw [I3.2.2.2.2.2, chkD, if_pos (by omega), if_neg (by omega), if_neg (by first | omega | exact fun hh => adjD_no h10 hh.2)]
       ((repeat' split) <;> first | rfl | omega | (simp_all; done) | (simp_all; omega))
      ·
       ((try dsimp only); omega)
    ·
     (try simp only [bne_iff_ne, bne_eq_false_iff_eq, ne_eq] at h12)
     refine .br [.r []] ((((l.getD i default)).kind) != 2) (fun h14 => ?_) (fun h14 => ?_)
     ·
      (try simp only [bne_iff_ne, bne_eq_false_iff_eq, ne_eq] at h14)
      refine .back [.r [(2, X (Xc0 (fc_size ((l.getD i default))) X0)), (3, X (Xn (a + (szD ((l.getD i default)))))), (4, X (Xmin (a + (szD ((l.getD i default)))) 2147483648))], .r [(0, X (Xn ((i : Int) + 1)))]] [] (ih3 (b, (min (a + (szD ((l.getD i default)))) 2147483648), (i + 1)) ?_ ?_)
      ·
       refine ⟨by omega, by omega, by omega, by omega, by omega, ?_⟩
       rw [I3.2.2.2.2.2, chkD, if_pos (by omega), if_neg (by omega), if_neg (by first | omega | exact fun hh => adjD_no h10 hh.2)]
       ((repeat' split) <;> first | rfl | omega | (simp_all; done) | (simp_all; omega))
      ·
       ((try dsimp only); omega)
     ·
      (try simp only [bne_iff_ne, bne_eq_false_iff_eq, ne_eq] at h14)
      refine .back [.r [(0, X (Xn ((i : Int) + 1)))]] [] (ih3 (b, a, (i + 1)) ?_ ?_)
      ·
       refine ⟨by omega, by omega, by omega, by omega, by omega, ?_⟩
       rw [I3.2.2.2.2.2, chkD, if_pos (by omega), if_neg (by omega), if_neg (by first | omega | exact fun hh => adjD_no h10 hh.2)]
       ((repeat' split) <;> first | rfl | omega | (simp_all; done) | (simp_all; omega))
      ·
       ((try dsimp only); omega)
 ·
  (try simp only [decide_eq_true_eq, decide_eq_false_iff_not, Int.not_lt, Int.not_le] at h3)
  refine .br [.r [(4, Xv 1 (!(decide (b > 2147483647))) X0), (5, X (Xk' (decide (b > 2147483647))))]] (decide (b > 2147483647) || decide (a > 2147483647)) (fun h17 => ?_) (fun h17 => ?_)
  ·
   (try simp only [decide_eq_true_eq, decide_eq_false_iff_not, Int.not_lt, Int.not_le, gt_iff_lt, Bool.or_eq_true, Bool.or_eq_false_iff] at h17)
   have e3 : ((checkD l) : Int) = 3 := by
    rw [I3.2.2.2.2.2, chkD]; ((repeat' split) <;> first | rfl | omega | (simp_all; done) | (simp_all; omega))
   exact .finE [.r []] [] (fun z0 => (VI z0, [])) (3 : Int) ((checkD l) : Int) e3
  ·
   (try simp only [decide_eq_true_eq, decide_eq_false_iff_not, Int.not_lt, Int.not_le, gt_iff_lt, Bool.or_eq_true, Bool.or_eq_false_iff] at h17)
   have e4 : ((checkD l) : Int) = 0 := by
    rw [I3.2.2.2.2.2, chkD]; ((repeat' split) <;> first | rfl | omega | (simp_all; done) | (simp_all; omega))
   exact .finE [.r []] [] (fun z0 => (VI z0, [])) (0 : Int) ((checkD l) : Int) e4

theorem fc_dLens (l : List DStep) (hv : DValid l) : FC Try.prog 110 [VL 4 dstepT l] (app emp []) (.tup [VI (oldD l), VI (newD l)]) (app emp []) := by
 refine .go Try.f110 ?_
 refine .len 0 (fun hl0 => ?_)
 refine .loop (α := Int × Int × Nat) [.r [], .r [], .r [(1, X (Xl dstepT l))]] 56 (fun (b, a, i) => ([(4, VI b), (5, VI a), (8, VL 4 dstepT l), (9, VI (l.length : Int)), (10, VI (i : Int))], [])) (fun (b, a, i) => i ≤ l.length ∧ 0 ≤ b ∧ 0 ≤ a ∧ oldD l = b + oldD (l.drop i) ∧ newD l = a + newD (l.drop i)) (fun (b, a, i) => l.length - i) (0, 0, 0) ?_ ?_
 ·
  exact ⟨by omega, by decide, by decide, by simp, by simp⟩
 rintro ⟨b, a, i⟩ I3 ih3
 try dsimp only at I3
 have hv1 := hv.2.1
 have hv2 := hv.2.2
 refine .br [.r []] (decide ((i : Int) < (l.length : Int))) (fun h3 => ?_) (fun h3 => ?_)
 ·
  (try simp only [decide_eq_true_eq, decide_eq_false_iff_not, Int.not_lt, Int.not_le] at h3)
  have hst := dlens_step (l := l) (i := i) (by omega) hv.1
  refine .br [.r [(0, X (Xi dstepT l (i : Int)))], .r []] ((((l.getD i default)).kind) != 1) (fun h5 => ?_) (fun h5 => ?_)
  ·
   (try simp only [bne_iff_ne, bne_eq_false_iff_eq, ne_eq] at h5)
   have s1 := hst.1
   rw [if_neg (by omega)] at s1
   refine .br [.r [(3, X (Xn (b + (((l.getD i default)).n))))], .r []] ((((l.getD i default)).kind) != 2) (fun h7 => ?_) (fun h7 => ?_)
   ·
    (try simp only [bne_iff_ne, bne_eq_false_iff_eq, ne_eq] at h7)
    have s2 := hst.2.1
    rw [if_neg (by omega)] at s2
    refine .back [.r [(2, X (Xc0 (fc_size ((l.getD i default))) X0)), (3, X (Xn (a + (szD ((l.getD i default))))))], .r [(0, X (Xn ((i : Int) + 1)))]] [] (ih3 ((b + (((l.getD i default)).n)), (a + (szD ((l.getD i default)))), (i + 1)) ?_ ?_)
    ·
     obtain ⟨s1, s2, s3, s4, s5, s6, s7, s8⟩ := hst
     first | rw [if_pos (by omega)] at s1 | rw [if_neg (by omega)] at s1
     first | rw [if_pos (by omega)] at s2 | rw [if_neg (by omega)] at s2
     refine ⟨by omega, by omega, by omega, by omega, by omega⟩
    ·
     ((try dsimp only); omega)
   ·
    (try simp only [bne_iff_ne, bne_eq_false_iff_eq, ne_eq] at h7)
    refine .back [.r [(0, X (Xn ((i : Int) + 1)))]] [] (ih3 ((b + (((l.getD i default)).n)), a, (i + 1)) ?_ ?_)
    ·
     obtain ⟨s1, s2, s3, s4, s5, s6, s7, s8⟩ := hst
     first | rw [if_pos (by omega)] at s1 | rw [if_neg (by omega)] at s1
     first | rw [if_pos (by omega)] at s2 | rw [if_neg (by omega)] at s2
     refine ⟨by omega, by omega, by omega, by omega, by omega⟩
    ·
     ((try dsimp only); omega)
  ·
   (try simp only [bne_iff_ne, bne_eq_false_iff_eq, ne_eq] at h5)
   refine .br [.r []] ((((l.getD i default)).kind) != 2) (fun h7 => ?_) (fun h7 => ?_)
   ·
    (try simp only [bne_iff_ne, bne_eq_false_iff_eq, ne_eq] at h7)
    have s2 := hst.2.1
    rw [if_neg (by omega)] at s2
    refine .back [.r [(2, X (Xc0 (fc_size ((l.getD i default))) X0)), (3, X (Xn (a + (szD ((l.getD i default))))))], .r [(0, X (Xn ((i : Int) + 1)))]] [] (ih3 (b, (a + (szD ((l.getD i default)))), (i + 1)) ?_ ?_)
    ·
     obtain ⟨s1, s2, s3, s4, s5, s6, s7, s8⟩ := hst
     first | rw [if_pos (by omega)] at s1 | rw [if_neg (by omega)] at s1
     first | rw [if_pos (by omega)] at s2 | rw [if_neg (by omega)] at s2
     refine ⟨by omega, by omega, by omega, by omega, by omega⟩
    ·
     ((try dsimp only); omega)
   ·
    (try simp only [bne_iff_ne, bne_eq_false_iff_eq, ne_eq] at h7)
    refine .back [.r [(0, X (Xn ((i : Int) + 1)))]] [] (ih3 (b, a, (i + 1)) ?_ ?_)
    ·
     obtain ⟨s1, s2, s3, s4, s5, s6, s7, s8⟩ := hst
     first | rw [if_pos (by omega)] at s1 | rw [if_neg (by omega)] at s1
     first | rw [if_pos (by omega)] at s2 | rw [if_neg (by omega)] at s2
     refine ⟨by omega, by omega, by omega, by omega, by omega⟩
    ·
     ((try dsimp only); omega)
 ·
  (try simp only [decide_eq_true_eq, decide_eq_false_iff_not, Int.not_lt, Int.not_le] at h3)
  have e1 : ((oldD l) : Int) = b := by
   have hE := dend (l := l) (i := i) (by omega)
   omega
  have e2 : ((newD l) : Int) = a := by
   have hE := dend (l := l) (i := i) (by omega)
   omega
  exact .finE [.r []] [] (fun (z0, z1) => (.tup [VI z0, VI z1], [])) ((b : Int), (a : Int)) (((oldD l) : Int), ((newD l) : Int)) (pr e1 e2)
end Go.Ch
end
section
set_option linter.unusedVariables false
set_option linter.unusedSimpArgs false
set_option maxRecDepth 100000
set_option maxHeartbeats 4000000
open Go Go.Proofs Go.Ab
namespace Go.Ch
theorem fc_dRaw (f : List Elem) (l : List DStep) (hv : DValid l) (hd : DN 400000000000 l) (ha : AN 400000000000 f) (hlen : oldD l = f.length) : FC Try.prog 108 [VL 3 elemT f, VL 4 dstepT l] (app emp []) (VL 3 elemT (rawD f l)) (app emp []) := by
 refine .go Try.f108 ?_
 refine .len 0 (fun hl0 => ?_)
 refine .len 1 (fun hl1 => ?_)
 refine .loop (α := (List Elem) × Nat × (List Elem)) [.r [], .r [], .r [(1, X (Xl dstepT l))], .le (.nR 5 3)] 41 (fun (r, i, o) => ([(0, VL 3 elemT r), (5, .row 40 o.length), (8, VL 4 dstepT l), (9, VI (l.length : Int)), (10, VI (i : Int))], [(40, OR 3 elemT o)])) (fun (r, i, o) => i ≤ l.length ∧ AN 400000000000 r ∧ oldD (l.drop i) = r.length ∧ o.length + newD (l.drop i) = newD l ∧ rawD f l = o ++ applyU (exD (l.drop i)) r) (fun (r, i, o) => l.length - i) (f, 0, []) ?_ ?_
 ·
  exact ⟨by omega, ha, by simpa using hlen, by simp, by simp [rawD]⟩
 rintro ⟨r, i, o⟩ I3 ih3
 try dsimp only at I3
 have hv1 := hv.2.1
 have hv2 := hv.2.2
 refine .br [.r []] (decide ((i : Int) < (l.length : Int))) (fun h3 => ?_) (fun h3 => ?_)
 ·
  (try simp only [decide_eq_true_eq, decide_eq_false_iff_not, Int.not_lt, Int.not_le] at h3)
  have hst := dlens_step (l := l) (i := i) (by omega) hv.1
  obtain ⟨hx, hx2, hx3⟩ := hd.at_ (k := i) (by omega)
  have hr := raw_at (d := l) (i := i) (by omega) r
  refine .br [.r [(0, X (Xi dstepT l (i : Int)))], .r [], .r []] ((((l.getD i default)).kind) == 0) (fun h7 => ?_) (fun h7 => ?_)
  ·
   (try simp only [beq_iff_eq, beq_eq_false_iff_ne, ne_eq] at h7)
   obtain ⟨s1, s2, s3, s4, s5, s6, s7, s8⟩ := hst
   rw [if_neg (by omega)] at s1 s2
   have hz : szD (l.getD i default) = (l.getD i default).n := by unfold szD; rw [if_neg (by omega)]
   have hl8 : (r.take (l.getD i default).n.toNat).length = (l.getD i default).n.toNat := by rw [List.length_take]; omega
   have hs8 : ∀ x ∈ r.take (l.getD i default).n.toNat, x.attrs.length + (l.getD i default).attrs.length < 1099511627776 := fun x hx => by have := I3.2.1 x (List.mem_of_mem_take hx); omega
   refine .back [.r [(4, X (Xst elemT 3 r (((l.getD i default)).n))), (7, X (Xc1 169 (fc_changed (r.take (Int.toNat (((l.getD i default)).n))) (((l.getD i default)).attrs) (by omega) (by assumption)) X0)), (8, X (Xap 3 elemT 40 o (List.map (chgE (((l.getD i default)).attrs)) (r.take (Int.toNat (((l.getD i default)).n))))))], .r [(3, X (Xsd elemT 3 r (((l.getD i default)).n)))], .r [(0, X (Xn ((i : Int) + 1)))]] [(40, 40)] (ih3 ((r.drop (Int.toNat (((l.getD i default)).n))), (i + 1), (o ++ (List.map (chgE (((l.getD i default)).attrs)) (r.take (Int.toNat (((l.getD i default)).n)))))) ?_ ?_)
   ·
    refine ⟨by omega, fun x hx => I3.2.1 x (List.mem_of_mem_drop hx), by (rw [List.length_drop]; omega), by (simp only [List.length_append, List.length_map]; omega), ?_⟩
    rw [I3.2.2.2.2, hr, if_neg (by omega), if_neg (by omega), List.append_assoc]
   ·
    show l.length - (i + 1) < l.length - i; omega
  ·
   (try simp only [beq_iff_eq, beq_eq_false_iff_ne, ne_eq] at h7)
   refine .br [.r []] ((((l.getD i default)).kind) == 1) (fun h10 => ?_) (fun h10 => ?_)
   ·
    (try simp only [beq_iff_eq, beq_eq_false_iff_ne, ne_eq] at h10)
    obtain ⟨s1, s2, s3, s4, s5, s6, s7, s8⟩ := hst
    rw [if_pos (by omega)] at s1
    rw [if_neg (by omega)] at s2
    have hz : szD (l.getD i default) = (l.getD i default).elems.length := by unfold szD; rw [if_pos (by omega)]
    refine .back [.r [(3, X (Xc1 153 (fc_copy (((l.getD i default)).elems) (by omega) (by assumption)) X0)), (4, X (Xap 3 elemT 40 o (((l.getD i default)).elems)))], .r [(0, X (Xn ((i : Int) + 1)))]] [(40, 40)] (ih3 (r, (i + 1), (o ++ (((l.getD i default)).elems))) ?_ ?_)
    ·
     refine ⟨by omega, I3.2.1, by omega, by (simp only [List.length_append]; omega), ?_⟩
     rw [I3.2.2.2.2, hr, if_pos (by omega), List.append_assoc]
    ·
     show l.length - (i + 1) < l.length - i; omega
   ·
    (try simp only [beq_iff_eq, beq_eq_false_iff_ne, ne_eq] at h10)
    obtain ⟨s1, s2, s3, s4, s5, s6, s7, s8⟩ := hst
    rw [if_neg (by omega)] at s1
    rw [if_pos (by omega)] at s2
    refine .back [.r [(3, X (Xsd elemT 3 r (((l.getD i default)).n)))], .r [(0, X (Xn ((i : Int) + 1)))]] [(40, 40)] (ih3 ((r.drop (Int.toNat (((l.getD i default)).n))), (i + 1), o) ?_ ?_)
    ·
     refine ⟨by omega, fun x hx => I3.2.1 x (List.mem_of_mem_drop hx), by (rw [List.length_drop]; omega), by omega, ?_⟩
     rw [I3.2.2.2.2, hr, if_neg (by omega), if_pos (by omega)]
    ·
     show l.length - (i + 1) < l.length - i; omega
 ·
  (try simp only [decide_eq_true_eq, decide_eq_false_iff_not, Int.not_lt, Int.not_le] at h3)
  have e1 : ((rawD f l) : List Elem) = o := by
   rw [I3.2.2.2.2, List.drop_eq_nil_of_le (by omega)]; simp [exD, applyU]
  exact .finE [.r [], .le (.fr 4 [(o.length : Nat) = (List.map elemT o).length] ⟨lm, trivial⟩)] [] (fun z0 => (VL 3 elemT z0, [])) (o : List Elem) ((rawD f l) : List Elem) e1

theorem fc_dFits (f : List Elem) (l : List DStep) (hp : partE f 0 = 0) (hv : DValid l) (hd : DN 400000000000 l) (hlen : oldD l = f.length) : FC Try.prog 107 [VL 3 elemT f, VL 4 dstepT l] (app emp []) (VI 0) (app emp []) := by
 refine .go Try.f107 ?_
 refine .len 0 (fun hl0 => ?_)
 refine .len 1 (fun hl1 => ?_)
 have hc := checkD_iff.2 hv
 refine .br [.r [], .r [(1, X (Xc0 (fc_checkPart f) X0))], .r []] ((partE f 0) != 0) (fun h2 => ?_) (fun h2 => ?_)
 ·
  (try simp only [bne_iff_ne, bne_eq_false_iff_eq, ne_eq] at h2)
  exfalso
  omega
 ·
  (try simp only [bne_iff_ne, bne_eq_false_iff_eq, ne_eq] at h2)
  refine .br [.r [(1, X (Xc0 (fc_dCheck l (by assumption)) X0))], .r []] ((checkD l) != 0) (fun h5 => ?_) (fun h5 => ?_)
  ·
   (try simp only [bne_iff_ne, bne_eq_false_iff_eq, ne_eq] at h5)
   exfalso
   omega
  ·
   (try simp only [bne_iff_ne, bne_eq_false_iff_eq, ne_eq] at h5)
   refine .br [.r [(1, X (Xc0 (fc_dLens l (by assumption)) X0))], .r [(2, X (Xl elemT f))]] ((oldD l) != (f.length : Int)) (fun h8 => ?_) (fun h8 => ?_)
   ·
    (try simp only [bne_iff_ne, bne_eq_false_iff_eq, ne_eq] at h8)
    exfalso
    omega
   ·
    (try simp only [bne_iff_ne, bne_eq_false_iff_eq, ne_eq] at h8)
    exact .fin [.r []] []

theorem fc_dApply (f : List Elem) (l : List DStep) (hp : partE f 0 = 0) (hv : DValid l) (hd : DN 400000000000 l) (ha : AN 400000000000 f) (hlen : oldD l = f.length) : FC Try.prog 53 [VL 3 elemT f, VL 4 dstepT l] (app emp []) (.tup [VL 3 elemT (rawD f l), VI 0]) (app emp []) := by
 refine .go Try.f53 ?_
 refine .len 0 (fun hl0 => ?_)
 refine .len 1 (fun hl1 => ?_)
 exact .fin [.r [], .r [(2, X (Xc0 (fc_dFits f l (by assumption) (by assumption) (by assumption) (by omega)) X0))], .r [], .f, .r [(2, X (Xc1 80 (fc_dRaw f l (by assumption) (by assumption) (by assumption) (by omega)) X0))]] []

def DSz (l : List DStep) : Prop := ∀ s ∈ l, Szd s.attrs ∧ SzE s.elems
theorem DSz.at_ {l : List DStep} (h : DSz l) {k : Nat} (hk : k < l.length) : Szd (l.getD k default).attrs ∧ SzE (l.getD k default).elems := by
  refine h _ ?_
  rw [show l.getD k default = l[k] by simp [List.getD, List.getElem?_eq_getElem hk]]
  exact List.getElem_mem hk

end Go.Ch
end
section
set_option linter.unusedVariables false
set_option linter.unusedSimpArgs false
set_option maxRecDepth 100000
set_option maxHeartbeats 4000000
open Go Go.Proofs Go.Ab
namespace Go.Ch
end Go.Ch
end
section
set_option linter.unusedVariables false
set_option linter.unusedSimpArgs false
namespace Go.Ch
open Go Go.Ab

structure DWr where
  out : List DStep
  add : List Elem
  cut : Int
def flushD (w : DWr) : List DStep := w.out ++ (if 0 < w.add.length then [⟨1, 0, [], w.add⟩] else []) ++ (if 0 < w.cut then [⟨2, w.cut, [], []⟩] else [])
def keepD (l : List DStep) (n : Int) (c : List Attr) : List DStep :=
  if 0 < l.length ∧ (l.getD (l.length - 1) default).kind = 0 ∧ sameL (l.getD (l.length - 1) default).attrs c = true then
    l.set (l.length - 1) ⟨(l.getD (l.length - 1) default).kind, (l.getD (l.length - 1) default).n + n, (l.getD (l.length - 1) default).attrs, (l.getD (l.length - 1) default).elems⟩
  else l ++ [⟨0, n, c, []⟩]
theorem flushD_len (w : DWr) : (flushD w).length ≤ w.out.length + 2 := by
  unfold flushD; simp only [List.length_append]; split <;> split <;> simp
theorem keepD_len (l : List DStep) (n : Int) (c : List Attr) : (keepD l n c).length ≤ l.length + 1 := by
  unfold keepD; split <;> simp
/-- A step without the bound on its count. -/
def DOkW (s : DStep) : Prop :=
  (s.kind = 1 ∧ s.n = 0 ∧ s.attrs = [] ∧ s.elems ≠ [] ∧ ∀ x ∈ s.elems, elemE x = 0) ∨
  ((s.kind = 0 ∨ s.kind = 2) ∧ s.elems = [] ∧ (s.kind = 2 → s.attrs = []) ∧ 1 ≤ s.n ∧ VG true s.attrs)
def AdjOk : List DStep → Prop
  | [] => True
  | [_] => True
  | s :: t :: l => adjD s t = false ∧ AdjOk (t :: l)
theorem adj_snoc : ∀ {l : List DStep} {s : DStep}, AdjOk l → (∀ t, l.getLast? = some t → adjD t s = false) → AdjOk (l ++ [s])
  | [], s, _, _ => trivial
  | [x], s, _, h => ⟨h x rfl, trivial⟩
  | x :: y :: l, s, hf, h => ⟨hf.1, adj_snoc (l := y :: l) hf.2 (fun t ht => h t (by simpa [List.getLast?_cons_cons] using ht))⟩
theorem adjD_eq' {w x x' : DStep} (k : x'.kind = x.kind) (a : x'.attrs = x.attrs) : adjD w x' = adjD w x := by unfold adjD; rw [k, a]
theorem adj_last : ∀ {l : List DStep} {s s' : DStep}, AdjOk (l ++ [s]) → s'.kind = s.kind → s'.attrs = s.attrs → AdjOk (l ++ [s'])
  | [], s, s', _, _, _ => trivial
  | [x], s, s', h, k, a => ⟨by rw [adjD_eq' k a]; exact h.1, trivial⟩
  | x :: y :: l, s, s', h, k, a => ⟨h.1, adj_last (l := y :: l) h.2 k a⟩
theorem dform_of : ∀ {l : List DStep}, (∀ s ∈ l, DOk s) → AdjOk l → DForm l
  | [], _, _ => trivial
  | [s], h, _ => h s (by simp)
  | s :: t :: l, h, k => ⟨h s (by simp), k.1, dform_of (fun x hx => h x (by simp at hx ⊢; exact .inr hx)) k.2⟩
theorem oSW {s : DStep} (h : DOkW s) : 0 ≤ oS s ∧ 0 ≤ nS s ∧ (s.kind ≠ 1 → oS s = s.n) ∧ 0 ≤ s.n := by
  unfold oS nS szD
  rcases h with ⟨k, n, a, e, _⟩ | ⟨k, _, _, n1, _⟩
  · have : 0 < s.elems.length := List.length_pos_iff.2 e
    rw [if_pos k, if_neg (by omega), if_pos k]
    exact ⟨Int.le_refl _, by omega, fun q => absurd k q, by omega⟩
  · have k1 : ¬ s.kind = 1 := by omega
    simp only [if_neg k1]
    refine ⟨by omega, by (split <;> omega), fun _ => trivial, by omega⟩
theorem sumsW : ∀ {l : List DStep}, (∀ s ∈ l, DOkW s) → 0 ≤ oldD l ∧ 0 ≤ newD l ∧ ∀ s ∈ l, s.kind ≠ 1 → s.n ≤ oldD l
  | [], _ => ⟨Int.le_refl _, Int.le_refl _, fun s hs => by cases hs⟩
  | s :: l, h => by
    have h1 := oSW (h s (by simp))
    have h2 := sumsW (l := l) (fun t ht => h t (by simp [ht]))
    simp only [oldD, newD]
    refine ⟨by omega, by omega, fun t ht k => ?_⟩
    rcases List.mem_cons.1 ht with rfl | ht
    · have := h1.2.2.1 k; omega
    · have := h2.2.2 t ht k; omega
theorem valid_of {l : List DStep} (h : ∀ s ∈ l, DOkW s) (ha : AdjOk l) (h1 : oldD l ≤ 2147483647) (h2 : newD l ≤ 2147483647) : DValid l := by
  refine ⟨dform_of (fun s hs => ?_) ha, h1, h2⟩
  rcases h s hs with q | ⟨a, b, c, d, e⟩
  · exact .inl q
  · have := (sumsW h).2.2 s hs (by omega)
    exact .inr ⟨a, b, c, d, by omega, e⟩
theorem oldN_app (u v : List DU) : oldN (u ++ v) = oldN u + oldN v := by
  induction u with
  | nil => simp [oldN]
  | cons x u ih => cases x <;> simp [oldN, ih] <;> omega
theorem newN_app (u v : List DU) : newN (u ++ v) = newN u + newN v := by
  induction u with
  | nil => simp [newN]
  | cons x u ih => cases x <;> simp [newN, ih] <;> omega
theorem lens_As (e : List Elem) : oldN (e.map .A) = 0 ∧ newN (e.map .A) = e.length := by
  induction e with
  | nil => exact ⟨rfl, rfl⟩
  | cons x e ih => simp [oldN, newN, ih]
theorem lens_Cs (n : Nat) : oldN (List.replicate n .C) = n ∧ newN (List.replicate n .C) = 0 := by
  induction n with
  | zero => exact ⟨rfl, rfl⟩
  | succ n ih => simp [List.replicate_succ, oldN, newN, ih]
theorem lens_Ks (n : Nat) (c : List Attr) : oldN (List.replicate n (.K c)) = n ∧ newN (List.replicate n (.K c)) = n := by
  induction n with
  | zero => exact ⟨rfl, rfl⟩
  | succ n ih => simp [List.replicate_succ, oldN, newN, ih]
theorem lens_S {s : DStep} (h : DOkW s) : (oldN (exS s) : Int) = oS s ∧ (newN (exS s) : Int) = nS s := by
  unfold exS oS nS szD
  rcases h with ⟨k, n, a, e, _⟩ | ⟨k, _, _, n1, _⟩
  · rw [if_pos k, if_pos k, if_neg (by omega), if_pos k, (lens_As _).1, (lens_As _).2]; exact ⟨rfl, rfl⟩
  · have k1 : ¬ s.kind = 1 := by omega
    by_cases k2 : s.kind = 2
    · simp only [if_neg k1, if_pos k2]
      rw [(lens_Cs _).1, (lens_Cs _).2]; omega
    · simp only [if_neg k1, if_neg k2]
      rw [(lens_Ks _ _).1, (lens_Ks _ _).2]; omega
theorem lens_D : ∀ {l : List DStep}, (∀ s ∈ l, DOkW s) → (oldN (exD l) : Int) = oldD l ∧ (newN (exD l) : Int) = newD l
  | [], _ => ⟨rfl, rfl⟩
  | s :: l, h => by
    have h1 := lens_S (h s (by simp))
    have h2 := lens_D (l := l) (fun t ht => h t (by simp [ht]))
    simp only [exD, oldD, newD]
    rw [oldN_app, newN_app]
    omega
def exDW (w : DWr) : List DU := exD w.out ++ (w.add.map .A ++ List.replicate w.cut.toNat .C)
structure GoodD (w : DWr) : Prop where
  ok : ∀ s ∈ w.out, DOkW s
  adj : AdjOk w.out
  last : ∀ t, w.out.getLast? = some t → t.kind = 0
  add : ∀ x ∈ w.add, elemE x = 0
  cut : 0 ≤ w.cut
theorem goodD0 : GoodD ⟨[], [], 0⟩ := ⟨fun s h => (by cases h), trivial, fun t h => (by cases h), fun x h => (by cases h), Int.le_refl _⟩
theorem flushD_ex {w : DWr} (h : GoodD w) : exD (flushD w) = exDW w := by
  have h2 := h.cut
  unfold flushD exDW
  rw [exD_app, exD_app, List.append_assoc]
  congr 2
  · split
    · simp [exD, exS]
    · rw [show w.add = [] from len0.1 (by omega)]; rfl
  · split
    · simp [exD, exS]
    · rw [show w.cut.toNat = 0 by omega]; rfl
theorem adj_1 {t s : DStep} (h : t.kind ≠ s.kind) (h2 : ¬ (t.kind = 2 ∧ s.kind = 1)) : adjD t s = false := by
  cases e : adjD t s
  · rfl
  · rcases adjD_yes.1 e with ⟨a, _⟩ | a
    · exact absurd a h
    · exact absurd a h2
theorem vg_nil : VG true [] := (chk_iff (e := true) (l := [])).1 (by rw [chkA]; rfl)
theorem flushD_ok {w : DWr} (h : GoodD w) : (∀ s ∈ flushD w, DOkW s) ∧ AdjOk (flushD w) := by
  have h2 := h.cut
  have o1 : 0 < w.add.length → DOkW ⟨1, 0, [], w.add⟩ := fun q => .inl ⟨rfl, rfl, rfl, List.length_pos_iff.1 q, h.add⟩
  have o2 : 0 < w.cut → DOkW ⟨2, w.cut, [], []⟩ := fun q => .inr ⟨.inr rfl, rfl, fun _ => rfl, q, vg_nil⟩
  refine ⟨fun s hs => ?_, ?_⟩
  · unfold flushD at hs
    simp only [List.mem_append] at hs
    rcases hs with (hs | hs) | hs
    · exact h.ok s hs
    · split at hs
      · rename_i q; rw [List.mem_singleton] at hs; subst hs; exact o1 q
      · cases hs
    · split at hs
      · rename_i q; rw [List.mem_singleton] at hs; subst hs; exact o2 q
      · cases hs
  · unfold flushD
    by_cases ha : 0 < w.add.length
    · rw [if_pos ha]
      have f1 : AdjOk (w.out ++ [⟨1, 0, [], w.add⟩]) := adj_snoc h.adj (fun t ht => by
        have := h.last t ht
        exact adj_1 (by simp only; omega) (by omega))
      by_cases hc : 0 < w.cut
      · rw [if_pos hc]
        refine adj_snoc f1 (fun t ht => ?_)
        rw [List.getLast?_concat] at ht
        cases ht
        exact adj_1 (by show (1 : Int) ≠ 2; decide) (by show ¬ ((1 : Int) = 2 ∧ (2 : Int) = 1); decide)
      · rw [if_neg hc, List.append_nil]; exact f1
    · rw [if_neg ha, List.append_nil]
      by_cases hc : 0 < w.cut
      · rw [if_pos hc]
        refine adj_snoc h.adj (fun t ht => ?_)
        have := h.last t ht
        exact adj_1 (by simp only; omega) (by omega)
      · rw [if_neg hc, List.append_nil]; exact h.adj
theorem lastD {l : List DStep} (h : 0 < l.length) : l = l.take (l.length - 1) ++ [l.getD (l.length - 1) default] := by
  conv => lhs; rw [← List.take_append_drop (l.length - 1) l]
  congr 1
  rw [List.drop_eq_getElem_cons (by omega), List.drop_eq_nil_of_le (by omega)]
  simp [List.getD, List.getElem?_eq_getElem (show l.length - 1 < l.length by omega)]
theorem lastD_mem {l : List DStep} (h : 0 < l.length) : l.getD (l.length - 1) default ∈ l := by
  rw [show l.getD (l.length - 1) default = l[l.length - 1] by simp [List.getD, List.getElem?_eq_getElem (show l.length - 1 < l.length by omega)]]
  exact List.getElem_mem _
theorem setD {l : List DStep} (h : 0 < l.length) (s : DStep) : l.set (l.length - 1) s = l.take (l.length - 1) ++ [s] := by
  rw [List.set_eq_take_append_cons_drop, if_pos (by omega), List.drop_eq_nil_of_le (by omega)]
theorem keepD_ok {l : List DStep} {n : Int} {c : List Attr} (ho : ∀ s ∈ l, DOkW s) (hf : AdjOk l) (hn : 1 ≤ n) (hc : VG true c) :
    (∀ s ∈ keepD l n c, DOkW s) ∧ AdjOk (keepD l n c) ∧ (∀ t, (keepD l n c).getLast? = some t → t.kind = 0) ∧ exD (keepD l n c) = exD l ++ List.replicate n.toNat (.K c) := by
  unfold keepD
  split
  · rename_i hc
    obtain ⟨h0, hk, ha⟩ := hc
    rw [sameL_eq] at ha
    generalize hx : l.getD (l.length - 1) default = x at hk ha ⊢
    have hl := lastD h0
    rw [hx] at hl
    rw [setD h0]
    have hox : DOkW x := ho x (by rw [hl]; simp)
    have hx2 : x.elems = [] ∧ 1 ≤ x.n ∧ VG true x.attrs := by
      rcases hox with ⟨k, _⟩ | ⟨_, a, _, b, d⟩
      · omega
      · exact ⟨a, b, d⟩
    refine ⟨fun s hs => ?_, adj_last (s := x) (by rw [← hl]; exact hf) rfl rfl, fun t ht => ?_, ?_⟩
    · rw [List.mem_append] at hs
      rcases hs with hs | hs
      · exact ho s (List.mem_of_mem_take hs)
      · rw [List.mem_singleton] at hs; subst hs
        exact .inr ⟨.inl hk, hx2.1, fun q => by simp only at q; omega, by simp only; omega, hx2.2.2⟩
    · rw [List.getLast?_concat] at ht; cases ht; exact hk
    · conv => rhs; rw [hl]
      rw [exD_app, exD_app, List.append_assoc]
      congr 1
      simp only [exD, List.append_nil, exS]
      rw [if_neg (by omega), if_neg (by omega), if_neg (by omega), if_neg (by omega), ha, show (x.n + n).toNat = x.n.toNat + n.toNat by omega]
      exact List.replicate_append_replicate.symm
  · rename_i hq
    refine ⟨fun s hs => ?_, adj_snoc hf (fun t ht => ?_), fun t ht => ?_, by rw [exD_app]; simp [exD, exS]⟩
    · rw [List.mem_append] at hs
      rcases hs with hs | hs
      · exact ho s hs
      · rw [List.mem_singleton] at hs; subst hs
        exact .inr ⟨.inl rfl, rfl, fun q => (by cases q), hn, hc⟩
    · have h0 : 0 < l.length := by
        rcases l with _ | ⟨y, l⟩
        · cases ht
        · simp
      have hl : l.getLast? = some (l.getD (l.length - 1) default) := by
        conv => lhs; rw [lastD h0]
        rw [List.getLast?_concat]
      rw [hl] at ht
      cases ht
      cases e : adjD (l.getD (l.length - 1) default) ⟨0, n, c, []⟩
      · rfl
      · rcases adjD_yes.1 e with ⟨a, b | b⟩ | ⟨_, b⟩
        · exact absurd rfl b
        · exact absurd ⟨h0, a, b⟩ hq
        · cases b
    · rw [List.getLast?_concat] at ht; cases ht; rfl
theorem GoodD.keep {w : DWr} {n : Int} {c : List Attr} (h : GoodD w) (hn : 1 ≤ n) (hc : VG true c) :
    GoodD ⟨keepD (flushD w) n c, [], 0⟩ ∧ exDW ⟨keepD (flushD w) n c, [], 0⟩ = exDW w ++ List.replicate n.toNat (.K c) := by
  obtain ⟨q1, q2, q3, q4⟩ := keepD_ok (flushD_ok h).1 (flushD_ok h).2 hn hc
  refine ⟨⟨q1, q2, q3, fun x hx => (by cases hx), Int.le_refl _⟩, ?_⟩
  rw [← flushD_ex h, ← q4]
  simp [exDW]
theorem GoodD.elems {w : DWr} {e : List Elem} (h : GoodD w) (he : ∀ x ∈ e, elemE x = 0) :
    GoodD ⟨w.out, w.add ++ e, w.cut⟩ ∧ DSw (exDW ⟨w.out, w.add ++ e, w.cut⟩) (exDW w ++ e.map .A) := by
  refine ⟨⟨h.ok, h.adj, h.last, fun x hx => ?_, h.cut⟩, ?_⟩
  · rcases List.mem_append.1 hx with hx | hx
    · exact h.add x hx
    · exact he x hx
  · unfold exDW
    simp only [List.map_append, List.append_assoc]
    refine .left _ (.left _ ?_)
    have := dsw_Cs_As w.cut.toNat e []
    simp only [List.append_nil] at this
    exact .symm this
theorem GoodD.cuts {w : DWr} {n : Int} (h : GoodD w) (hn : 0 ≤ n) :
    GoodD ⟨w.out, w.add, w.cut + n⟩ ∧ exDW ⟨w.out, w.add, w.cut + n⟩ = exDW w ++ List.replicate n.toNat .C := by
  have h2 := h.cut
  refine ⟨⟨h.ok, h.adj, h.last, h.add, by simp only; omega⟩, ?_⟩
  unfold exDW
  simp only [List.append_assoc]
  rw [show (w.cut + n).toNat = w.cut.toNat + n.toNat by omega, ← List.replicate_append_replicate]
theorem GoodD.valid {w : DWr} {u : List DU} (h : GoodD w) (hs : DSw (exDW w) u) (h1 : oldN u ≤ 2147483647) (h2 : newN u ≤ 2147483647) :
    DValid (flushD w) ∧ DSw (exD (flushD w)) u ∧ oldD (flushD w) = oldN u ∧ newD (flushD w) = newN u := by
  have hk := flushD_ok h
  have he := flushD_ex h
  have hl := dsw_lens hs
  have hd := lens_D hk.1
  rw [he] at hd
  refine ⟨valid_of hk.1 hk.2 (by omega) (by omega), by rw [he]; exact hs, by omega, by omega⟩
end Go.Ch
end
section
set_option linter.unusedVariables false
set_option linter.unusedSimpArgs false
set_option maxRecDepth 100000
set_option maxHeartbeats 4000000
open Go Go.Proofs Go.Ab
namespace Go.Ch
theorem fc_dFlush (o : List DStep) (a : List Elem) (c : Int) (ho : o.length ≤ 100000000000) : FC Try.prog 135 [.ptr 0 0] (app emp [(0, .box [.row 1 o.length, .row 2 a.length, VI c]), (1, OR 4 dstepT o), (2, OR 3 elemT a)]) (.tup []) (app emp [(0, .box [.row 1 ((flushD ⟨o, a, c⟩).length), .row 3 0, VI 0]), (1, OR 4 dstepT (flushD ⟨o, a, c⟩)), (2, OF 3 elemT a), (3, OR 3 elemT [])]) := by
 refine .go Try.f135 ?_
 refine .br [.r []] (decide ((a.length : Int) > 0)) (fun h0 => ?_) (fun h0 => ?_)
 ·
  (try simp only [decide_eq_true_eq, decide_eq_false_iff_not, Int.not_lt, Int.not_le, gt_iff_lt] at h0)
  refine .br [.r [(9, X (Xf [(2, 2)])), (10, X (rowC elemT a X0)), (11, X (rowC dstepT [({ kind := 1, n := 0, attrs := [], elems := a } : DStep)] (Xap 4 dstepT 1 o [({ kind := 1, n := 0, attrs := [], elems := a } : DStep)])))], .r []] (decide (c > 0)) (fun h2 => ?_) (fun h2 => ?_)
  ·
   (try simp only [decide_eq_true_eq, decide_eq_false_iff_not, Int.not_lt, Int.not_le, gt_iff_lt] at h2)
   have e1 : ((flushD ⟨o, a, c⟩).length : Nat) = ((o ++ [({ kind := 1, n := 0, attrs := [], elems := a } : DStep)]) ++ [({ kind := 2, n := c, attrs := [], elems := [] } : DStep)]).length := by
    unfold flushD; simp only; (repeat (first | rw [if_pos (by omega)] | rw [if_neg (by omega)])); try simp
   have e2 : ((flushD ⟨o, a, c⟩) : List DStep) = ((o ++ [({ kind := 1, n := 0, attrs := [], elems := a } : DStep)]) ++ [({ kind := 2, n := c, attrs := [], elems := [] } : DStep)]) := by
    unfold flushD; simp only; (repeat (first | rw [if_pos (by omega)] | rw [if_neg (by omega)])); try simp
   exact .finE [.r [(9, X (Xf [(2, 2), (3, 3)])), (11, X (rowC dstepT [({ kind := 2, n := c, attrs := [], elems := [] } : DStep)] (Xap 4 dstepT 1 (o ++ [({ kind := 1, n := 0, attrs := [], elems := a } : DStep)]) [({ kind := 2, n := c, attrs := [], elems := [] } : DStep)])))], .r [], .le (.nB 0 1 3)] [(0, 0), (1, 1), (2, 2), (395, 3)] (fun (z0, z1) => (.tup [], [(0, .box [.row 1 z0, .row 3 0, VI 0]), (1, OR 4 dstepT z1), (2, OF 3 elemT a), (3, OR 3 elemT [])])) ((((o ++ [({ kind := 1, n := 0, attrs := [], elems := a } : DStep)]) ++ [({ kind := 2, n := c, attrs := [], elems := [] } : DStep)]).length : Nat), (((o ++ [({ kind := 1, n := 0, attrs := [], elems := a } : DStep)]) ++ [({ kind := 2, n := c, attrs := [], elems := [] } : DStep)]) : List DStep)) (((flushD ⟨o, a, c⟩).length : Nat), ((flushD ⟨o, a, c⟩) : List DStep)) (pr e1 e2)
  ·
   (try simp only [decide_eq_true_eq, decide_eq_false_iff_not, Int.not_lt, Int.not_le, gt_iff_lt] at h2)
   have e3 : ((flushD ⟨o, a, c⟩).length : Nat) = (o ++ [({ kind := 1, n := 0, attrs := [], elems := a } : DStep)]).length := by
    unfold flushD; simp only; (repeat (first | rw [if_pos (by omega)] | rw [if_neg (by omega)])); try simp
   have e4 : ((flushD ⟨o, a, c⟩) : List DStep) = (o ++ [({ kind := 1, n := 0, attrs := [], elems := a } : DStep)]) := by
    unfold flushD; simp only; (repeat (first | rw [if_pos (by omega)] | rw [if_neg (by omega)])); try simp
   exact .finE [.r [], .le (.nB 0 1 3)] [(0, 0), (1, 1), (2, 2), (275, 3)] (fun (z0, z1) => (.tup [], [(0, .box [.row 1 z0, .row 3 0, VI 0]), (1, OR 4 dstepT z1), (2, OF 3 elemT a), (3, OR 3 elemT [])])) (((o ++ [({ kind := 1, n := 0, attrs := [], elems := a } : DStep)]).length : Nat), ((o ++ [({ kind := 1, n := 0, attrs := [], elems := a } : DStep)]) : List DStep)) (((flushD ⟨o, a, c⟩).length : Nat), ((flushD ⟨o, a, c⟩) : List DStep)) (pr e3 e4)
 ·
  (try simp only [decide_eq_true_eq, decide_eq_false_iff_not, Int.not_lt, Int.not_le, gt_iff_lt] at h0)
  refine .br [.r []] (decide (c > 0)) (fun h2 => ?_) (fun h2 => ?_)
  ·
   (try simp only [decide_eq_true_eq, decide_eq_false_iff_not, Int.not_lt, Int.not_le, gt_iff_lt] at h2)
   have e5 : ((flushD ⟨o, a, c⟩).length : Nat) = (o ++ [({ kind := 2, n := c, attrs := [], elems := [] } : DStep)]).length := by
    unfold flushD; simp only; (repeat (first | rw [if_pos (by omega)] | rw [if_neg (by omega)])); try simp
   have e6 : ((flushD ⟨o, a, c⟩) : List DStep) = (o ++ [({ kind := 2, n := c, attrs := [], elems := [] } : DStep)]) := by
    unfold flushD; simp only; (repeat (first | rw [if_pos (by omega)] | rw [if_neg (by omega)])); try simp
   exact .finE [.r [(9, X (Xf [(2, 2), (3, 3)])), (11, X (rowC dstepT [({ kind := 2, n := c, attrs := [], elems := [] } : DStep)] (Xap 4 dstepT 1 o [({ kind := 2, n := c, attrs := [], elems := [] } : DStep)])))], .r [], .le (.nB 0 1 3), .le (.fz 2)] [(0, 0), (1, 1), (2, 2), (275, 3)] (fun (z0, z1) => (.tup [], [(0, .box [.row 1 z0, .row 3 0, VI 0]), (1, OR 4 dstepT z1), (2, OF 3 elemT a), (3, OR 3 elemT [])])) (((o ++ [({ kind := 2, n := c, attrs := [], elems := [] } : DStep)]).length : Nat), ((o ++ [({ kind := 2, n := c, attrs := [], elems := [] } : DStep)]) : List DStep)) (((flushD ⟨o, a, c⟩).length : Nat), ((flushD ⟨o, a, c⟩) : List DStep)) (pr e5 e6)
  ·
   (try simp only [decide_eq_true_eq, decide_eq_false_iff_not, Int.not_lt, Int.not_le, gt_iff_lt] at h2)
   have e7 : ((flushD ⟨o, a, c⟩).length : Nat) = o.length := by
    unfold flushD; simp only; (repeat (first | rw [if_pos (by omega)] | rw [if_neg (by omega)])); try simp
   have e8 : ((flushD ⟨o, a, c⟩) : List DStep) = o := by
    unfold flushD; simp only; (repeat (first | rw [if_pos (by omega)] | rw [if_neg (by omega)])); try simp
   exact .finE [.r [], .le (.nB 0 1 3), .le (.fz 2)] [(0, 0), (1, 1), (2, 2), (155, 3)] (fun (z0, z1) => (.tup [], [(0, .box [.row 1 z0, .row 3 0, VI 0]), (1, OR 4 dstepT z1), (2, OF 3 elemT a), (3, OR 3 elemT [])])) ((o.length : Nat), (o : List DStep)) (((flushD ⟨o, a, c⟩).length : Nat), ((flushD ⟨o, a, c⟩) : List DStep)) (pr e7 e8)

theorem fc_dElems (o : List DStep) (a : List Elem) (c : Int) (e : List Elem) (hs : AN 400000000000 e) (ho : a.length + e.length ≤ 100000000000) : FC Try.prog 104 [.ptr 0 0, VL 3 elemT e] (app emp [(0, .box [.row 1 o.length, .row 2 a.length, VI c]), (1, OR 4 dstepT o), (2, OR 3 elemT a)]) (.tup []) (app emp [(0, .box [.row 1 o.length, .row 2 ((a ++ e).length), VI c]), (1, OR 4 dstepT o), (2, OR 3 elemT (a ++ e))]) := by
 refine .go Try.f104 ?_
 refine .len 1 (fun hl1 => ?_)
 exact .fin [.r [(6, X (Xc1 51 (fc_copy e (by omega) (by assumption)) X0)), (7, X (Xap 3 elemT 2 a e))]] [(0, 0), (1, 1), (2, 2)]

theorem kbd {l : List DStep} (h : ∀ s ∈ l, 0 ≤ s.n ∧ s.n ≤ 10000000000) : ∀ s ∈ l, 0 ≤ s.n ∧ s.n ≤ 1000000000000000000 := fun s hs => by have := h s hs; omega

theorem fc_dKeep (o : List DStep) (a : List Elem) (c : Int) (n : Int) (l : List Attr) (ho : o.length ≤ 100000000000) (hl : l.length ≤ 400000000000) (hn : 1 ≤ n ∧ n ≤ 100000000000) (hk : ∀ s ∈ flushD ⟨o, a, c⟩, 0 ≤ s.n ∧ s.n ≤ 1000000000000000000) : FC Try.prog 103 [.ptr 0 0, VI n, VL 2 attrT l] (app emp [(0, .box [.row 1 o.length, .row 2 a.length, VI c]), (1, OR 4 dstepT o), (2, OR 3 elemT a)]) (.tup []) (app emp [(0, .box [.row 1 ((keepD (flushD ⟨o, a, c⟩) n l).length), .row 3 0, VI 0]), (1, OR 4 dstepT (keepD (flushD ⟨o, a, c⟩) n l)), (2, OF 3 elemT a), (3, OR 3 elemT [])]) := by
 refine .go Try.f103 ?_
 refine .len 2 (fun hl2 => ?_)
 have hfl := flushD_len ⟨o, a, c⟩
 simp only at hfl
 refine .br [.r []] (n == 0) (fun h0 => ?_) (fun h0 => ?_)
 ·
  (try simp only [beq_iff_eq, beq_eq_false_iff_ne, ne_eq] at h0)
  exfalso
  omega
 ·
  (try simp only [beq_iff_eq, beq_eq_false_iff_ne, ne_eq] at h0)
  have hlast := fun h : 0 < (flushD ⟨o, a, c⟩).length => hk _ (lastD_mem h)
  refine .br [.r [(1, X (Xc3 27 [(0, 0), (1, 1), (2, 2)] (fc_dFlush o a c (by omega)) X0))], .r [(5, X (Xn (((flushD ⟨o, a, c⟩).length : Int) - 1)))], .r [(4, Xv 1 (decide ((((flushD ⟨o, a, c⟩).length : Int) - 1) ≥ 0)) X0), (5, Xv 1 (decide ((((flushD ⟨o, a, c⟩).length : Int) - 1) ≥ 0)) X0), (6, Xv 1 (decide ((((flushD ⟨o, a, c⟩).length : Int) - 1) ≥ 0)) X0), (8, Xv 2 (decide ((((flushD ⟨o, a, c⟩).length : Int) - 1) ≥ 0)) (Xp' dstepT 1 (flushD ⟨o, a, c⟩) (((flushD ⟨o, a, c⟩).length : Int) - 1) (((flushD ⟨o, a, c⟩).length) - 1))), (9, Xv 1 (decide ((((flushD ⟨o, a, c⟩).length : Int) - 1) ≥ 0)) X0), (10, Xv 1 (decide ((((flushD ⟨o, a, c⟩).length : Int) - 1) ≥ 0)) (Xe dstepT (flushD ⟨o, a, c⟩) (((flushD ⟨o, a, c⟩).length) - 1))), (11, Xv 1 (decide ((((flushD ⟨o, a, c⟩).length : Int) - 1) ≥ 0)) X0), (12, X (Xk (decide ((((flushD ⟨o, a, c⟩).length : Int) - 1) ≥ 0)))), (15, Xv 1 (decide ((((flushD ⟨o, a, c⟩).length : Int) - 1) ≥ 0) && (((((flushD ⟨o, a, c⟩).getD (((flushD ⟨o, a, c⟩).length) - 1) default)).kind) == 0)) X0), (16, Xv 1 (decide ((((flushD ⟨o, a, c⟩).length : Int) - 1) ≥ 0) && (((((flushD ⟨o, a, c⟩).getD (((flushD ⟨o, a, c⟩).length) - 1) default)).kind) == 0)) X0), (17, Xv 1 (decide ((((flushD ⟨o, a, c⟩).length : Int) - 1) ≥ 0) && (((((flushD ⟨o, a, c⟩).getD (((flushD ⟨o, a, c⟩).length) - 1) default)).kind) == 0)) X0), (19, Xv 2 (decide ((((flushD ⟨o, a, c⟩).length : Int) - 1) ≥ 0) && (((((flushD ⟨o, a, c⟩).getD (((flushD ⟨o, a, c⟩).length) - 1) default)).kind) == 0)) (Xp' dstepT 1 (flushD ⟨o, a, c⟩) (((flushD ⟨o, a, c⟩).length : Int) - 1) (((flushD ⟨o, a, c⟩).length) - 1))), (20, Xv 1 (decide ((((flushD ⟨o, a, c⟩).length : Int) - 1) ≥ 0) && (((((flushD ⟨o, a, c⟩).getD (((flushD ⟨o, a, c⟩).length) - 1) default)).kind) == 0)) X0), (21, Xv 1 (decide ((((flushD ⟨o, a, c⟩).length : Int) - 1) ≥ 0) && (((((flushD ⟨o, a, c⟩).getD (((flushD ⟨o, a, c⟩).length) - 1) default)).kind) == 0)) (Xe dstepT (flushD ⟨o, a, c⟩) (((flushD ⟨o, a, c⟩).length) - 1))), (23, Xv 2 (decide ((((flushD ⟨o, a, c⟩).length : Int) - 1) ≥ 0) && (((((flushD ⟨o, a, c⟩).getD (((flushD ⟨o, a, c⟩).length) - 1) default)).kind) == 0)) (Xc0 (fc_attrSame ((((flushD ⟨o, a, c⟩).getD (((flushD ⟨o, a, c⟩).length) - 1) default)).attrs) l) X0)), (24, X (Xk (decide ((((flushD ⟨o, a, c⟩).length : Int) - 1) ≥ 0) && (((((flushD ⟨o, a, c⟩).getD (((flushD ⟨o, a, c⟩).length) - 1) default)).kind) == 0))))]] ((decide ((((flushD ⟨o, a, c⟩).length : Int) - 1) ≥ 0) && (((((flushD ⟨o, a, c⟩).getD (((flushD ⟨o, a, c⟩).length) - 1) default)).kind) == 0)) && (sameL ((((flushD ⟨o, a, c⟩).getD (((flushD ⟨o, a, c⟩).length) - 1) default)).attrs) l)) (fun h3 => ?_) (fun h3 => ?_)
  ·
   (try simp only [decide_eq_true_eq, decide_eq_false_iff_not, Int.not_lt, Int.not_le, ge_iff_le, Bool.and_eq_true, Bool.and_eq_false_iff, Bool.not_eq_true', Bool.not_eq_false', beq_iff_eq, beq_eq_false_iff_ne, ne_eq] at h3)
   have e1 : ((keepD (flushD ⟨o, a, c⟩) n l).length : Nat) = (flushD ⟨o, a, c⟩).length := by
    unfold keepD; ((repeat' split) <;> first | rfl | omega | (simp_all; done) | (simp_all; omega))
   have e2 : ((keepD (flushD ⟨o, a, c⟩) n l) : List DStep) = ((flushD ⟨o, a, c⟩).set (((flushD ⟨o, a, c⟩).length) - 1) ({ kind := (((flushD ⟨o, a, c⟩).getD (((flushD ⟨o, a, c⟩).length) - 1) default)).kind, n := (((((flushD ⟨o, a, c⟩).getD (((flushD ⟨o, a, c⟩).length) - 1) default)).n) + n), attrs := (((flushD ⟨o, a, c⟩).getD (((flushD ⟨o, a, c⟩).length) - 1) default)).attrs, elems := (((flushD ⟨o, a, c⟩).getD (((flushD ⟨o, a, c⟩).length) - 1) default)).elems } : DStep)) := by
    unfold keepD; ((repeat' split) <;> first | rfl | omega | (simp_all; done) | (simp_all; omega))
   exact .finE [.r [(5, X (Xp' dstepT 1 (flushD ⟨o, a, c⟩) (((flushD ⟨o, a, c⟩).length : Int) - 1) (((flushD ⟨o, a, c⟩).length) - 1))), (7, X (Xe dstepT (flushD ⟨o, a, c⟩) (((flushD ⟨o, a, c⟩).length) - 1))), (9, X (Xn (((((flushD ⟨o, a, c⟩).getD (((flushD ⟨o, a, c⟩).length) - 1) default)).n) + n))), (10, X (Xp' dstepT 1 (flushD ⟨o, a, c⟩) (((flushD ⟨o, a, c⟩).length : Int) - 1) (((flushD ⟨o, a, c⟩).length) - 1))), (12, X (Xs 4 dstepT 1 (flushD ⟨o, a, c⟩) (((flushD ⟨o, a, c⟩).length) - 1) ({ kind := (((flushD ⟨o, a, c⟩).getD (((flushD ⟨o, a, c⟩).length) - 1) default)).kind, n := (((((flushD ⟨o, a, c⟩).getD (((flushD ⟨o, a, c⟩).length) - 1) default)).n) + n), attrs := (((flushD ⟨o, a, c⟩).getD (((flushD ⟨o, a, c⟩).length) - 1) default)).attrs, elems := (((flushD ⟨o, a, c⟩).getD (((flushD ⟨o, a, c⟩).length) - 1) default)).elems } : DStep)))]] [(0, 0), (1, 1), (2, 2), (27, 3)] (fun (z0, z1) => (.tup [], [(0, .box [.row 1 z0, .row 3 0, VI 0]), (1, OR 4 dstepT z1), (2, OF 3 elemT a), (3, OR 3 elemT [])])) (((flushD ⟨o, a, c⟩).length : Nat), (((flushD ⟨o, a, c⟩).set (((flushD ⟨o, a, c⟩).length) - 1) ({ kind := (((flushD ⟨o, a, c⟩).getD (((flushD ⟨o, a, c⟩).length) - 1) default)).kind, n := (((((flushD ⟨o, a, c⟩).getD (((flushD ⟨o, a, c⟩).length) - 1) default)).n) + n), attrs := (((flushD ⟨o, a, c⟩).getD (((flushD ⟨o, a, c⟩).length) - 1) default)).attrs, elems := (((flushD ⟨o, a, c⟩).getD (((flushD ⟨o, a, c⟩).length) - 1) default)).elems } : DStep)) : List DStep)) (((keepD (flushD ⟨o, a, c⟩) n l).length : Nat), ((keepD (flushD ⟨o, a, c⟩) n l) : List DStep)) (pr e1 e2)
  ·
   (try simp only [decide_eq_true_eq, decide_eq_false_iff_not, Int.not_lt, Int.not_le, ge_iff_le, Bool.and_eq_true, Bool.and_eq_false_iff, Bool.not_eq_true', Bool.not_eq_false', beq_iff_eq, beq_eq_false_iff_ne, ne_eq] at h3)
   have e3 : ((keepD (flushD ⟨o, a, c⟩) n l).length : Nat) = ((flushD ⟨o, a, c⟩) ++ [({ kind := 0, n := n, attrs := l, elems := [] } : DStep)]).length := by
    unfold keepD; ((repeat' split) <;> first | rfl | omega | (simp_all; done) | (simp_all; omega))
   have e4 : ((keepD (flushD ⟨o, a, c⟩) n l) : List DStep) = ((flushD ⟨o, a, c⟩) ++ [({ kind := 0, n := n, attrs := l, elems := [] } : DStep)]) := by
    unfold keepD; ((repeat' split) <;> first | rfl | omega | (simp_all; done) | (simp_all; omega))
   exact .finE [.r [(7, X (Xan attrT 347 l)), (8, X (Xf [(3, 3)])), (9, X (rowC attrT l X0)), (10, X (rowC dstepT [({ kind := 0, n := n, attrs := l, elems := [] } : DStep)] (Xap 4 dstepT 1 (flushD ⟨o, a, c⟩) [({ kind := 0, n := n, attrs := l, elems := [] } : DStep)])))]] [(0, 0), (1, 1), (2, 2), (27, 3)] (fun (z0, z1) => (.tup [], [(0, .box [.row 1 z0, .row 3 0, VI 0]), (1, OR 4 dstepT z1), (2, OF 3 elemT a), (3, OR 3 elemT [])])) ((((flushD ⟨o, a, c⟩) ++ [({ kind := 0, n := n, attrs := l, elems := [] } : DStep)]).length : Nat), (((flushD ⟨o, a, c⟩) ++ [({ kind := 0, n := n, attrs := l, elems := [] } : DStep)]) : List DStep)) (((keepD (flushD ⟨o, a, c⟩) n l).length : Nat), ((keepD (flushD ⟨o, a, c⟩) n l) : List DStep)) (pr e3 e4)

theorem fc_dDone (o : List DStep) (a : List Elem) (c : Int) (ho : o.length ≤ 100000000000) (hc : checkD (flushD ⟨o, a, c⟩) = 0) (hd : DN 400000000000 (flushD ⟨o, a, c⟩)) : FC Try.prog 105 [.ptr 0 0] (app emp [(0, .box [.row 1 o.length, .row 2 a.length, VI c]), (1, OR 4 dstepT o), (2, OR 3 elemT a)]) (.tup [.row 1 ((flushD ⟨o, a, c⟩).length), VI 0]) (app emp [(0, .box [.row 1 ((flushD ⟨o, a, c⟩).length), .row 3 0, VI 0]), (1, OR 4 dstepT (flushD ⟨o, a, c⟩)), (2, OF 3 elemT a), (3, OR 3 elemT [])]) := by
 refine .go Try.f105 ?_
 refine .br [.r [], .r [(1, X (Xc3 27 [(0, 0), (1, 1), (2, 2)] (fc_dFlush o a c (by omega)) X0))], .r [(4, X (Xc0 (fc_dCheck (flushD ⟨o, a, c⟩) (by assumption)) (rowC dstepT (flushD ⟨o, a, c⟩) X0)))]] ((checkD (flushD ⟨o, a, c⟩)) != 0) (fun h2 => ?_) (fun h2 => ?_)
 ·
  (try simp only [bne_iff_ne, bne_eq_false_iff_eq, ne_eq] at h2)
  exfalso
  omega
 ·
  (try simp only [bne_iff_ne, bne_eq_false_iff_eq, ne_eq] at h2)
  exact .fin [.r []] [(0, 0), (1, 1), (2, 2), (27, 3)]
end Go.Ch
end
section
set_option linter.unusedVariables false
set_option linter.unusedSimpArgs false
namespace Go.Ch
open Go Go.Ab

def putU (w : DWr) : DU → DWr
  | .K c => ⟨keepD (flushD w) 1 c, [], 0⟩
  | .A e => ⟨w.out, w.add ++ [e], w.cut⟩
  | .C => ⟨w.out, w.add, w.cut + 1⟩
def foldD (w : DWr) : List DU → DWr
  | [] => w
  | u :: us => foldD (putU w u) us
theorem foldD_As (e : List Elem) (us : List DU) : ∀ w : DWr, foldD w (e.map .A ++ us) = foldD ⟨w.out, w.add ++ e, w.cut⟩ us := by
  induction e with
  | nil => intro w; simp
  | cons x e ih => intro w; simp only [List.map_cons, List.cons_append, foldD, putU]; rw [ih]; simp
theorem foldD_Cs (n : Nat) (us : List DU) : ∀ w : DWr, foldD w (List.replicate n .C ++ us) = foldD ⟨w.out, w.add, w.cut + n⟩ us := by
  induction n with
  | zero => intro w; simp
  | succ n ih => intro w; simp only [List.replicate_succ, List.cons_append, foldD, putU]; rw [ih]; simp only; rw [show w.cut + 1 + (n : Int) = w.cut + ((n + 1 : Nat) : Int) by omega]
theorem flushD_nil (l : List DStep) : flushD ⟨l, [], 0⟩ = l := by simp [flushD]
theorem keepD_keepD {l : List DStep} {m n : Int} {c : List Attr} : keepD (keepD l m c) n c = keepD l (m + n) c := by
  unfold keepD
  by_cases h : 0 < l.length ∧ (l.getD (l.length - 1) default).kind = 0 ∧ sameL (l.getD (l.length - 1) default).attrs c = true
  · rw [if_pos h, if_pos h, setD h.1, setD h.1]
    generalize l.getD (l.length - 1) default = x at *
    have e : ∀ y : DStep, (List.take (l.length - 1) l ++ [y]).getD ((List.take (l.length - 1) l ++ [y]).length - 1) default = y := fun y => by simp
    rw [e, if_pos ⟨by simp, h.2.1, h.2.2⟩, setD (by simp)]
    have t : ∀ y : DStep, (List.take (l.length - 1) l ++ [y]).take ((List.take (l.length - 1) l ++ [y]).length - 1) = List.take (l.length - 1) l := fun y => by simp
    rw [t, Int.add_assoc]
  · rw [if_neg h, if_neg h]
    have e : ∀ y : DStep, (l ++ [y]).getD ((l ++ [y]).length - 1) default = y := fun y => by simp
    rw [e, if_pos ⟨by simp, rfl, sameL_self c⟩, setD (by simp)]
    simp
theorem foldD_Ks (c : List Attr) (us : List DU) : ∀ (n : Nat) (w : DWr), foldD w (List.replicate (n + 1) (.K c) ++ us) = foldD ⟨keepD (flushD w) ((n + 1 : Nat) : Int) c, [], 0⟩ us
  | 0, w => by simp [foldD, putU]
  | n + 1, w => by
    rw [List.replicate_succ, List.cons_append, foldD, foldD_Ks c us n]
    simp only [putU]
    rw [flushD_nil, keepD_keepD, show (1 : Int) + ((n + 1 : Nat) : Int) = ((n + 1 + 1 : Nat) : Int) by omega]
def UnitOk : DU → Prop
  | .K c => VG true c ∧ c.length ≤ 400000000000
  | .A e => elemE e = 0 ∧ e.attrs.length ≤ 400000000000
  | .C => True
/-- Bounds of what the writer holds. -/
structure WBd (w : DWr) : Prop where
  out : DN 400000000000 w.out
  add : AN 400000000000 w.add
theorem WBd.flush {w : DWr} (h : WBd w) (hl : w.add.length ≤ 400000000000) : DN 400000000000 (flushD w) := by
  intro s hs
  unfold flushD at hs
  simp only [List.mem_append] at hs
  rcases hs with (hs | hs) | hs
  · exact h.out s hs
  · split at hs
    · rw [List.mem_singleton] at hs; subst hs; exact ⟨hl, by simp, h.add⟩
    · cases hs
  · split at hs
    · rw [List.mem_singleton] at hs; subst hs; exact ⟨by simp, by simp, fun x hx => by cases hx⟩
    · cases hs
theorem WBd.keep {w : DWr} {n : Int} {c : List Attr} (h : WBd w) (hl : w.add.length ≤ 400000000000) (hc : c.length ≤ 400000000000) : WBd ⟨keepD (flushD w) n c, [], 0⟩ := by
  have hf := h.flush hl
  refine ⟨fun s hs => ?_, fun x hx => by cases hx⟩
  simp only at hs
  unfold keepD at hs
  split at hs
  · rename_i q
    rw [setD q.1, List.mem_append] at hs
    rcases hs with hs | hs
    · exact hf s (List.mem_of_mem_take hs)
    · rw [List.mem_singleton] at hs; subst hs
      have := hf _ (lastD_mem q.1)
      exact this
  · rw [List.mem_append] at hs
    rcases hs with hs | hs
    · exact hf s hs
    · rw [List.mem_singleton] at hs; subst hs; exact ⟨by simp, hc, fun x hx => by cases hx⟩
theorem exS_len {s : DStep} (h : DOkW s) : 1 ≤ (exS s).length ∧ (s.kind ≠ 1 → s.n ≤ (exS s).length) ∧ 0 ≤ s.n ∧ (s.kind = 1 → s.n = 0) := by
  unfold exS
  rcases h with ⟨k, n, a, e, _⟩ | ⟨k, _, _, n1, _⟩
  · rw [if_pos k, List.length_map]
    have : 0 < s.elems.length := List.length_pos_iff.2 e
    exact ⟨this, fun q => absurd k q, by omega, fun _ => n⟩
  · have k1 : ¬ s.kind = 1 := by omega
    rw [if_neg k1]
    refine ⟨?_, fun _ => ?_, by omega, fun q => absurd q k1⟩ <;> split <;> simp <;> omega
theorem exD_len : ∀ {l : List DStep}, (∀ s ∈ l, DOkW s) → l.length ≤ (exD l).length ∧ ∀ s ∈ l, 0 ≤ s.n ∧ s.n ≤ ((exD l).length : Int)
  | [], _ => ⟨Nat.le_refl _, fun s hs => by cases hs⟩
  | s :: l, h => by
    have h1 := exS_len (h s (by simp))
    have h2 := exD_len (l := l) (fun t ht => h t (by simp [ht]))
    simp only [exD, List.length_append, List.length_cons]
    refine ⟨by omega, fun t ht => ?_⟩
    rcases List.mem_cons.1 ht with rfl | ht
    · refine ⟨h1.2.2.1, ?_⟩
      by_cases k : t.kind = 1
      · have := h1.2.2.2 k; omega
      · have := h1.2.1 k; omega
    · have := h2.2 t ht; omega
/-- The writer, what it is still to be fed, how much that is in all, and where it ends. -/
structure DI (w : DWr) (us : List DU) (T : Nat) (G : DWr) : Prop where
  good : GoodD w
  wb : WBd w
  units : ∀ u ∈ us, UnitOk u
  len : (exDW w).length + us.length = T
  small : T ≤ 8589934592
  eq : foldD w us = G
variable {w G : DWr} {us : List DU} {T : Nat}
theorem DI.bd (h : DI w us T G) : w.out.length ≤ T ∧ w.add.length ≤ T ∧ 0 ≤ w.cut ∧ w.cut ≤ T ∧ us.length ≤ T ∧ T ≤ 8589934592 ∧ w.add.length + us.length ≤ T ∧ w.cut + us.length ≤ T := by
  have h1 := (exD_len h.good.ok).1
  have h2 := h.good.cut
  have h3 := h.len
  have h4 := h.small
  unfold exDW at h3
  simp only [List.length_append, List.length_replicate, List.length_map] at h3
  omega
theorem DI.fl (h : DI w us T G) : (∀ s ∈ flushD w, 0 ≤ s.n ∧ s.n ≤ 10000000000) ∧ DN 400000000000 (flushD w) := by
  have hb := h.bd
  refine ⟨fun s hs => ?_, h.wb.flush (by omega)⟩
  have h1 := (exD_len (flushD_ok h.good).1).2 s hs
  rw [flushD_ex h.good] at h1
  have h3 := h.len
  omega
theorem DI.keep {n : Nat} {c : List Attr} (h : DI w (List.replicate (n + 1) (.K c) ++ us) T G) : DI ⟨keepD (flushD w) ((n + 1 : Nat) : Int) c, [], 0⟩ us T G := by
  have hu := h.units (.K c) (by rw [List.replicate_succ]; simp)
  have hb := h.bd
  obtain ⟨g1, g2⟩ := h.good.keep (n := ((n + 1 : Nat) : Int)) (by omega) hu.1
  refine ⟨g1, h.wb.keep (by omega) hu.2, fun u hu => h.units u (by simp [hu]), ?_, h.small, ?_⟩
  · have h3 := h.len
    rw [g2]
    simp only [List.length_append, List.length_replicate] at h3 ⊢
    omega
  · rw [← h.eq, foldD_Ks]
theorem dsw_len {u v : List DU} (h : DSw u v) : u.length = v.length := by
  induction h with
  | refl u => rfl
  | cons x _ ih => simp [ih]
  | swap e u => rfl
  | symm _ ih => exact ih.symm
  | trans _ _ a b => exact a.trans b
theorem DI.elems {e : List Elem} (h : DI w (e.map .A ++ us) T G) : DI ⟨w.out, w.add ++ e, w.cut⟩ us T G := by
  have hu : ∀ x ∈ e, UnitOk (.A x) := fun x hx => h.units (.A x) (by simp [hx])
  obtain ⟨g1, g2⟩ := h.good.elems (e := e) (fun x hx => (hu x hx).1)
  refine ⟨g1, ⟨h.wb.out, fun x hx => ?_⟩, fun u hu => h.units u (by simp [hu]), ?_, h.small, ?_⟩
  · rcases List.mem_append.1 hx with hx | hx
    · exact h.wb.add x hx
    · exact (hu x hx).2
  · have h3 := h.len
    rw [dsw_len g2]
    simp only [List.length_append, List.length_map] at h3 ⊢
    omega
  · rw [← h.eq, foldD_As]
theorem DI.cuts {n : Nat} (h : DI w (List.replicate n .C ++ us) T G) : DI ⟨w.out, w.add, w.cut + n⟩ us T G := by
  obtain ⟨g1, g2⟩ := h.good.cuts (n := (n : Int)) (by omega)
  refine ⟨g1, ⟨h.wb.out, h.wb.add⟩, fun u hu => h.units u (by simp [hu]), ?_, h.small, ?_⟩
  · have h3 := h.len
    rw [g2]
    simp only [List.length_append, List.length_replicate] at h3 ⊢
    omega
  · rw [← h.eq, foldD_Cs]
theorem DI.done (h : DI w [] T G) : w = G := h.eq
def doneD (us : List DU) : List DStep := flushD (foldD ⟨[], [], 0⟩ us)
theorem DI.start (h : ∀ u ∈ us, UnitOk u) (hs : us.length ≤ 8589934592) : DI ⟨[], [], 0⟩ us us.length (foldD ⟨[], [], 0⟩ us) :=
  ⟨goodD0, ⟨fun s h => (by cases h), fun x h => (by cases h)⟩, h, by simp [exDW, exD], hs, rfl⟩
theorem foldD_ok : ∀ (us : List DU) (w : DWr), GoodD w → (∀ u ∈ us, UnitOk u) → GoodD (foldD w us) ∧ DSw (exDW (foldD w us)) (exDW w ++ us)
  | [], w, h, _ => ⟨h, by simp only [foldD, List.append_nil]; exact .refl _⟩
  | u :: us, w, h, hu => by
    have h0 := hu u (by simp)
    have hp : GoodD (putU w u) ∧ DSw (exDW (putU w u)) (exDW w ++ [u]) := by
      cases u with
      | K c =>
        obtain ⟨g1, g2⟩ := h.keep (n := 1) (by decide) h0.1
        exact ⟨g1, by simp only [putU]; rw [g2]; exact .refl _⟩
      | A e =>
        obtain ⟨g1, g2⟩ := h.elems (e := [e]) (fun x hx => by rw [List.mem_singleton] at hx; subst hx; exact h0.1)
        exact ⟨g1, g2⟩
      | C =>
        obtain ⟨g1, g2⟩ := h.cuts (n := 1) (by decide)
        exact ⟨g1, by simp only [putU]; rw [g2]; exact .refl _⟩
    obtain ⟨q1, q2⟩ := foldD_ok us (putU w u) hp.1 (fun v hv => hu v (by simp [hv]))
    refine ⟨q1, .trans q2 ?_⟩
    have := hp.2.right us
    simpa using this
theorem doneD_ok (h : ∀ u ∈ us, UnitOk u) (h1 : oldN us ≤ 2147483647) (h2 : newN us ≤ 2147483647) :
    DValid (doneD us) ∧ DSw (exD (doneD us)) us ∧ oldD (doneD us) = oldN us ∧ newD (doneD us) = newN us := by
  obtain ⟨q1, q2⟩ := foldD_ok us ⟨[], [], 0⟩ goodD0 h
  exact q1.valid (by simpa [exDW, exD] using q2) h1 h2
end Go.Ch
end
section
set_option linter.unusedVariables false
set_option linter.unusedSimpArgs false
namespace Go.Ch
open Go Go.Ab

theorem fm_len' (g : Attr → Attr → Option Attr) (a b : List Attr) : (fm g a b).length ≤ a.length + b.length := by
  unfold fm
  exact Nat.le_trans (List.length_filterMap_le _ _) (bothL_len a b)
def bk (c : List Attr) (x : Elem) : List Attr := fm chgG (fm rawG x.attrs c) x.attrs
def KOk (us : List DU) : Prop := (∀ c, DU.K c ∈ us → VG true c ∧ c.length ≤ 100000000000) ∧ (∀ e, DU.A e ∈ us → elemE e = 0 ∧ e.attrs.length ≤ 100000000000)
def EOk (r : List Elem) : Prop := ∀ x ∈ r, elemE x = 0 ∧ x.attrs.length ≤ 100000000000
theorem KOk.tail {u : DU} {us : List DU} (h : KOk (u :: us)) : KOk us := ⟨fun c hc => h.1 c (by simp [hc]), fun e he => h.2 e (by simp [he])⟩
theorem EOk.tail {x : Elem} {r : List Elem} (h : EOk (x :: r)) : EOk r := fun y hy => h y (by simp [hy])
def undoD (f : List Elem) (l : List DStep) : List DStep := doneD (undoU (exD l) f)
variable {w G : DWr} {us : List DU} {T : Nat}
theorem DI.run {g : Elem → List Attr} {t : List Elem} {j : Nat} (hj : j < t.length) (h : DI w ((t.drop j).map (fun x => DU.K (g x)) ++ us) T G) :
    UnitOk (.K (g (t.getD j default))) ∧ DI ⟨keepD (flushD w) 1 (g (t.getD j default)), [], 0⟩ ((t.drop (j + 1)).map (fun x => DU.K (g x)) ++ us) T G := by
  rw [dropD hj, List.map_cons, List.cons_append] at h
  exact ⟨h.units _ (by simp), h.keep (n := 0)⟩
theorem DN.mono {m n : Nat} {l : List DStep} (h : DN m l) (hm : m ≤ n) : DN n l := fun s hs => ⟨Nat.le_trans (h s hs).1 hm, Nat.le_trans (h s hs).2.1 hm, fun x hx => Nat.le_trans ((h s hs).2.2 x hx) hm⟩
theorem EOk.an {f : List Elem} (h : EOk f) : AN 400000000000 f := fun x hx => by have := (h x hx).2; omega
theorem EOk.take {f : List Elem} (h : EOk f) (n : Nat) : EOk (f.take n) := fun x hx => h x (List.mem_of_mem_take hx)
theorem EOk.drop {f : List Elem} (h : EOk f) (n : Nat) : EOk (f.drop n) := fun x hx => h x (List.mem_of_mem_drop hx)
end Go.Ch
end
section
set_option linter.unusedVariables false
set_option linter.unusedSimpArgs false
set_option maxRecDepth 100000
set_option maxHeartbeats 4000000
open Go Go.Proofs Go.Ab
namespace Go.Ch
end Go.Ch
end
section
set_option linter.unusedVariables false
set_option linter.unusedSimpArgs false
namespace Go.Ch
open Go Go.Ab

def elemsT (l : List Elem) : Tree := .lst 3 (l.map elemT)
def boolT (b : Bool) : Tree := .sc (.bool b)
def attrsT (l : List Attr) : Tree := .lst 2 (l.map attrT)
structure Act where
  ins : List (List Elem)
  cut : List Bool
  set : List (List Attr)
def actT (x : Act) : Tree := .agg [.lst 1 (x.ins.map elemsT), .lst 1 (x.cut.map boolT), .lst 1 (x.set.map attrsT)]
/-- What is left from place i on, as units. -/
def actR (x : Act) (i : Nat) : List DU :=
  if i < x.cut.length then (x.ins.getD i default).map .A ++ ((if x.cut.getD i default = true then .C else .K (x.set.getD i default)) :: actR x (i + 1))
  else (x.ins.getD i default).map .A
termination_by x.cut.length - i
def tailR (x : Act) (i : Nat) : List DU := if i < x.cut.length then (if x.cut.getD i default = true then .C else .K (x.set.getD i default)) :: actR x (i + 1) else []
variable {w G : DWr} {us : List DU} {T : Nat}
theorem DI.keep1 {c : List Attr} (h : DI w (.K c :: us) T G) : DI ⟨keepD (flushD w) 1 c, [], 0⟩ us T G := DI.keep (n := 0) h
theorem DI.cut1 (h : DI w (.C :: us) T G) : DI ⟨w.out, w.add, w.cut + 1⟩ us T G := DI.cuts (n := 1) h
theorem DI.of_eq {o o' : List DStep} {a : List Elem} {c : Int} (e : o' = o) (h : DI ⟨o, a, c⟩ us T G) : DI ⟨o', a, c⟩ us T G := e ▸ h
end Go.Ch
end
section
set_option linter.unusedVariables false
set_option linter.unusedSimpArgs false
set_option maxRecDepth 100000
set_option maxHeartbeats 4000000
open Go Go.Proofs Go.Ab
namespace Go.Ch
end Go.Ch
end
section
set_option linter.unusedVariables false
set_option linter.unusedSimpArgs false
namespace Go.Ch
open Go Go.Ab

inductive U where
  | K
  | A
  | C
/-- Adds and cuts at one gap may be exchanged. -/
inductive Sw : List U → List U → Prop
  | refl (u : List U) : Sw u u
  | cons (x : U) {u v : List U} (h : Sw u v) : Sw (x :: u) (x :: v)
  | swap (u : List U) : Sw (.A :: .C :: u) (.C :: .A :: u)
  | symm {u v : List U} (h : Sw u v) : Sw v u
  | trans {u v w : List U} (h : Sw u v) (k : Sw v w) : Sw u w
theorem Sw.of_eq {u v : List U} (h : u = v) : Sw u v := h ▸ .refl u
theorem Sw.left (w : List U) {u v : List U} (h : Sw u v) : Sw (w ++ u) (w ++ v) := by
  induction w with
  | nil => exact h
  | cons x w ih => exact .cons x ih
theorem Sw.right (w : List U) {u v : List U} (h : Sw u v) : Sw (u ++ w) (v ++ w) := by
  induction h with
  | refl u => exact .refl _
  | cons x _ ih => exact .cons x ih
  | swap u => exact .swap _
  | symm _ ih => exact .symm ih
  | trans _ _ a b => exact .trans a b
abbrev rep (n : Nat) (x : U) : List U := List.replicate n x
def bumpA : List (Nat × Nat) → List (Nat × Nat)
  | [] => []
  | (a, c) :: r => (a + 1, c) :: r
def bumpC : List (Nat × Nat) → List (Nat × Nat)
  | [] => []
  | (a, c) :: r => (a, c + 1) :: r
def beta : List U → List (Nat × Nat)
  | [] => [(0, 0)]
  | .K :: u => (0, 0) :: beta u
  | .A :: u => bumpA (beta u)
  | .C :: u => bumpC (beta u)
def unb : List (Nat × Nat) → List U
  | [] => []
  | [(a, c)] => rep a .A ++ rep c .C
  | (a, c) :: s :: r => rep a .A ++ (rep c .C ++ .K :: unb (s :: r))
/-! ### Joining -/
def joinU : List U → List U → List U
  | .C :: p, q => .C :: joinU p q
  | [], q => q
  | .K :: p, [] => .K :: joinU p []
  | .A :: p, [] => .A :: joinU p []
  | .K :: p, .A :: q => .A :: joinU (.K :: p) q
  | .A :: p, .A :: q => .A :: joinU (.A :: p) q
  | .K :: p, .K :: q => .K :: joinU p q
  | .K :: p, .C :: q => .C :: joinU p q
  | .A :: p, .K :: q => .A :: joinU p q
  | .A :: p, .C :: q => joinU p q
termination_by p q => p.length + q.length
def oldU : List U → Nat
  | [] => 0
  | .A :: u => oldU u
  | .K :: u => oldU u + 1
  | .C :: u => oldU u + 1
def newU : List U → Nat
  | [] => 0
  | .C :: u => newU u
  | .K :: u => newU u + 1
  | .A :: u => newU u + 1
/-! ### Rebasing -/
def pairU : List U → List U → List U × List U
  | .A :: p, q => (.A :: (pairU p q).1, .K :: (pairU p q).2)
  | p, .A :: q => (.K :: (pairU p q).1, .A :: (pairU p q).2)
  | .K :: p, .K :: q => (.K :: (pairU p q).1, .K :: (pairU p q).2)
  | .K :: p, .C :: q => ((pairU p q).1, .C :: (pairU p q).2)
  | .C :: p, .K :: q => (.C :: (pairU p q).1, (pairU p q).2)
  | .C :: p, .C :: q => pairU p q
  | _, _ => ([], [])
termination_by p q => p.length + q.length
end Go.Ch
end
section
set_option linter.unusedVariables false
set_option linter.unusedSimpArgs false
namespace Go.Ch
open Go Go.Ab

structure AxStep where
  kind : Int
  n : Int
instance : Inhabited AxStep := ⟨⟨0, 0⟩⟩
def stepT (s : AxStep) : Tree := .agg [.sc (.int .i64 s.kind), .sc (.int .i64 s.n)]
def uOf (k : Int) : U := if k = 1 then .A else if k = 2 then .C else .K
def ex : List AxStep → List U
  | [] => []
  | s :: l => rep s.n.toNat (uOf s.kind) ++ ex l
def Ok1 (s : AxStep) : Prop := 0 ≤ s.kind ∧ s.kind ≤ 2 ∧ 1 ≤ s.n
def Nx (s t : AxStep) : Prop := s.kind ≠ t.kind ∧ ¬ (s.kind = 2 ∧ t.kind = 1)
def Form : List AxStep → Prop
  | [] => True
  | [s] => Ok1 s
  | s :: t :: l => Ok1 s ∧ Nx s t ∧ Form (t :: l)
theorem Form.head {s : AxStep} {l : List AxStep} (h : Form (s :: l)) : Ok1 s := by
  cases l with
  | nil => exact h
  | cons t l => exact h.1
theorem Form.tail {s : AxStep} {l : List AxStep} (h : Form (s :: l)) : Form l := by
  cases l with
  | nil => trivial
  | cons t l => exact h.2.2
theorem Form.all : ∀ {l : List AxStep}, Form l → ∀ s ∈ l, Ok1 s
  | [], _, s, h => by cases h
  | t :: l, h, s, hs => by
    rcases List.mem_cons.1 hs with rfl | hs
    · exact h.head
    · exact h.tail.all s hs
theorem rep_add (m n : Nat) (x : U) : rep (m + n) x = rep m x ++ rep n x := List.replicate_append_replicate.symm
/-! ### One form for each effect -/
def opt1 (k : Int) (n : Nat) : List AxStep := if n = 0 then [] else [⟨k, n⟩]
def rend (k : Nat) : List (Nat × Nat) → List AxStep
  | [] => opt1 0 k
  | (a, c) :: r => if a = 0 ∧ c = 0 then (if r = [] then opt1 0 k else rend (k + 1) r) else opt1 0 k ++ opt1 1 a ++ opt1 2 c ++ (if r = [] then [] else rend 1 r)
/-! ### The writer -/
structure Wr where
  out : List AxStep
  add : Int
  cut : Int
def flushW (w : Wr) : List AxStep := w.out ++ (if 0 < w.add then [⟨1, w.add⟩] else []) ++ (if 0 < w.cut then [⟨2, w.cut⟩] else [])
def keepW (l : List AxStep) (n : Int) : List AxStep :=
  if 0 < l.length ∧ (l.getD (l.length - 1) default).kind = 0 then l.set (l.length - 1) ⟨(l.getD (l.length - 1) default).kind, (l.getD (l.length - 1) default).n + n⟩ else l ++ [⟨0, n⟩]
def putW (w : Wr) (k n : Int) : Wr :=
  if n = 0 then w else if k = 1 then ⟨w.out, w.add + n, w.cut⟩ else if k = 2 then ⟨w.out, w.add, w.cut + n⟩ else ⟨keepW (flushW w) n, 0, 0⟩
def exW (w : Wr) : List U := ex w.out ++ (rep w.add.toNat .A ++ rep w.cut.toNat .C)
structure GoodW (w : Wr) : Prop where
  form : Form w.out
  last : ∀ t, w.out.getLast? = some t → t.kind = 0
  add : 0 ≤ w.add
  cut : 0 ≤ w.cut
/-- Puts one unit after the other. -/
def kOf : U → Int
  | .K => 0
  | .A => 1
  | .C => 2
def foldW (w : Wr) : List U → Wr
  | [] => w
  | u :: us => foldW (putW w (kOf u) 1) us
def doneW (us : List U) : List AxStep := flushW (foldW ⟨[], 0, 0⟩ us)
end Go.Ch
end
section
set_option linter.unusedVariables false
set_option linter.unusedSimpArgs false
namespace Go.Ch
open Go Go.Ab

/-! ### The check -/
def chkX (l : List AxStep) (i : Nat) (b a : Int) : Int :=
  if i < l.length then
    if (l.getD i default).kind < 0 ∨ 2 < (l.getD i default).kind then 8
    else if (l.getD i default).n < 1 ∨ 2147483647 < (l.getD i default).n then 2
    else if 0 < i ∧ ((l.getD (i - 1) default).kind = (l.getD i default).kind ∨ ((l.getD (i - 1) default).kind = 2 ∧ (l.getD i default).kind = 1)) then 5
    else chkX l (i + 1) (if (l.getD i default).kind ≠ 1 then min (b + (l.getD i default).n) 2147483648 else b) (if (l.getD i default).kind ≠ 2 then min (a + (l.getD i default).n) 2147483648 else a)
  else if 2147483647 < b ∨ 2147483647 < a then 3 else 0
termination_by l.length - i
def checkX (l : List AxStep) : Int := chkX l 0 0 0
def FormAt (l : List AxStep) (i : Nat) : Prop := ∀ k, i ≤ k → k < l.length → Ok1 (l.getD k default) ∧ (0 < k → Nx (l.getD (k - 1) default) (l.getD k default))
theorem at_of_form : ∀ {l : List AxStep}, Form l → FormAt l 0
  | [], _ => fun k _ hk => by simp at hk
  | s :: l, h => by
    have ih := at_of_form h.tail
    intro k _ hk
    cases k with
    | zero => exact ⟨h.head, fun h => absurd h (by decide)⟩
    | succ k =>
      have := ih k (by omega) (by simpa using hk)
      refine ⟨by simpa using this.1, fun _ => ?_⟩
      cases k with
      | zero =>
        cases l with
        | nil => simp at hk
        | cons t l => exact h.2.1
      | succ k => simpa using this.2 (by omega)
def Valid (l : List AxStep) : Prop := Form l ∧ oldU (ex l) ≤ 2147483647 ∧ newU (ex l) ≤ 2147483647
/-! ### Readers -/
def ru (l : List AxStep) (u : Int) : List U := (ex l).drop u.toNat
structure GoodR (l : List AxStep) (u : Int) : Prop where
  form : Form l
  pos : 0 ≤ u
  nil : l.length = 0 → u = 0
  lt : 0 < l.length → u < (l.getD 0 default).n
theorem good_r {l : List AxStep} (h : Form l) : GoodR l 0 := ⟨h, Int.le_refl _, fun _ => rfl, fun h0 => by
  have := (at_of_form h) 0 (Nat.le_refl _) h0
  have := this.1.2.2
  omega⟩
theorem ru0 (l : List AxStep) : ru l 0 = ex l := rfl
theorem ru_cons {l : List AxStep} {u : Int} (h : GoodR l u) (h0 : 0 < l.length) :
    ru l u = rep ((l.getD 0 default).n - u).toNat (uOf (l.getD 0 default).kind) ++ ex (l.drop 1) := by
  have h1 := h.lt h0
  have h2 := h.pos
  cases l with
  | nil => simp at h0
  | cons s l =>
    simp only [List.getD_cons_zero] at h1 ⊢
    unfold ru
    rw [ex, List.drop_append_of_le_length (by simp; omega), List.drop_replicate]
    congr 2
    omega
theorem GoodR.ok {l : List AxStep} {u : Int} (h : GoodR l u) (h0 : 0 < l.length) : Ok1 (l.getD 0 default) := ((at_of_form h.form) 0 (Nat.le_refl _) h0).1
theorem GoodR.take {l : List AxStep} {u n : Int} (h : GoodR l u) (h0 : 0 < l.length) (hn : 0 ≤ n) (hl : n ≤ (l.getD 0 default).n - u) :
    (u + n = (l.getD 0 default).n → GoodR (l.drop 1) 0 ∧ rep n.toNat (uOf (l.getD 0 default).kind) ++ ru (l.drop 1) 0 = ru l u) ∧
    (u + n ≠ (l.getD 0 default).n → GoodR l (u + n) ∧ rep n.toNat (uOf (l.getD 0 default).kind) ++ ru l (u + n) = ru l u) := by
  have h1 := h.lt h0
  have h2 := h.pos
  constructor
  · intro e
    refine ⟨good_r ?_, ?_⟩
    · cases l with
      | nil => trivial
      | cons s l => exact h.form.tail
    · rw [ru_cons h h0, ru0]
      congr 2
      omega
  · intro e
    have g : GoodR l (u + n) := ⟨h.form, by omega, fun hh => by omega, fun _ => by omega⟩
    refine ⟨g, ?_⟩
    rw [ru_cons h h0, ru_cons g h0, ← List.append_assoc, ← rep_add]
    congr 2
    omega
/-! ### Run by run -/
/-- Nothing, or not a cut first. -/
def NoC : List U → Prop
  | .C :: _ => False
  | _ => True
def NoA : List U → Prop
  | .A :: _ => False
  | _ => True
end Go.Ch
end
section
set_option linter.unusedVariables false
set_option linter.unusedSimpArgs false
set_option maxRecDepth 100000
set_option maxHeartbeats 4000000
open Go Go.Proofs Go.Ab
namespace Go.Ch
def intT (z : Int) : Tree := .sc (.int .i64 z)
def withinI (x lo hi : Int) : Int := lo + ((x.tmod (hi - lo + 1)) + (hi - lo + 1)).tmod (hi - lo + 1)
def rollV (raw : List Int) (used n : Int) : Int := if raw.length = 0 then 0 else withinI (IntKind.i64.wrap (raw.getD ((used + 1 - 1) % (raw.length : Int)).toNat default + (used + 1) / (raw.length : Int))) 0 (n - 1)
def rollU (raw : List Int) (used : Int) : Int := if raw.length = 0 then used else used + 1
def segE (u : List Int) (i k : Nat) : Nat := if k < u.length ∧ (u.getD k default = 0 ↔ u.getD i default = 0) then segE u i (k + 1) else k
termination_by u.length - k
def cntX (u : List Int) (i k : Nat) (x : Int) : Nat := ((u.drop i).take (k - i)).countP (fun y => decide (y = x))
def o1 (k : Int) (n : Nat) : List AxStep := if 0 < n then [⟨k, (n : Int)⟩] else []
def o3 (a b c : Nat) : List AxStep := o1 0 a ++ (o1 1 b ++ o1 2 c)
theorem segE_ge (u : List Int) (i k : Nat) : k ≤ segE u i k := by
  induction k using segE.induct (u := u) (i := i) with
  | case1 k h ih => rw [segE, if_pos h]; omega
  | case2 k h => rw [segE, if_neg h]; omega
theorem segE_gt (u : List Int) (i : Nat) (h : i < u.length) : i < segE u i i := by
  rw [segE, if_pos ⟨h, Iff.rfl⟩]; exact segE_ge _ _ _
def stepsL (u : List Int) (i : Nat) (out : List AxStep) : List AxStep :=
  if h : i < u.length then stepsL u (segE u i i) (out ++ o3 (cntX u i (segE u i i) 0) (cntX u i (segE u i i) 1) (cntX u i (segE u i i) 2)) else out
termination_by u.length - i
decreasing_by have := segE_gt u i h; omega
end Go.Ch
end
section
set_option linter.unusedVariables false
set_option linter.unusedSimpArgs false
namespace Go.Ch
open Go Go.Ab

def onB : ByteArray := { data := #[111, 110] }
def boldB : ByteArray := { data := #[98, 111, 108, 100] }
def insE (tag : ByteArray) (i j : Nat) : Elem := ⟨65 + ((i : Int) + (j : Int)) % 26, 0, [⟨tag, { data := #[111, 110] }⟩]⟩
def insL (tag : ByteArray) (i k : Nat) : List Elem := (List.range k).map (insE tag i)
def setL (tag : ByteArray) (v : Int) : List Attr :=
  if v = 1 then [⟨{ data := #[98, 111, 108, 100] }, { data := #[111, 110] }⟩]
  else if v = 2 then [⟨{ data := #[98, 111, 108, 100] }, { data := #[] }⟩]
  else if v = 3 then [⟨{ data := #[98, 111, 108, 100] }, tag⟩, ⟨tag, { data := #[111, 110] }⟩] else []
def insK (raw : List Int) (used : Int) : Nat := (max 0 (rollV raw used 8 - 5)).toNat
def chgF (raw : List Int) (tag : ByteArray) (n : Nat) : Nat → Int → Act → Act
  | 0, used, x => ⟨x.ins ++ [insL tag n (insK raw used)], x.cut, x.set⟩
  | k + 1, used, x => chgF raw tag n k (rollU raw (rollU raw (rollU raw used)))
      ⟨x.ins ++ [insL tag (n - (k + 1)) (insK raw used)], x.cut ++ [rollV raw (rollU raw (rollU raw used)) 8 == 0], x.set ++ [setL tag (rollV raw (rollU raw used) 8)]⟩
def chgX (raw : List Int) (tag : ByteArray) (n : Nat) : Act := chgF raw tag n n 0 ⟨[], [], []⟩
def TagOk (tag : ByteArray) : Prop := (∀ v, VG true (setL tag v)) ∧ VG false [⟨tag, { data := #[111, 110] }⟩]
structure ActOk (x : Act) : Prop where
  ins : ∀ e ∈ x.ins, e.length ≤ 2 ∧ ∀ y ∈ e, elemE y = 0 ∧ y.attrs.length ≤ 100
  set : ∀ c ∈ x.set, VG true c ∧ c.length ≤ 100
def UnitS : DU → Prop
  | .K c => VG true c ∧ c.length ≤ 100
  | .A e => elemE e = 0 ∧ e.attrs.length ≤ 100
  | .C => True
theorem UnitS.ok {u : DU} (h : UnitS u) : UnitOk u := by
  cases u with
  | K c => exact ⟨h.1, by have := h.2; omega⟩
  | A e => exact ⟨h.1, by have := h.2; omega⟩
  | C => trivial
theorem getD_mem' {α : Type} [Inhabited α] {l : List α} {k : Nat} (h : k < l.length) : l.getD k default ∈ l := by
  rw [show l.getD k default = l[k] by simp [List.getD, List.getElem?_eq_getElem h]]
  exact List.getElem_mem h
end Go.Ch
end
section
set_option linter.unusedVariables false
set_option linter.unusedSimpArgs false
set_option maxRecDepth 100000
set_option maxHeartbeats 4000000
open Go Go.Proofs Go.Ab
namespace Go.Ch
end Go.Ch
end
section
set_option linter.unusedVariables false
set_option linter.unusedSimpArgs false
namespace Go.Ch
open Go Go.Ab

variable {w G : DWr} {us : List DU} {T : Nat}
theorem DI.all : ∀ {us : List DU} {w : DWr}, DI w us T G → DI G [] T G
  | [], w, h => by have := h.done; subst this; exact h
  | .K c :: us, w, h => DI.all h.keep1
  | .A e :: us, w, h => DI.all (DI.elems (e := [e]) h)
  | .C :: us, w, h => DI.all h.cut1
theorem an_take {m : Nat} {f : List Elem} (h : AN m f) (n : Nat) : AN m (f.take n) := fun x hx => h x (List.mem_of_mem_take hx)
theorem ltr_an (s : ByteArray) (n : Nat) : AN n (lettersL s) := fun x hx => by
  obtain ⟨i, _, rfl⟩ := List.mem_map.1 hx
  simp [ltr]
def probeD : List DStep := [⟨1, 0, [], lettersL { data := #[120] }⟩, ⟨2, 1, [], []⟩, ⟨0, 1, [], []⟩]
theorem probe_dn : DN 400000000000 probeD := by
  intro s hs
  simp only [probeD, List.mem_cons, List.not_mem_nil, or_false] at hs
  rcases hs with rfl | rfl | rfl
  · exact ⟨by simp [lettersL, ByteArray.size], by simp, ltr_an _ _⟩
  · exact ⟨by simp, by simp, fun x hx => by cases hx⟩
  · exact ⟨by simp, by simp, fun x hx => by cases hx⟩
theorem probe_facts : partE (lettersL { data := #[97, 98] }) 0 = 0 ∧ DValid probeD ∧ oldD probeD = ((lettersL { data := #[97, 98] }).length : Int) ∧ sameF (rawD (lettersL { data := #[97, 98] }) probeD) (lettersL { data := #[120, 98] }) = true :=
  ⟨by decide +kernel, checkD_iff.1 (by decide +kernel), by decide +kernel, by decide +kernel⟩
end Go.Ch
end
section
set_option linter.unusedVariables false
set_option linter.unusedSimpArgs false
namespace Go.Ch
open Go Go.Ab

def joinDU : List DU → List DU → List DU
  | .C :: p, q => .C :: joinDU p q
  | p, .A e :: q => .A e :: joinDU p q
  | .K c :: p, .K d :: q => .K (fm botG c d) :: joinDU p q
  | .K _ :: p, .C :: q => .C :: joinDU p q
  | .A e :: p, .K d :: q => .A (chgE d e) :: joinDU p q
  | .A _ :: p, .C :: q => joinDU p q
  | p, [] => p
  | [], _ => []
termination_by p q => p.length + q.length
end Go.Ch
end
section
set_option linter.unusedVariables false
set_option linter.unusedSimpArgs false
namespace Go.Ch
open Go Go.Ab

theorem raw_nil : ∀ l : List Attr, fm rawG l [] = l
  | [] => by simp [fm, bothL]
  | x :: l => by
    have ih := raw_nil l
    unfold fm at ih ⊢
    rw [bothL, fm_cons, ih]
    have : rawG x default = some x := by unfold rawG; rw [if_pos (show (default : Attr).name = mt from rfl)]
    rw [this]; rfl
def pairDU : List DU → List DU → List DU × List DU
  | .A e :: p, q => (.A e :: (pairDU p q).1, .K [] :: (pairDU p q).2)
  | [], .A e :: q => (.K [] :: (pairDU [] q).1, .A e :: (pairDU [] q).2)
  | .K c :: p, .A e :: q => (.K [] :: (pairDU (.K c :: p) q).1, .A e :: (pairDU (.K c :: p) q).2)
  | .C :: p, .A e :: q => (.K [] :: (pairDU (.C :: p) q).1, .A e :: (pairDU (.C :: p) q).2)
  | .K c :: p, .K d :: q => (.K (fm wioG c d) :: (pairDU p q).1, .K d :: (pairDU p q).2)
  | .K _ :: p, .C :: q => ((pairDU p q).1, .C :: (pairDU p q).2)
  | .C :: p, .K _ :: q => (.C :: (pairDU p q).1, (pairDU p q).2)
  | .C :: p, .C :: q => pairDU p q
  | _, [] => ([], [])
  | [], _ => ([], [])
termination_by p q => p.length + q.length
end Go.Ch
namespace Go.Ch
open Go Go.Ab
/-! ### Readers -/
def kindD (l : List DStep) : Int := if l.length = 0 then -1 else (l.getD 0 default).kind
end Go.Ch
end
section
set_option linter.unusedVariables false
set_option linter.unusedSimpArgs false
set_option maxRecDepth 100000
set_option maxHeartbeats 4000000
open Go Go.Proofs Go.Ab
namespace Go.Ch
end Go.Ch
end
section
set_option linter.unusedVariables false
set_option linter.unusedSimpArgs false
set_option maxRecDepth 100000
set_option maxHeartbeats 4000000
open Go Go.Proofs Go.Ab
namespace Go.Ch
def tkE (l : List DStep) (u n : Int) : DStep := if (l.getD 0 default).kind = 1 then ⟨(l.getD 0 default).kind, (l.getD 0 default).n, (l.getD 0 default).attrs, ((l.getD 0 default).elems.take (u + n).toNat).drop u.toNat⟩ else ⟨(l.getD 0 default).kind, n, (l.getD 0 default).attrs, (l.getD 0 default).elems⟩
def tkL (l : List DStep) (u n : Int) : List DStep := if u + n = szD (l.getD 0 default) then l.drop 1 else l
def tkN (l : List DStep) (u n : Int) : Int := if u + n = szD (l.getD 0 default) then 0 else u + n

end Go.Ch
end
section
set_option linter.unusedVariables false
set_option linter.unusedSimpArgs false
namespace Go.Ch
open Go Go.Ab

def ruD (l : List DStep) (u : Int) : List DU := (exD l).drop u.toNat
structure GoodRD (l : List DStep) (u : Int) : Prop where
  ok : ∀ s ∈ l, DOk s
  pos : 0 ≤ u
  lt : 0 < l.length → u < szD (l.getD 0 default)
  nil : l.length = 0 → u = 0
theorem exS_sz {s : DStep} (h : DOk s) : ((exS s).length : Int) = szD s := by
  unfold exS szD
  rcases h with ⟨k, _⟩ | ⟨k, _, _, n1, _⟩
  · rw [if_pos k, if_pos k, List.length_map]
  · have k1 : ¬ s.kind = 1 := by omega
    rw [if_neg k1, if_neg k1]
    split <;> rw [List.length_replicate] <;> omega
theorem ruD0 (l : List DStep) : ruD l 0 = exD l := rfl
theorem ruD_nil {l : List DStep} {u : Int} (h : l.length = 0) : ruD l u = [] := by
  rw [List.length_eq_zero_iff.1 h]; unfold ruD; simp [exD]
theorem tkE_split {l : List DStep} {u n : Int} (ho : DOk (l.getD 0 default)) (hu : 0 ≤ u) (hn : 0 ≤ n) (hl : u + n ≤ szD (l.getD 0 default)) :
    (exS (l.getD 0 default)).drop u.toNat = exS (tkE l u n) ++ (exS (l.getD 0 default)).drop (u + n).toNat := by
  unfold tkE
  generalize l.getD 0 default = s at *
  have hz : (u + n).toNat = u.toNat + n.toNat := by omega
  unfold szD at hl
  by_cases k1 : s.kind = 1
  · rw [if_pos k1] at hl ⊢
    unfold exS
    simp only [if_pos k1]
    rw [← List.map_drop, ← List.map_drop, ← List.map_append]
    congr 1
    conv => lhs; rw [← List.take_append_drop (u + n).toNat s.elems]
    rw [List.drop_append_of_le_length (by rw [List.length_take]; omega)]
  · rw [if_neg k1] at hl ⊢
    unfold exS
    simp only [if_neg k1]
    split
    · rw [List.drop_replicate, List.drop_replicate, List.replicate_append_replicate]; congr 1; omega
    · rw [List.drop_replicate, List.drop_replicate, List.replicate_append_replicate]; congr 1; omega
theorem tkD_ok {l : List DStep} {u n : Int} (h : GoodRD l u) (h0 : 0 < l.length) (hn : 0 ≤ n) (hl : u + n ≤ szD (l.getD 0 default)) :
    GoodRD (tkL l u n) (tkN l u n) ∧ ruD l u = exS (tkE l u n) ++ ruD (tkL l u n) (tkN l u n) := by
  have ho : DOk (l.getD 0 default) := h.ok _ (getD_mem' h0)
  have hz := exS_sz ho
  have hp := h.pos
  have hs := tkE_split ho hp hn hl
  have hd := dropD (l := l) (i := 0) h0
  rw [List.drop_zero] at hd
  have he : exD l = exS (l.getD 0 default) ++ exD (l.drop 1) := by conv => lhs; rw [hd, exD]
  have hlt := h.lt h0
  unfold tkL tkN
  by_cases e : u + n = szD (l.getD 0 default)
  · rw [if_pos e, if_pos e]
    refine ⟨⟨fun s hs => h.ok s (List.mem_of_mem_drop hs), Int.le_refl _, fun h1 => ?_, fun _ => rfl⟩, ?_⟩
    · have := stepD_sz (step_iff.2 (h.ok _ (List.mem_of_mem_drop (getD_mem' h1))))
      omega
    · rw [ruD0]
      unfold ruD
      rw [he, List.drop_append_of_le_length (by omega), hs, List.drop_eq_nil_of_le (show (exS (l.getD 0 default)).length ≤ (u + n).toNat by omega), List.append_nil]
  · rw [if_neg e, if_neg e]
    refine ⟨⟨h.ok, by omega, fun _ => by omega, fun h1 => by omega⟩, ?_⟩
    unfold ruD
    rw [he, List.drop_append_of_le_length (by omega), List.drop_append_of_le_length (by omega), hs, List.append_assoc]
end Go.Ch
end
section
set_option linter.unusedVariables false
set_option linter.unusedSimpArgs false
namespace Go.Ch
open Go Go.Ab

theorem jd_C (n : Nat) (p q : List DU) : joinDU (List.replicate n .C ++ p) q = List.replicate n .C ++ joinDU p q := by
  induction n with
  | zero => rfl
  | succ n ih => rw [List.replicate_succ, List.cons_append, joinDU, ih, List.cons_append]
def NoCD : List DU → Prop
  | .C :: _ => False
  | _ => True
theorem jd_A1 {p : List DU} (hp : NoCD p) (e : Elem) (q : List DU) : joinDU p (.A e :: q) = .A e :: joinDU p q := by
  rw [joinDU]
  intro p' h
  subst h
  exact hp
theorem jd_A (e : List Elem) {p : List DU} (hp : NoCD p) (q : List DU) : joinDU p (e.map .A ++ q) = e.map .A ++ joinDU p q := by
  induction e with
  | nil => rfl
  | cons x e ih => rw [List.map_cons, List.cons_append, jd_A1 hp, ih, List.cons_append]
theorem jd_KK (n : Nat) (c d : List Attr) (p q : List DU) : joinDU (List.replicate n (.K c) ++ p) (List.replicate n (.K d) ++ q) = List.replicate n (.K (fm botG c d)) ++ joinDU p q := by
  induction n with
  | zero => rfl
  | succ n ih => rw [List.replicate_succ, List.replicate_succ, List.replicate_succ, List.cons_append, List.cons_append, joinDU, ih, List.cons_append]
theorem jd_KC (n : Nat) (c : List Attr) (p q : List DU) : joinDU (List.replicate n (.K c) ++ p) (List.replicate n .C ++ q) = List.replicate n .C ++ joinDU p q := by
  induction n with
  | zero => rfl
  | succ n ih => rw [List.replicate_succ, List.replicate_succ, List.cons_append, List.cons_append, joinDU, ih, List.cons_append]
theorem jd_AK (e : List Elem) (d : List Attr) (p q : List DU) : joinDU (e.map .A ++ p) (List.replicate e.length (.K d) ++ q) = (e.map (chgE d)).map .A ++ joinDU p q := by
  induction e with
  | nil => rfl
  | cons x e ih => rw [List.map_cons, List.length_cons, List.replicate_succ, List.cons_append, List.cons_append, joinDU, ih]; rfl
theorem jd_AC (e : List Elem) (p q : List DU) : joinDU (e.map .A ++ p) (List.replicate e.length .C ++ q) = joinDU p q := by
  induction e with
  | nil => rfl
  | cons x e ih => rw [List.map_cons, List.length_cons, List.replicate_succ, List.cons_append, List.cons_append, joinDU, ih]
end Go.Ch
end
section
set_option linter.unusedVariables false
set_option linter.unusedSimpArgs false
namespace Go.Ch
open Go Go.Ab

structure JD (w : DWr) (ps : List DStep) (pu : Int) (qs : List DStep) (qu : Int) (T : Nat) (G : DWr) : Prop where
  gp : GoodRD ps pu
  gq : GoodRD qs qu
  dp : DN 100000000000 ps
  dq : DN 100000000000 qs
  eq : newN (ruD ps pu) = oldN (ruD qs qu)
  di : DI w (joinDU (ruD ps pu) (ruD qs qu)) T G
def jmD (ps : List DStep) (pu : Int) (qs : List DStep) (qu : Int) : Nat := (ruD ps pu).length + (ruD qs qu).length
theorem dn_tk {m : Nat} {l : List DStep} {u n : Int} (h : DN m l) : DN m (tkL l u n) := by
  unfold tkL; split
  · exact fun s hs => h s (List.mem_of_mem_drop hs)
  · exact h
theorem exS_C {l : List DStep} {u n : Int} (k : (l.getD 0 default).kind = 2) : exS (tkE l u n) = List.replicate n.toNat .C := by
  unfold tkE
  rw [if_neg (by omega)]
  unfold exS
  simp only
  rw [if_neg (by omega), if_pos k]
theorem exS_A {l : List DStep} {u n : Int} (k : (l.getD 0 default).kind = 1) : exS (tkE l u n) = (tkE l u n).elems.map .A := by
  unfold tkE
  rw [if_pos k]
  unfold exS
  simp only
  rw [if_pos k]
theorem exS_K {l : List DStep} {u n : Int} (k : (l.getD 0 default).kind = 0) : exS (tkE l u n) = List.replicate n.toNat (.K (l.getD 0 default).attrs) := by
  unfold tkE
  rw [if_neg (by omega)]
  unfold exS
  simp only
  rw [if_neg (by omega), if_neg (by omega)]
section
variable {w : DWr} {ps qs : List DStep} {pu qu : Int} {T : Nat} {G : DWr}
theorem JD.cut (h : JD w ps pu qs qu T G) (h0 : 0 < ps.length) (hk : (ps.getD 0 default).kind = 2) {n : Int} (hn : n = szD (ps.getD 0 default) - pu) :
    JD ⟨w.out, w.add, w.cut + n⟩ (tkL ps pu n) (tkN ps pu n) qs qu T G ∧ jmD (tkL ps pu n) (tkN ps pu n) qs qu < jmD ps pu qs qu := by
  have hl := h.gp.lt h0
  obtain ⟨g, e⟩ := tkD_ok (n := n) h.gp h0 (by omega) (by omega)
  rw [exS_C hk] at e
  have hd := h.di
  have he := h.eq
  rw [e, jd_C] at hd
  rw [e, newN_app, (lens_Cs _).2] at he
  have hd2 := hd.cuts
  rw [show ((n.toNat : Nat) : Int) = n by omega] at hd2
  refine ⟨⟨g, h.gq, dn_tk h.dp, h.dq, by omega, hd2⟩, ?_⟩
  unfold jmD
  rw [e, List.length_append, List.length_replicate]
  omega
theorem noCD {l : List DStep} {u : Int} (h : GoodRD l u) (hk : 0 < l.length → (l.getD 0 default).kind ≠ 2) : NoCD (ruD l u) := by
  by_cases h0 : 0 < l.length
  · have hl := h.lt h0
    have hp := h.pos
    have k2 := hk h0
    obtain ⟨g, e⟩ := tkD_ok (n := 1) h h0 (by decide) (by omega)
    have hs := (stepD_sz (step_iff.2 (h.ok _ (getD_mem' h0)))).1
    rcases hs with k | k | k
    · rw [e, exS_K k]; trivial
    · rw [e, exS_A k]
      have hem : (tkE l u 1).elems.length = 1 := by
        unfold tkE
        rw [if_pos k]
        simp only [List.length_drop, List.length_take]
        have : szD (l.getD 0 default) = (l.getD 0 default).elems.length := by unfold szD; rw [if_pos k]
        omega
      generalize (tkE l u 1).elems = z at hem
      cases z with
      | nil => simp at hem
      | cons x r => trivial
    · exact absurd k k2
  · rw [ruD_nil (by omega)]; trivial
theorem JD.add (h : JD w ps pu qs qu T G) (hp : 0 < ps.length → (ps.getD 0 default).kind ≠ 2) (h0 : 0 < qs.length) (hk : (qs.getD 0 default).kind = 1) {n : Int} (hn : n = szD (qs.getD 0 default) - qu) :
    JD ⟨w.out, w.add ++ (tkE qs qu n).elems, w.cut⟩ ps pu (tkL qs qu n) (tkN qs qu n) T G := by
  have hl := h.gq.lt h0
  obtain ⟨g, e⟩ := tkD_ok (n := n) h.gq h0 (by omega) (by omega)
  rw [exS_A hk] at e
  have hd := h.di
  have he := h.eq
  rw [e, jd_A _ (noCD h.gp hp)] at hd
  rw [e, oldN_app, (lens_As _).1] at he
  exact ⟨h.gp, g, h.dp, dn_tk h.dq, by omega, hd.elems⟩
theorem tkE_len {l : List DStep} {u n : Int} (k : (l.getD 0 default).kind = 1) (hu : 0 ≤ u) (hn : 0 ≤ n) (hl : u + n ≤ szD (l.getD 0 default)) : (tkE l u n).elems.length = n.toNat := by
  unfold tkE
  rw [if_pos k]
  simp only [List.length_drop, List.length_take]
  have : szD (l.getD 0 default) = (l.getD 0 default).elems.length := by unfold szD; rw [if_pos k]
  omega
theorem JD.both (h : JD w ps pu qs qu T G) (a : 0 < ps.length) (b : 0 < qs.length) (kp : (ps.getD 0 default).kind ≠ 2) (kq : (qs.getD 0 default).kind ≠ 1) {n : Int} (hn : n = min (szD (ps.getD 0 default) - pu) (szD (qs.getD 0 default) - qu)) :
    (((ps.getD 0 default).kind = 0 ∧ (qs.getD 0 default).kind = 0 → JD ⟨keepD (flushD w) n (fm botG (ps.getD 0 default).attrs (qs.getD 0 default).attrs), [], 0⟩ (tkL ps pu n) (tkN ps pu n) (tkL qs qu n) (tkN qs qu n) T G) ∧
    ((ps.getD 0 default).kind = 0 ∧ (qs.getD 0 default).kind = 2 → JD ⟨w.out, w.add, w.cut + n⟩ (tkL ps pu n) (tkN ps pu n) (tkL qs qu n) (tkN qs qu n) T G) ∧
    ((ps.getD 0 default).kind = 1 ∧ (qs.getD 0 default).kind = 0 → JD ⟨w.out, w.add ++ (tkE ps pu n).elems.map (chgE (qs.getD 0 default).attrs), w.cut⟩ (tkL ps pu n) (tkN ps pu n) (tkL qs qu n) (tkN qs qu n) T G) ∧
    ((ps.getD 0 default).kind = 1 ∧ (qs.getD 0 default).kind = 2 → JD w (tkL ps pu n) (tkN ps pu n) (tkL qs qu n) (tkN qs qu n) T G)) ∧
    jmD (tkL ps pu n) (tkN ps pu n) (tkL qs qu n) (tkN qs qu n) < jmD ps pu qs qu := by
  have l1 := h.gp.lt a
  have l2 := h.gq.lt b
  have p1 := h.gp.pos
  have p2 := h.gq.pos
  obtain ⟨g1, e1⟩ := tkD_ok (n := n) h.gp a (by omega) (by omega)
  obtain ⟨g2, e2⟩ := tkD_ok (n := n) h.gq b (by omega) (by omega)
  have hd := h.di
  have he := h.eq
  have k1 := (stepD_sz (step_iff.2 (h.gp.ok _ (getD_mem' a)))).1
  have k2 := (stepD_sz (step_iff.2 (h.gq.ok _ (getD_mem' b)))).1
  refine ⟨⟨fun k => ?_, fun k => ?_, fun k => ?_, fun k => ?_⟩, ?_⟩
  · rw [e1, e2, exS_K k.1, exS_K k.2] at hd he
    rw [jd_KK, show n.toNat = (n.toNat - 1) + 1 by omega] at hd
    rw [newN_app, oldN_app, (lens_Ks _ _).1, (lens_Ks _ _).2] at he
    have hd2 := hd.keep
    rw [show (((n.toNat - 1 + 1 : Nat)) : Int) = n by omega] at hd2
    exact ⟨g1, g2, dn_tk h.dp, dn_tk h.dq, by omega, hd2⟩
  · rw [e1, e2, exS_K k.1, exS_C k.2] at hd he
    rw [jd_KC] at hd
    rw [newN_app, oldN_app, (lens_Cs _).1, (lens_Ks _ _).2] at he
    have hd2 := hd.cuts
    rw [show ((n.toNat : Nat) : Int) = n by omega] at hd2
    exact ⟨g1, g2, dn_tk h.dp, dn_tk h.dq, by omega, hd2⟩
  · have hz := tkE_len (n := n) k.1 p1 (by omega) (by omega)
    rw [e1, e2, exS_A k.1, exS_K k.2] at hd he
    rw [newN_app, oldN_app, (lens_Ks _ _).1, (lens_As _).2] at he
    rw [← hz, jd_AK] at hd
    exact ⟨g1, g2, dn_tk h.dp, dn_tk h.dq, by omega, hd.elems⟩
  · have hz := tkE_len (n := n) k.1 p1 (by omega) (by omega)
    rw [e1, e2, exS_A k.1, exS_C k.2] at hd he
    rw [newN_app, oldN_app, (lens_Cs _).1, (lens_As _).2] at he
    rw [← hz, jd_AC] at hd
    exact ⟨g1, g2, dn_tk h.dp, dn_tk h.dq, by omega, hd⟩
  · have hs := exS_sz (h.gp.ok _ (getD_mem' a))
    have hl := congrArg List.length (tkE_split (n := n) (h.gp.ok _ (getD_mem' a)) p1 (by omega) (by omega))
    simp only [List.length_append, List.length_drop] at hl
    unfold jmD
    rw [e1, e2, List.length_append, List.length_append]
    omega
end
end Go.Ch
end
section
set_option linter.unusedVariables false
set_option linter.unusedSimpArgs false
namespace Go.Ch
open Go Go.Ab

def joinD (a b : List DStep) : List DStep := doneD (joinDU (exD a) (exD b))
theorem rd_one {l : List DStep} {u : Int} (h : GoodRD l u) (h0 : 0 < l.length) : ((l.getD 0 default).kind ≠ 1 → 1 ≤ oldN (ruD l u)) ∧ ((l.getD 0 default).kind ≠ 2 → 1 ≤ newN (ruD l u)) := by
  have hl := h.lt h0
  have hp := h.pos
  obtain ⟨g, e⟩ := tkD_ok (n := 1) h h0 (by decide) (by omega)
  have hs := (stepD_sz (step_iff.2 (h.ok _ (getD_mem' h0)))).1
  rcases hs with k | k | k
  · rw [e, exS_K k, oldN_app, newN_app, (lens_Ks _ _).1, (lens_Ks _ _).2]; constructor <;> intro _ <;> omega
  · have hz := tkE_len (n := 1) k hp (by omega) (by omega)
    rw [e, exS_A k, oldN_app, newN_app, (lens_As _).1, (lens_As _).2, hz]; constructor <;> intro _ <;> omega
  · rw [e, exS_C k, oldN_app, newN_app, (lens_Cs _).1, (lens_Cs _).2]; constructor <;> intro _ <;> omega
variable {w : DWr} {ps qs : List DStep} {pu qu : Int} {T : Nat} {G : DWr}
theorem JD.two (h : JD w ps pu qs qu T G) (h0 : 0 < ps.length ∨ 0 < qs.length) (hp : 0 < ps.length → (ps.getD 0 default).kind ≠ 2) (hq : 0 < qs.length → (qs.getD 0 default).kind ≠ 1) : 0 < ps.length ∧ 0 < qs.length := by
  have he := h.eq
  rcases Nat.eq_zero_or_pos ps.length with a | a
  · rcases Nat.eq_zero_or_pos qs.length with b | b
    · omega
    · have := (rd_one h.gq b).1 (hq b)
      rw [ruD_nil a] at he
      simp only [newN] at he
      omega
  · rcases Nat.eq_zero_or_pos qs.length with b | b
    · have := (rd_one h.gp a).2 (hp a)
      rw [ruD_nil b] at he
      simp only [oldN] at he
      omega
    · exact ⟨a, b⟩
theorem JD.done (h : JD w ps pu qs qu T G) (a : ps.length = 0) (b : qs.length = 0) : w = G := by
  have := h.di
  rw [ruD_nil a, ruD_nil b] at this
  exact DI.done (by simpa [joinDU] using this)
theorem an_up {m k : Nat} {l : List Elem} (h : AN m l) (hm : m ≤ k) : AN k l := fun x hx => Nat.le_trans (h x hx) hm
end Go.Ch
end
section
set_option linter.unusedVariables false
set_option linter.unusedSimpArgs false
namespace Go.Ch
open Go Go.Ab

def NoAD : List DU → Prop
  | .A _ :: _ => False
  | _ => True
theorem pd_KK (n : Nat) (c d : List Attr) (p q : List DU) : pairDU (List.replicate n (.K c) ++ p) (List.replicate n (.K d) ++ q) = (List.replicate n (.K (fm wioG c d)) ++ (pairDU p q).1, List.replicate n (.K d) ++ (pairDU p q).2) := by
  induction n with
  | zero => rfl
  | succ n ih => rw [List.replicate_succ, List.replicate_succ, List.replicate_succ, List.cons_append, List.cons_append, pairDU, ih]; rfl
theorem pd_KC (n : Nat) (c : List Attr) (p q : List DU) : pairDU (List.replicate n (.K c) ++ p) (List.replicate n .C ++ q) = ((pairDU p q).1, List.replicate n .C ++ (pairDU p q).2) := by
  induction n with
  | zero => rfl
  | succ n ih => rw [List.replicate_succ, List.replicate_succ, List.cons_append, List.cons_append, pairDU, ih]; rfl
theorem pd_CK (n : Nat) (c : List Attr) (p q : List DU) : pairDU (List.replicate n .C ++ p) (List.replicate n (.K c) ++ q) = (List.replicate n .C ++ (pairDU p q).1, (pairDU p q).2) := by
  induction n with
  | zero => rfl
  | succ n ih => rw [List.replicate_succ, List.replicate_succ, List.cons_append, List.cons_append, pairDU, ih]; rfl
theorem pd_CC (n : Nat) (p q : List DU) : pairDU (List.replicate n .C ++ p) (List.replicate n .C ++ q) = pairDU p q := by
  induction n with
  | zero => rfl
  | succ n ih => rw [List.replicate_succ, List.cons_append, List.cons_append, pairDU, ih]
def pairD1 (a b : List DStep) : List DStep := doneD (pairDU (exD a) (exD b)).1
def pairD2 (a b : List DStep) : List DStep := doneD (pairDU (exD a) (exD b)).2
structure PD (wx wy : DWr) (ps : List DStep) (pu : Int) (qs : List DStep) (qu : Int) (T U : Nat) (G H : DWr) : Prop where
  gp : GoodRD ps pu
  gq : GoodRD qs qu
  dp : DN 100000000000 ps
  dq : DN 100000000000 qs
  eq : oldN (ruD ps pu) = oldN (ruD qs qu)
  dx : DI wx (pairDU (ruD ps pu) (ruD qs qu)).1 T G
  dy : DI wy (pairDU (ruD ps pu) (ruD qs qu)).2 U H
section
variable {wx wy : DWr} {ps qs : List DStep} {pu qu : Int} {T U : Nat} {G H : DWr}
theorem PD.both (h : PD wx wy ps pu qs qu T U G H) (a : 0 < ps.length) (b : 0 < qs.length) (kp : (ps.getD 0 default).kind ≠ 1) (kq : (qs.getD 0 default).kind ≠ 1) {n : Int} (hn : n = min (szD (ps.getD 0 default) - pu) (szD (qs.getD 0 default) - qu)) :
    (((ps.getD 0 default).kind = 0 ∧ (qs.getD 0 default).kind = 0 → PD ⟨keepD (flushD wx) n (fm wioG (ps.getD 0 default).attrs (qs.getD 0 default).attrs), [], 0⟩ ⟨keepD (flushD wy) n (qs.getD 0 default).attrs, [], 0⟩ (tkL ps pu n) (tkN ps pu n) (tkL qs qu n) (tkN qs qu n) T U G H) ∧
    ((ps.getD 0 default).kind = 0 ∧ (qs.getD 0 default).kind = 2 → PD wx ⟨wy.out, wy.add, wy.cut + n⟩ (tkL ps pu n) (tkN ps pu n) (tkL qs qu n) (tkN qs qu n) T U G H) ∧
    ((ps.getD 0 default).kind = 2 ∧ (qs.getD 0 default).kind = 0 → PD ⟨wx.out, wx.add, wx.cut + n⟩ wy (tkL ps pu n) (tkN ps pu n) (tkL qs qu n) (tkN qs qu n) T U G H) ∧
    ((ps.getD 0 default).kind = 2 ∧ (qs.getD 0 default).kind = 2 → PD wx wy (tkL ps pu n) (tkN ps pu n) (tkL qs qu n) (tkN qs qu n) T U G H)) ∧
    jmD (tkL ps pu n) (tkN ps pu n) (tkL qs qu n) (tkN qs qu n) < jmD ps pu qs qu := by
  have l1 := h.gp.lt a
  have l2 := h.gq.lt b
  have p1 := h.gp.pos
  have p2 := h.gq.pos
  obtain ⟨g1, e1⟩ := tkD_ok (n := n) h.gp a (by omega) (by omega)
  obtain ⟨g2, e2⟩ := tkD_ok (n := n) h.gq b (by omega) (by omega)
  have hx := h.dx
  have hy := h.dy
  have he := h.eq
  refine ⟨⟨fun k => ?_, fun k => ?_, fun k => ?_, fun k => ?_⟩, ?_⟩
  · rw [e1, e2, exS_K k.1, exS_K k.2] at hx hy he
    rw [pd_KK, show n.toNat = (n.toNat - 1) + 1 by omega] at hx hy
    rw [oldN_app, oldN_app, (lens_Ks _ _).1, (lens_Ks _ _).1] at he
    have hx2 := hx.keep
    have hy2 := hy.keep
    rw [show (((n.toNat - 1 + 1 : Nat)) : Int) = n by omega] at hx2 hy2
    exact ⟨g1, g2, dn_tk h.dp, dn_tk h.dq, by omega, hx2, hy2⟩
  · rw [e1, e2, exS_K k.1, exS_C k.2] at hx hy he
    rw [pd_KC] at hx hy
    rw [oldN_app, oldN_app, (lens_Cs _).1, (lens_Ks _ _).1] at he
    have hy2 := hy.cuts
    rw [show ((n.toNat : Nat) : Int) = n by omega] at hy2
    exact ⟨g1, g2, dn_tk h.dp, dn_tk h.dq, by omega, hx, hy2⟩
  · rw [e1, e2, exS_C k.1, exS_K k.2] at hx hy he
    rw [pd_CK] at hx hy
    rw [oldN_app, oldN_app, (lens_Cs _).1, (lens_Ks _ _).1] at he
    have hx2 := hx.cuts
    rw [show ((n.toNat : Nat) : Int) = n by omega] at hx2
    exact ⟨g1, g2, dn_tk h.dp, dn_tk h.dq, by omega, hx2, hy⟩
  · rw [e1, e2, exS_C k.1, exS_C k.2] at hx hy he
    rw [pd_CC] at hx hy
    rw [oldN_app, oldN_app, (lens_Cs _).1] at he
    exact ⟨g1, g2, dn_tk h.dp, dn_tk h.dq, by omega, hx, hy⟩
  · have hs := exS_sz (h.gp.ok _ (getD_mem' a))
    have hl := congrArg List.length (tkE_split (n := n) (h.gp.ok _ (getD_mem' a)) p1 (by omega) (by omega))
    simp only [List.length_append, List.length_drop] at hl
    unfold jmD
    rw [e1, e2, List.length_append, List.length_append]
    omega
theorem PD.two (h : PD wx wy ps pu qs qu T U G H) (h0 : 0 < ps.length ∨ 0 < qs.length) (hp : 0 < ps.length → (ps.getD 0 default).kind ≠ 1) (hq : 0 < qs.length → (qs.getD 0 default).kind ≠ 1) : 0 < ps.length ∧ 0 < qs.length := by
  have he := h.eq
  rcases Nat.eq_zero_or_pos ps.length with a | a
  · rcases Nat.eq_zero_or_pos qs.length with b | b
    · omega
    · have := (rd_one h.gq b).1 (hq b)
      rw [ruD_nil a] at he
      simp only [oldN] at he
      omega
  · rcases Nat.eq_zero_or_pos qs.length with b | b
    · have := (rd_one h.gp a).1 (hp a)
      rw [ruD_nil b] at he
      simp only [oldN] at he
      omega
    · exact ⟨a, b⟩
theorem PD.done (h : PD wx wy ps pu qs qu T U G H) (a : ps.length = 0) (b : qs.length = 0) : wx = G ∧ wy = H := by
  have hx := h.dx
  have hy := h.dy
  rw [ruD_nil a, ruD_nil b] at hx hy
  exact ⟨DI.done (by simpa [pairDU] using hx), DI.done (by simpa [pairDU] using hy)⟩
end
end Go.Ch
end
