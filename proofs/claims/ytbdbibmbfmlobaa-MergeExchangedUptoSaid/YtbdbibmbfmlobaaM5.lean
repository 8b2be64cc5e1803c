/- Steps of a delta: their encoding, the checks, lengths, units and what they do to a flow. -/
import Derived.Test.YtbdbibmbfmlobaaM1
import Derived.Test.YtbdbibmbfmlobaaM2
import Derived.Test.YtbdbibmbfmlobaaM3
import Derived.Test.YtbdbibmbfmlobaaM4
section
set_option linter.unusedVariables false
set_option linter.unusedSimpArgs false
namespace Go.Ch
open Go Go.Ab

structure DStep where
  kind : Int
  n : Int
  attrs : List Attr
  elems : List Elem
instance : Inhabited DStep := ⟨⟨0, 0, [], []⟩⟩
def dstepT (s : DStep) : Tree := .agg [.sc (.int .i64 s.kind), .sc (.int .i64 s.n), .lst 2 (s.attrs.map attrT), .lst 3 (s.elems.map elemT)]
def AN (n : Nat) (l : List Elem) : Prop := ∀ x ∈ l, x.attrs.length ≤ n
def stepD (s : DStep) : Int :=
  if s.kind = 1 then (if s.n ≠ 0 ∨ 0 < s.attrs.length then 4 else if s.elems.length = 0 then 11 else partE s.elems 0)
  else if s.kind = 0 ∨ s.kind = 2 then
    (if 0 < s.elems.length ∨ (s.kind = 2 ∧ 0 < s.attrs.length) then 4 else if s.n < 1 ∨ 2147483647 < s.n then 2 else chkA true s.attrs 0)
  else 8
def szD (s : DStep) : Int := if s.kind = 1 then (s.elems.length : Int) else s.n
def DOk (s : DStep) : Prop :=
  (s.kind = 1 ∧ s.n = 0 ∧ s.attrs = [] ∧ s.elems ≠ [] ∧ ∀ x ∈ s.elems, elemE x = 0) ∨
  ((s.kind = 0 ∨ s.kind = 2) ∧ s.elems = [] ∧ (s.kind = 2 → s.attrs = []) ∧ 1 ≤ s.n ∧ s.n ≤ 2147483647 ∧ VG true s.attrs)
theorem len0 {α : Type} {l : List α} : ¬ 0 < l.length ↔ l = [] := by
  rw [Nat.not_lt, Nat.le_zero, List.length_eq_zero_iff]
theorem step_iff {s : DStep} : stepD s = 0 ↔ DOk s := by
  unfold stepD DOk
  by_cases k1 : s.kind = 1
  · rw [if_pos k1]
    by_cases c1 : s.n ≠ 0 ∨ 0 < s.attrs.length
    · rw [if_pos c1]
      constructor
      · intro h; omega
      · rintro (⟨_, h1, h2, _⟩ | ⟨h, _⟩)
        · rw [h2] at c1; simp at c1; omega
        · omega
    rw [if_neg c1]
    by_cases c2 : s.elems.length = 0
    · rw [if_pos c2]
      constructor
      · intro h; omega
      · rintro (⟨_, _, _, h, _⟩ | ⟨h, _⟩)
        · exact absurd (List.length_eq_zero_iff.1 c2) h
        · omega
    rw [if_neg c2, part_iff]
    have ha : s.attrs = [] := len0.1 (by omega)
    constructor
    · intro h
      exact .inl ⟨k1, by omega, ha, fun e => c2 (by rw [e]; rfl), h⟩
    · rintro (⟨_, _, _, _, h⟩ | ⟨h, _⟩)
      · exact h
      · omega
  rw [if_neg k1]
  by_cases k2 : s.kind = 0 ∨ s.kind = 2
  · rw [if_pos k2]
    by_cases c1 : 0 < s.elems.length ∨ (s.kind = 2 ∧ 0 < s.attrs.length)
    · rw [if_pos c1]
      constructor
      · intro h; omega
      · rintro (⟨h, _⟩ | ⟨_, h1, h2, _⟩)
        · omega
        · rcases c1 with c | ⟨c, d⟩
          · rw [h1] at c; simp at c
          · rw [h2 c] at d; simp at d
    rw [if_neg c1]
    by_cases c2 : s.n < 1 ∨ 2147483647 < s.n
    · rw [if_pos c2]
      constructor
      · intro h; omega
      · rintro (⟨h, _⟩ | ⟨_, _, _, h1, h2, _⟩) <;> omega
    rw [if_neg c2, chk_iff]
    constructor
    · intro h
      exact .inr ⟨k2, len0.1 (by omega), fun h2 => len0.1 (by omega), by omega, by omega, h⟩
    · rintro (⟨h, _⟩ | ⟨_, _, _, _, _, h⟩)
      · omega
      · exact h
  · rw [if_neg k2]
    constructor
    · intro h; omega
    · rintro (⟨h, _⟩ | ⟨h, _⟩)
      · omega
      · exact absurd h k2
theorem stepD_sz {s : DStep} (h : stepD s = 0) : (s.kind = 0 ∨ s.kind = 1 ∨ s.kind = 2) ∧ 0 ≤ s.n ∧ s.n ≤ 2147483647 ∧ 1 ≤ szD s ∧ szD s ≤ max 2147483647 s.elems.length := by
  unfold szD
  rcases step_iff.1 h with ⟨k, n, a, e, _⟩ | ⟨k, _, _, n1, n2, _⟩
  · have : 0 < s.elems.length := List.length_pos_iff.2 e
    rw [if_pos k]; omega
  · rw [if_neg (by omega)]; omega
/-- Neighbours that a delta must not have. -/
def adjD (w x : DStep) : Bool := ((w.kind == x.kind) && ((x.kind != 0) || sameL w.attrs x.attrs)) || ((w.kind == 2) && (x.kind == 1))
theorem adjD_yes {w x : DStep} : adjD w x = true ↔ (w.kind = x.kind ∧ (¬ x.kind = 0 ∨ sameL w.attrs x.attrs = true)) ∨ (w.kind = 2 ∧ x.kind = 1) := by
  unfold adjD; simp
theorem adjD_no {w x : DStep} (h : (¬ w.kind = x.kind ∨ (x.kind = 0 ∧ sameL w.attrs x.attrs = false)) ∧ (¬ w.kind = 2 ∨ ¬ x.kind = 1)) : ¬ adjD w x = true := by
  rw [adjD_yes]
  rintro (⟨a, b⟩ | ⟨a, b⟩)
  · rcases h.1 with c | ⟨c, d⟩
    · exact c a
    · rcases b with b | b
      · exact b c
      · rw [d] at b; cases b
  · rcases h.2 with c | c
    · exact c a
    · exact c b
/-- Bounds on the lists inside. -/
def DN (n : Nat) (l : List DStep) : Prop := ∀ s ∈ l, s.elems.length ≤ n ∧ s.attrs.length ≤ n ∧ AN n s.elems
theorem DN.at_ {n : Nat} {l : List DStep} (h : DN n l) {k : Nat} (hk : k < l.length) : (l.getD k default).elems.length ≤ n ∧ (l.getD k default).attrs.length ≤ n ∧ AN n (l.getD k default).elems := by
  refine h _ ?_
  rw [show l.getD k default = l[k] by simp [List.getD, List.getElem?_eq_getElem hk]]
  exact List.getElem_mem hk
def chkD (l : List DStep) (i : Nat) (b a : Int) : Int :=
  if i < l.length then
    if stepD (l.getD i default) ≠ 0 then stepD (l.getD i default)
    else if 0 < i ∧ adjD (l.getD (i - 1) default) (l.getD i default) = true then 5
    else chkD l (i + 1) (if (l.getD i default).kind ≠ 1 then min (b + (l.getD i default).n) 2147483648 else b) (if (l.getD i default).kind ≠ 2 then min (a + szD (l.getD i default)) 2147483648 else a)
  else if 2147483647 < b ∨ 2147483647 < a then 3 else 0
termination_by l.length - i
def checkD (l : List DStep) : Int := chkD l 0 0 0
def oS (s : DStep) : Int := if s.kind = 1 then 0 else s.n
def nS (s : DStep) : Int := if s.kind = 2 then 0 else szD s
def oldD : List DStep → Int
  | [] => 0
  | s :: l => oS s + oldD l
def newD : List DStep → Int
  | [] => 0
  | s :: l => nS s + newD l
def DForm : List DStep → Prop
  | [] => True
  | [s] => DOk s
  | s :: t :: l => DOk s ∧ adjD s t = false ∧ DForm (t :: l)
def DFormAt (l : List DStep) (i : Nat) : Prop := ∀ k, i ≤ k → k < l.length → DOk (l.getD k default) ∧ (0 < k → adjD (l.getD (k - 1) default) (l.getD k default) = false)
theorem dropD {α : Type} [Inhabited α] {l : List α} {i : Nat} (h : i < l.length) : l.drop i = l.getD i default :: l.drop (i + 1) := by
  rw [List.drop_eq_getElem_cons h]; simp [List.getD, List.getElem?_eq_getElem h]
theorem oS_nn {s : DStep} (h : DOk s) : 0 ≤ oS s ∧ 0 ≤ nS s := by
  have := stepD_sz (step_iff.2 h)
  unfold oS nS
  constructor <;> split <;> omega
theorem atD_drop {l : List DStep} {i : Nat} (h : DFormAt l i) : ∀ s ∈ l.drop i, DOk s := by
  intro s hs
  obtain ⟨k, hk, e⟩ := List.mem_iff_getElem.1 hs
  rw [List.length_drop] at hk
  have := (h (i + k) (by omega) (by omega)).1
  rw [List.getElem_drop] at e
  rw [← e]
  simpa [List.getD, List.getElem?_eq_getElem (show i + k < l.length by omega)] using this
theorem sums_nn : ∀ {l : List DStep}, (∀ s ∈ l, DOk s) → 0 ≤ oldD l ∧ 0 ≤ newD l
  | [], _ => ⟨Int.le_refl _, Int.le_refl _⟩
  | s :: l, h => by
    have h1 := oS_nn (h s (by simp))
    have h2 := sums_nn (l := l) (fun t ht => h t (by simp [ht]))
    simp only [oldD, newD]; omega
theorem chkD_all (l : List DStep) : ∀ (m i : Nat) (b a : Int), l.length - i = m → 0 ≤ b → 0 ≤ a → b ≤ 2147483648 → a ≤ 2147483648 →
    (chkD l i b a = 0 ↔ DFormAt l i ∧ b + oldD (l.drop i) ≤ 2147483647 ∧ a + newD (l.drop i) ≤ 2147483647)
  | 0, i, b, a, h, hb, ha, hb2, ha2 => by
    rw [chkD, if_neg (by omega), List.drop_eq_nil_of_le (by omega)]
    simp only [oldD, newD]
    split
    · constructor
      · intro h; omega
      · rintro ⟨_, h1, h2⟩; omega
    · exact ⟨fun _ => ⟨fun k h1 h2 => by omega, by omega, by omega⟩, fun _ => rfl⟩
  | m + 1, i, b, a, h, hb, ha, hb2, ha2 => by
    have hi : i < l.length := by omega
    rw [chkD, if_pos hi]
    have step : DFormAt l i ↔ (DOk (l.getD i default) ∧ (0 < i → adjD (l.getD (i - 1) default) (l.getD i default) = false)) ∧ DFormAt l (i + 1) := by
      constructor
      · exact fun h => ⟨h i (Nat.le_refl _) hi, fun k h1 h2 => h k (by omega) h2⟩
      · rintro ⟨h1, h2⟩ k h3 h4
        by_cases e : k = i
        · subst e; exact h1
        · exact h2 k (by omega) h4
    rw [step, dropD hi]
    simp only [oldD, newD]
    have ih := fun b' a' => chkD_all l m (i + 1) b' a' (by omega)
    have nn := fun f : DFormAt l (i + 1) => sums_nn (atD_drop f)
    generalize l.getD i default = x at *
    generalize l.getD (i - 1) default = y at *
    by_cases c1 : stepD x ≠ 0
    · rw [if_pos c1]; constructor
      · intro h; exact absurd h c1
      · rintro ⟨⟨⟨h, _⟩, _⟩, _⟩; exact absurd (step_iff.2 h) c1
    rw [if_neg c1]
    have hs := step_iff.1 (by omega : stepD x = 0)
    have hz := stepD_sz (by omega : stepD x = 0)
    by_cases c3 : 0 < i ∧ adjD y x = true
    · rw [if_pos c3]; constructor
      · intro h; omega
      · rintro ⟨⟨⟨_, h⟩, _⟩, _⟩
        have := h c3.1
        rw [c3.2] at this; cases this
    rw [if_neg c3, ih _ _ (by split <;> omega) (by split <;> omega) (by split <;> omega) (by split <;> omega)]
    unfold oS nS
    constructor
    · rintro ⟨f, h1, h2⟩
      obtain ⟨n0, n1⟩ := nn f
      refine ⟨⟨⟨hs, fun h0 => ?_⟩, f⟩, ?_, ?_⟩
      · cases e : adjD y x
        · rfl
        · exact absurd ⟨h0, e⟩ c3
      · by_cases k1 : x.kind = 1
        · rw [if_pos k1]; rw [if_neg (by omega)] at h1; omega
        · rw [if_neg k1]; rw [if_pos k1] at h1; omega
      · by_cases k1 : x.kind = 2
        · rw [if_pos k1]; rw [if_neg (by omega)] at h2; omega
        · rw [if_neg k1]; rw [if_pos k1] at h2; omega
    · rintro ⟨⟨_, f⟩, h1, h2⟩
      obtain ⟨n0, n1⟩ := nn f
      refine ⟨f, ?_, ?_⟩
      · by_cases k1 : x.kind = 1
        · rw [if_pos k1] at h1; rw [if_neg (by omega)]; omega
        · rw [if_neg k1] at h1; rw [if_pos k1]; omega
      · by_cases k1 : x.kind = 2
        · rw [if_pos k1] at h2; rw [if_neg (by omega)]; omega
        · rw [if_neg k1] at h2; rw [if_pos k1]; omega
theorem dform_of_at : ∀ {l : List DStep}, DFormAt l 0 → DForm l
  | [], _ => trivial
  | [s], h => (h 0 (Nat.le_refl _) (by simp)).1
  | s :: t :: l, h => by
    refine ⟨(h 0 (Nat.le_refl _) (by simp)).1, (h 1 (by omega) (by simp)).2 (by omega), dform_of_at (fun k h1 h2 => ?_)⟩
    have h2' : k + 1 < (s :: t :: l).length := by simp at h2 ⊢; omega
    have := h (k + 1) (by omega) h2'
    simp only [List.getD_cons_succ] at this
    refine ⟨this.1, fun h0 => ?_⟩
    have e := this.2 (by omega)
    rw [show k + 1 - 1 = (k - 1) + 1 by omega, List.getD_cons_succ] at e
    exact e
theorem at_of_dform : ∀ {l : List DStep}, DForm l → DFormAt l 0
  | [], _ => fun k h1 h2 => by simp at h2
  | [s], h => fun k h1 h2 => by
    have : k = 0 := by simp at h2; omega
    subst this
    exact ⟨h, fun h0 => by omega⟩
  | s :: t :: l, h => fun k h1 h2 => by
    obtain ⟨a, b, c⟩ := h
    rcases k with _ | k
    · exact ⟨a, fun h0 => by omega⟩
    · have := at_of_dform c k (Nat.zero_le _) (by simp at h2 ⊢; omega)
      rw [List.getD_cons_succ]
      refine ⟨this.1, fun _ => ?_⟩
      rcases k with _ | k
      · exact b
      · rw [Nat.add_sub_cancel, List.getD_cons_succ]
        have e := this.2 (by omega)
        rw [Nat.add_sub_cancel] at e
        exact e
def DValid (l : List DStep) : Prop := DForm l ∧ oldD l ≤ 2147483647 ∧ newD l ≤ 2147483647
theorem checkD_iff {l : List DStep} : checkD l = 0 ↔ DValid l := by
  unfold checkD DValid
  rw [chkD_all l _ 0 0 0 rfl (Int.le_refl _) (Int.le_refl _) (by decide) (by decide)]
  simp only [List.drop_zero, Int.zero_add]
  exact ⟨fun h => ⟨dform_of_at h.1, h.2⟩, fun h => ⟨at_of_dform h.1, h.2⟩⟩
theorem DForm.all {l : List DStep} (h : DForm l) : ∀ s ∈ l, DOk s := by
  have := atD_drop (at_of_dform h)
  simpa using this

theorem dlens_step {l : List DStep} {i : Nat} (h : i < l.length) (hf : DForm l) : oldD (l.drop i) = (if (l.getD i default).kind = 1 then 0 else (l.getD i default).n) + oldD (l.drop (i + 1)) ∧
    newD (l.drop i) = (if (l.getD i default).kind = 2 then 0 else szD (l.getD i default)) + newD (l.drop (i + 1)) ∧ DOk (l.getD i default) ∧ 0 ≤ oldD (l.drop (i + 1)) ∧ 0 ≤ newD (l.drop (i + 1)) ∧ 0 ≤ (l.getD i default).n ∧ 1 ≤ szD (l.getD i default) ∧ ((l.getD i default).kind = 0 ∨ (l.getD i default).kind = 1 ∨ (l.getD i default).kind = 2) := by
  have h1 := ((at_of_dform hf) i (Nat.zero_le _) h).1
  have h2 := stepD_sz (step_iff.2 h1)
  have h3 := sums_nn (l := l.drop (i + 1)) (fun s hs => hf.all s (List.mem_of_mem_drop hs))
  rw [dropD h]
  exact ⟨rfl, rfl, h1, h3.1, h3.2, h2.2.1, h2.2.2.2.1, h2.1⟩
/-! ### The reference's check -/
def adjR (w x : DStep) : Prop := if x.kind = 1 then w.kind ≠ 0 else if x.kind = 2 then w.kind = 2 else w.kind = 0 ∧ sameL w.attrs x.attrs = true
instance (w x : DStep) : Decidable (adjR w x) := by unfold adjR; infer_instance
def chkR (l : List DStep) (i : Nat) (b a : Int) : Int :=
  if i < l.length then
    if stepD (l.getD i default) ≠ 0 then stepD (l.getD i default)
    else if 0 < i ∧ adjR (l.getD (i - 1) default) (l.getD i default) then 5
    else chkR l (i + 1) (if (l.getD i default).kind ≠ 1 ∧ b < 2147483648 then b + (l.getD i default).n else b) (if (l.getD i default).kind ≠ 2 ∧ a < 2147483648 then a + ((l.getD i default).n + (l.getD i default).elems.length) else a)
  else if 2147483647 < b ∨ 2147483647 < a then 3 else 0
termination_by l.length - i
def refD (l : List DStep) : Int := chkR l 0 0 0
def sumNs : List DStep → Int
  | [] => 0
  | s :: l => s.n + sumNs l
/-- Sizes of the strings inside. -/
def sameDS (x y : DStep) : Bool := ((x.kind == y.kind) && (x.n == y.n)) && (sameL x.attrs y.attrs && sameF x.elems y.elems)

/-! ### Units -/
inductive DU where
  | K (c : List Attr)
  | A (e : Elem)
  | C
def exS (s : DStep) : List DU := if s.kind = 1 then s.elems.map .A else if s.kind = 2 then List.replicate s.n.toNat .C else List.replicate s.n.toNat (.K s.attrs)
def exD : List DStep → List DU
  | [] => []
  | s :: l => exS s ++ exD l
theorem exD_app (a b : List DStep) : exD (a ++ b) = exD a ++ exD b := by
  induction a with
  | nil => rfl
  | cons s a ih => simp [exD, ih]
/-- An element changed by an attribute change. -/
def chgE (c : List Attr) (x : Elem) : Elem := ⟨x.char, x.ref, fm rawG x.attrs c⟩
def applyU : List DU → List Elem → List Elem
  | [], _ => []
  | .A e :: u, l => e :: applyU u l
  | .K c :: u, x :: l => chgE c x :: applyU u l
  | .C :: u, _ :: l => applyU u l
  | .K _ :: u, [] => applyU u []
  | .C :: u, [] => applyU u []
def undoU : List DU → List Elem → List DU
  | [], _ => []
  | .A _ :: u, l => .C :: undoU u l
  | .K c :: u, x :: l => .K (fm chgG (fm rawG x.attrs c) x.attrs) :: undoU u l
  | .C :: u, x :: l => .A x :: undoU u l
  | .K _ :: u, [] => undoU u []
  | .C :: u, [] => undoU u []
def oldN : List DU → Nat
  | [] => 0
  | .A _ :: u => oldN u
  | _ :: u => oldN u + 1
def newN : List DU → Nat
  | [] => 0
  | .C :: u => newN u
  | _ :: u => newN u + 1
def UOk : List DU → Prop
  | [] => True
  | .K c :: u => VG true c ∧ UOk u
  | _ :: u => UOk u
theorem undoU_back : ∀ (u : List DU) (l : List Elem), oldN u = l.length → UOk u → (∀ x ∈ l, VG false x.attrs) → applyU (undoU u l) (applyU u l) = l
  | [], [], _, _, _ => rfl
  | [], _ :: _, h, _, _ => by simp [oldN] at h
  | .A e :: u, l, h, hu, hl => by simp only [undoU, applyU]; exact undoU_back u l h hu hl
  | .K c :: u, [], h, _, _ => by simp [oldN] at h
  | .C :: u, [], h, _, _ => by simp [oldN] at h
  | .K c :: u, x :: l, h, hu, hl => by
    simp only [undoU, applyU]
    rw [undoU_back u l (by simpa [oldN] using h) hu.2 (fun y hy => hl y (by simp [hy]))]
    congr 1
    unfold chgE
    simp only
    rw [undo_back np_mt vp_mt (hl x (by simp)) hu.1]
  | .C :: u, x :: l, h, hu, hl => by
    simp only [undoU, applyU]
    rw [undoU_back u l (by simpa [oldN] using h) hu (fun y hy => hl y (by simp [hy]))]
inductive DSw : List DU → List DU → Prop
  | refl (u : List DU) : DSw u u
  | cons (x : DU) {u v : List DU} (h : DSw u v) : DSw (x :: u) (x :: v)
  | swap (e : Elem) (u : List DU) : DSw (.A e :: .C :: u) (.C :: .A e :: u)
  | symm {u v : List DU} (h : DSw u v) : DSw v u
  | trans {u v w : List DU} (h : DSw u v) (k : DSw v w) : DSw u w
theorem DSw.left (w : List DU) {u v : List DU} (h : DSw u v) : DSw (w ++ u) (w ++ v) := by
  induction w with
  | nil => exact h
  | cons x w ih => exact .cons x ih
theorem DSw.right (w : List DU) {u v : List DU} (h : DSw u v) : DSw (u ++ w) (v ++ w) := by
  induction h with
  | refl u => exact .refl _
  | cons x _ ih => exact .cons x ih
  | swap e u => exact .swap e _
  | symm _ ih => exact .symm ih
  | trans _ _ a b => exact .trans a b
theorem sw_applyU {u v : List DU} (h : DSw u v) : ∀ l, applyU u l = applyU v l := by
  induction h with
  | refl u => exact fun _ => rfl
  | cons x _ ih =>
    intro l
    cases x <;> cases l <;> simp [applyU, ih]
  | swap e u => intro l; cases l <;> simp [applyU]
  | symm _ ih => exact fun l => (ih l).symm
  | trans _ _ a b => exact fun l => (a l).trans (b l)
theorem dsw_lens {u v : List DU} (h : DSw u v) : oldN u = oldN v ∧ newN u = newN v := by
  induction h with
  | refl u => exact ⟨rfl, rfl⟩
  | cons x _ ih => cases x <;> simp [oldN, newN, ih.1, ih.2]
  | swap e u => exact ⟨rfl, rfl⟩
  | symm _ ih => exact ⟨ih.1.symm, ih.2.symm⟩
  | trans _ _ a b => exact ⟨a.1.trans b.1, a.2.trans b.2⟩
theorem dsw_C_As (e : List Elem) (u : List DU) : DSw (.C :: (e.map .A ++ u)) (e.map .A ++ .C :: u) := by
  induction e with
  | nil => exact .refl _
  | cons x e ih => exact .trans (.symm (.swap x _)) (.cons _ ih)
theorem dsw_Cs_As (c : Nat) (e : List Elem) (u : List DU) : DSw (List.replicate c .C ++ (e.map .A ++ u)) (e.map .A ++ (List.replicate c .C ++ u)) := by
  induction c with
  | zero => exact .refl _
  | succ c ih => exact .trans (.cons _ ih) (dsw_C_As e _)
theorem applyU_As (e : List Elem) (u : List DU) (l : List Elem) : applyU (e.map .A ++ u) l = e ++ applyU u l := by
  induction e with
  | nil => rfl
  | cons x e ih => simp [applyU, ih]
def rawD (l : List Elem) (d : List DStep) : List Elem := applyU (exD d) l
end Go.Ch
end
section
set_option linter.unusedVariables false
set_option linter.unusedSimpArgs false
set_option maxRecDepth 100000
set_option maxHeartbeats 4000000
open Go Go.Proofs Go.Ab
namespace Go.Ch
theorem set_fill {α : Type} [Inhabited α] {l : List α} {i n : Nat} {z x : α} (hn : n = l.length) (hi : i < n) (hx : x = l.getD i default) : (l.take i ++ List.replicate (n - i) z).set i x = l.take (i + 1) ++ List.replicate (n - (i + 1)) z := by
  subst hn
  have h1 : (l.take i).length = i := by simp; omega
  rw [List.set_append, if_neg (by omega), h1, Nat.sub_self, show l.length - i = (l.length - (i + 1)) + 1 by omega, List.replicate_succ, List.set_cons_zero, List.take_succ_eq_append_getElem hi, hx, List.append_assoc]
  simp only [List.getD, List.getElem?_eq_getElem hi, Option.getD_some]
  rfl

theorem fc_copy (l : List Elem) (hn : l.length ≤ 1000000000000) (hs : AN 400000000000 l) : FC Try.prog 137 [VL 3 elemT l] (app emp []) (VL 3 elemT l) (app emp []) := by
 refine .go Try.f137 ?_
 refine .len 0 (fun hl0 => ?_)
 refine .loop (α := Nat × (List Elem)) [.r [], .r [(1, X (Xl elemT l)), (2, X (Xmz 3 elemT 24 (l.length : Int) (l.length : Int) ({ char := 0, ref := 0, attrs := [] } : Elem) [TI 0, TI 0, TN] ⟨.inl rfl, ⟨.inl rfl, ⟨tw_nil (by decide), trivial⟩⟩⟩))], .r [(1, X (Xl elemT l))]] 64 (fun (i, o) => ([(3, .row 24 l.length), (9, VL 3 elemT l), (10, VI (l.length : Int)), (11, VI (i : Int))], [(24, OR 3 elemT o)])) (fun (i, o) => i ≤ l.length ∧ o = l.take i ++ List.replicate (l.length - i) ({ char := 0, ref := 0, attrs := [] } : Elem)) (fun (i, o) => l.length - i) (0, (List.replicate l.length ({ char := 0, ref := 0, attrs := [] } : Elem))) ?_ ?_
 ·
  exact ⟨by omega, by simp⟩
 rintro ⟨i, o⟩ I3 ih3
 try dsimp only at I3
 have ol : o.length = l.length := by rw [I3.2]; simp; omega
 refine .br [.r []] (decide ((i : Int) < (l.length : Int))) (fun h3 => ?_) (fun h3 => ?_)
 ·
  (try simp only [decide_eq_true_eq, decide_eq_false_iff_not, Int.not_lt, Int.not_le] at h3)
  have hx := hs _ (getDE_mem (l := l) (k := i) (by omega))
  refine .back [.r [(1, X (Xi elemT l (i : Int)))], .r [(8, X (Xan attrT 184 (((l.getD i default)).attrs))), (10, X (Xpn l.length elemT o (i : Int))), (11, X (rowC attrT (((l.getD i default)).attrs) (Xsn l.length 3 elemT 24 o i ((l.getD i default)) [(184, OF 2 attrT (((l.getD i default)).attrs))])))], .r [(0, X (Xn ((i : Int) + 1)))]] [(24, 24)] (ih3 ((i + 1), (o.set i ((l.getD i default)))) ?_ ?_)
  ·
   refine ⟨by omega, ?_⟩
   rw [I3.2]
   exact set_fill rfl (by omega) rfl
  ·
   ((try dsimp only); omega)
 ·
  (try simp only [decide_eq_true_eq, decide_eq_false_iff_not, Int.not_lt, Int.not_le] at h3)
  have e1 : (l : List Elem) = o := by
   rw [I3.2, List.take_of_length_le (by omega), show l.length - i = 0 by omega]; simp
  exact .finE [.r [], .le (.fr 2 [(l.length : Nat) = (List.map elemT o).length] ⟨lm, trivial⟩)] [] (fun z0 => (VL 3 elemT z0, [])) (o : List Elem) (l : List Elem) e1

def ltr (s : ByteArray) (i : Nat) : Elem := ⟨(byt s i : Int), 0, []⟩
def lettersL (s : ByteArray) : List Elem := (List.range s.size).map (ltr s)

theorem fc_letters (s : ByteArray) (hs : s.size ≤ 1000000000) : FC Try.prog 98 [VS s] (app emp []) (VL 3 elemT (lettersL s)) (app emp []) := by
 refine .go Try.f98 ?_
 refine .loop (α := Nat × (List Elem)) [.r [], .r [], .r [], .le (.nR 3 3)] 41 (fun (i, o) => ([(0, VS s), (3, .row 40 o.length), (6, VI (s.size : Int)), (7, VI (i : Int))], [(40, OR 3 elemT o)])) (fun (i, o) => i ≤ s.size ∧ o = (List.range i).map (ltr s)) (fun (i, o) => s.size - i) (0, []) ?_ ?_
 ·
  exact ⟨by omega, rfl⟩
 rintro ⟨i, o⟩ I3 ih3
 try dsimp only at I3
 have ol : o.length = i := by rw [I3.2]; simp
 refine .br [.r []] (decide ((i : Int) < (s.size : Int))) (fun h3 => ?_) (fun h3 => ?_)
 ·
  (try simp only [decide_eq_true_eq, decide_eq_false_iff_not, Int.not_lt, Int.not_le] at h3)
  refine .back [.r [], .r [(3, X (Xb s (i : Int))), (4, X (Xn ((((s[i]?).getD 0).toNat : Nat) : Int)) (by have := UInt8.toNat_lt ((s[i]?).getD 0); omega)), (5, X (Xf [(2, 2)])), (7, X (rowC elemT [({ char := ((((s[i]?).getD 0).toNat : Nat) : Int), ref := 0, attrs := [] } : Elem)] (Xap 3 elemT 40 o [({ char := ((((s[i]?).getD 0).toNat : Nat) : Int), ref := 0, attrs := [] } : Elem)])))], .r [(0, X (Xn ((i : Int) + 1)))]] [(40, 40)] (ih3 ((i + 1), (o ++ [({ char := ((((s[i]?).getD 0).toNat : Nat) : Int), ref := 0, attrs := [] } : Elem)])) ?_ ?_)
  ·
   refine ⟨by omega, ?_⟩
   rw [I3.2, List.range_succ, List.map_append]
   rfl
  ·
   ((try dsimp only); omega)
 ·
  (try simp only [decide_eq_true_eq, decide_eq_false_iff_not, Int.not_lt, Int.not_le] at h3)
  have e1 : ((lettersL s) : List Elem) = o := by
   rw [I3.2, show i = s.size by omega]; rfl
  exact .finE [.r [], .le (.fr 2 [(o.length : Nat) = (List.map elemT o).length] ⟨lm, trivial⟩)] [] (fun z0 => (VL 3 elemT z0, [])) (o : List Elem) ((lettersL s) : List Elem) e1

theorem fc_on (s : ByteArray) : FC Try.prog 100 [VS s] (app emp []) (VL 2 attrT [({ name := s, val := { data := #[111, 110] } } : Attr)]) (app emp []) := by
 refine .go Try.f100 ?_
 exact .fin [.r [], .r [], .le (.fr 2 [(1 : Nat) = (List.map attrT [({ name := s, val := { data := #[111, 110] } } : Attr)]).length] ⟨lm, trivial⟩)] []
end Go.Ch
end
section
set_option linter.unusedVariables false
set_option linter.unusedSimpArgs false
set_option maxRecDepth 100000
set_option maxHeartbeats 4000000
open Go Go.Proofs Go.Ab
namespace Go.Ch
theorem fc_step (x : DStep) : FC Try.prog 102 [.t (dstepT x)] (app emp []) (VI (stepD x)) (app emp []) := by
 refine .go Try.f102 ?_
 refine .br [.r [], .r [], .r []] (x.kind == 0) (fun h2 => ?_) (fun h2 => ?_)
 ·
  (try simp only [beq_iff_eq, beq_eq_false_iff_ne, ne_eq] at h2)
  refine .br [] (x.kind == 0) (fun h2 => ?_) (fun h2 => ?_)
  ·
   (try simp only [beq_iff_eq, beq_eq_false_iff_ne, ne_eq] at h2)
   refine .br [.r [(2, X (Xl elemT x.elems)), (6, Xv 1 (!(decide ((x.elems.length : Int) > 0))) X0), (7, Xv 1 (!(decide ((x.elems.length : Int) > 0))) X0), (8, Xv 1 (!(decide ((x.elems.length : Int) > 0))) X0), (10, Xv 1 ((!(decide ((x.elems.length : Int) > 0))) && (x.kind == 2)) X0), (11, Xv 1 ((!(decide ((x.elems.length : Int) > 0))) && (x.kind == 2)) (Xl attrT x.attrs)), (12, Xv 1 ((!(decide ((x.elems.length : Int) > 0))) && (x.kind == 2)) X0), (13, Xka (!(decide ((x.elems.length : Int) > 0))) (x.kind == 2)), (14, X (Xk' (decide ((x.elems.length : Int) > 0))))]] (decide ((x.elems.length : Int) > 0) || ((x.kind == 2) && decide ((x.attrs.length : Int) > 0))) (fun h4 => ?_) (fun h4 => ?_)
   ·
    (try simp only [decide_eq_true_eq, decide_eq_false_iff_not, Int.not_lt, Int.not_le, gt_iff_lt, Bool.and_eq_true, Bool.and_eq_false_iff, Bool.not_eq_true', Bool.not_eq_false', Bool.or_eq_true, Bool.or_eq_false_iff, beq_iff_eq, beq_eq_false_iff_ne, ne_eq] at h4)
    have e1 : ((stepD x) : Int) = 4 := by
     unfold stepD; ((repeat' split) <;> first | rfl | omega | (simp_all; done) | (simp_all; omega))
    exact .finE [.r []] [] (fun z0 => (VI z0, [])) (4 : Int) ((stepD x) : Int) e1
   ·
    (try simp only [decide_eq_true_eq, decide_eq_false_iff_not, Int.not_lt, Int.not_le, gt_iff_lt, Bool.and_eq_true, Bool.and_eq_false_iff, Bool.not_eq_true', Bool.not_eq_false', Bool.or_eq_true, Bool.or_eq_false_iff, beq_iff_eq, beq_eq_false_iff_ne, ne_eq] at h4)
    refine .br [.r [(5, Xv 1 (!(decide (x.n < 1))) X0), (6, Xv 1 (!(decide (x.n < 1))) X0), (7, X (Xk' (decide (x.n < 1))))]] (decide (x.n < 1) || decide (x.n > 2147483647)) (fun h6 => ?_) (fun h6 => ?_)
    ·
     (try simp only [decide_eq_true_eq, decide_eq_false_iff_not, Int.not_lt, Int.not_le, gt_iff_lt, Bool.or_eq_true, Bool.or_eq_false_iff] at h6)
     have e2 : ((stepD x) : Int) = 2 := by
      unfold stepD; ((repeat' split) <;> first | rfl | omega | (simp_all; done) | (simp_all; omega))
     exact .finE [.r []] [] (fun z0 => (VI z0, [])) (2 : Int) ((stepD x) : Int) e2
    ·
     (try simp only [decide_eq_true_eq, decide_eq_false_iff_not, Int.not_lt, Int.not_le, gt_iff_lt, Bool.or_eq_true, Bool.or_eq_false_iff] at h6)
     have e3 : ((stepD x) : Int) = (chkA true x.attrs 0) := by
      unfold stepD; ((repeat' split) <;> first | rfl | omega | (simp_all; done) | (simp_all; omega))
     exact .finE [.r [(2, X (Xc0 (fc_acheckChange x.attrs) X0))]] [] (fun z0 => (VI z0, [])) ((chkA true x.attrs 0) : Int) ((stepD x) : Int) e3
  ·
   (try simp only [beq_iff_eq, beq_eq_false_iff_ne, ne_eq] at h2)
   refine .br [.r []] (x.kind == 1) (fun h9 => ?_) (fun h9 => ?_)
   ·
    (try simp only [beq_iff_eq, beq_eq_false_iff_ne, ne_eq] at h9)
    refine .br [.r [(5, Xv 1 (!(x.n != 0)) X0), (6, Xv 1 (!(x.n != 0)) (Xl attrT x.attrs)), (7, Xv 1 (!(x.n != 0)) X0), (8, X (Xk' (x.n != 0)))]] ((x.n != 0) || decide ((x.attrs.length : Int) > 0)) (fun h10 => ?_) (fun h10 => ?_)
    ·
     (try simp only [decide_eq_true_eq, decide_eq_false_iff_not, Int.not_lt, Int.not_le, gt_iff_lt, Bool.or_eq_true, Bool.or_eq_false_iff, bne_iff_ne, bne_eq_false_iff_eq, ne_eq] at h10)
     have e4 : ((stepD x) : Int) = 4 := by
      unfold stepD; ((repeat' split) <;> first | rfl | omega | (simp_all; done) | (simp_all; omega))
     exact .finE [.r []] [] (fun z0 => (VI z0, [])) (4 : Int) ((stepD x) : Int) e4
    ·
     (try simp only [decide_eq_true_eq, decide_eq_false_iff_not, Int.not_lt, Int.not_le, gt_iff_lt, Bool.or_eq_true, Bool.or_eq_false_iff, bne_iff_ne, bne_eq_false_iff_eq, ne_eq] at h10)
     refine .br [.r [(2, X (Xl elemT x.elems))]] ((x.elems.length : Int) == 0) (fun h12 => ?_) (fun h12 => ?_)
     ·
      (try simp only [beq_iff_eq, beq_eq_false_iff_ne, ne_eq] at h12)
      have e5 : ((stepD x) : Int) = 11 := by
       unfold stepD; ((repeat' split) <;> first | rfl | omega | (simp_all; done) | (simp_all; omega))
      exact .finE [.r []] [] (fun z0 => (VI z0, [])) (11 : Int) ((stepD x) : Int) e5
     ·
      (try simp only [beq_iff_eq, beq_eq_false_iff_ne, ne_eq] at h12)
      have e6 : ((stepD x) : Int) = (partE x.elems 0) := by
       unfold stepD; ((repeat' split) <;> first | rfl | omega | (simp_all; done) | (simp_all; omega))
      exact .finE [.r [(2, X (Xc0 (fc_checkPart x.elems) X0))]] [] (fun z0 => (VI z0, [])) ((partE x.elems 0) : Int) ((stepD x) : Int) e6
   ·
    (try simp only [beq_iff_eq, beq_eq_false_iff_ne, ne_eq] at h9)
    have e7 : ((stepD x) : Int) = 8 := by
     unfold stepD; ((repeat' split) <;> first | rfl | omega | (simp_all; done) | (simp_all; omega))
    exact .finE [.r []] [] (fun z0 => (VI z0, [])) (8 : Int) ((stepD x) : Int) e7
 ·
  (try simp only [beq_iff_eq, beq_eq_false_iff_ne, ne_eq] at h2)
  refine .br [.r []] (x.kind == 2) (fun h3 => ?_) (fun h3 => ?_)
  ·
   (try simp only [beq_iff_eq, beq_eq_false_iff_ne, ne_eq] at h3)
   refine .br [.r [(2, X (Xl elemT x.elems)), (6, Xv 1 (!(decide ((x.elems.length : Int) > 0))) X0), (7, Xv 1 (!(decide ((x.elems.length : Int) > 0))) X0), (8, Xv 1 (!(decide ((x.elems.length : Int) > 0))) X0), (10, Xv 1 ((!(decide ((x.elems.length : Int) > 0))) && (x.kind == 2)) X0), (11, Xv 1 ((!(decide ((x.elems.length : Int) > 0))) && (x.kind == 2)) (Xl attrT x.attrs)), (12, Xv 1 ((!(decide ((x.elems.length : Int) > 0))) && (x.kind == 2)) X0), (13, Xka (!(decide ((x.elems.length : Int) > 0))) (x.kind == 2)), (14, X (Xk' (decide ((x.elems.length : Int) > 0))))]] (decide ((x.elems.length : Int) > 0) || ((x.kind == 2) && decide ((x.attrs.length : Int) > 0))) (fun h4 => ?_) (fun h4 => ?_)
   ·
    (try simp only [decide_eq_true_eq, decide_eq_false_iff_not, Int.not_lt, Int.not_le, gt_iff_lt, Bool.and_eq_true, Bool.and_eq_false_iff, Bool.not_eq_true', Bool.not_eq_false', Bool.or_eq_true, Bool.or_eq_false_iff, beq_iff_eq, beq_eq_false_iff_ne, ne_eq] at h4)
    have e8 : ((stepD x) : Int) = 4 := by
     unfold stepD; ((repeat' split) <;> first | rfl | omega | (simp_all; done) | (simp_all; omega))
    exact .finE [.r []] [] (fun z0 => (VI z0, [])) (4 : Int) ((stepD x) : Int) e8
   ·
    (try simp only [decide_eq_true_eq, decide_eq_false_iff_not, Int.not_lt, Int.not_le, gt_iff_lt, Bool.and_eq_true, Bool.and_eq_false_iff, Bool.not_eq_true', Bool.not_eq_false', Bool.or_eq_true, Bool.or_eq_false_iff, beq_iff_eq, beq_eq_false_iff_ne, ne_eq] at h4)
    refine .br [.r [(5, Xv 1 (!(decide (x.n < 1))) X0), (6, Xv 1 (!(decide (x.n < 1))) X0), (7, X (Xk' (decide (x.n < 1))))]] (decide (x.n < 1) || decide (x.n > 2147483647)) (fun h6 => ?_) (fun h6 => ?_)
    ·
     (try simp only [decide_eq_true_eq, decide_eq_false_iff_not, Int.not_lt, Int.not_le, gt_iff_lt, Bool.or_eq_true, Bool.or_eq_false_iff] at h6)
     have e9 : ((stepD x) : Int) = 2 := by
      unfold stepD; ((repeat' split) <;> first | rfl | omega | (simp_all; done) | (simp_all; omega))
     exact .finE [.r []] [] (fun z0 => (VI z0, [])) (2 : Int) ((stepD x) : Int) e9
    ·
     (try simp only [decide_eq_true_eq, decide_eq_false_iff_not, Int.not_lt, Int.not_le, gt_iff_lt, Bool.or_eq_true, Bool.or_eq_false_iff] at h6)
     have e10 : ((stepD x) : Int) = (chkA true x.attrs 0) := by
      unfold stepD; ((repeat' split) <;> first | rfl | omega | (simp_all; done) | (simp_all; omega))
     exact .finE [.r [(2, X (Xc0 (fc_acheckChange x.attrs) X0))]] [] (fun z0 => (VI z0, [])) ((chkA true x.attrs 0) : Int) ((stepD x) : Int) e10
  ·
   (try simp only [beq_iff_eq, beq_eq_false_iff_ne, ne_eq] at h3)
   refine .br [.r []] (x.kind == 1) (fun h9 => ?_) (fun h9 => ?_)
   ·
    (try simp only [beq_iff_eq, beq_eq_false_iff_ne, ne_eq] at h9)
    refine .br [.r [(5, Xv 1 (!(x.n != 0)) X0), (6, Xv 1 (!(x.n != 0)) (Xl attrT x.attrs)), (7, Xv 1 (!(x.n != 0)) X0), (8, X (Xk' (x.n != 0)))]] ((x.n != 0) || decide ((x.attrs.length : Int) > 0)) (fun h10 => ?_) (fun h10 => ?_)
    ·
     (try simp only [decide_eq_true_eq, decide_eq_false_iff_not, Int.not_lt, Int.not_le, gt_iff_lt, Bool.or_eq_true, Bool.or_eq_false_iff, bne_iff_ne, bne_eq_false_iff_eq, ne_eq] at h10)
     have e11 : ((stepD x) : Int) = 4 := by
      unfold stepD; ((repeat' split) <;> first | rfl | omega | (simp_all; done) | (simp_all; omega))
     exact .finE [.r []] [] (fun z0 => (VI z0, [])) (4 : Int) ((stepD x) : Int) e11
    ·
     (try simp only [decide_eq_true_eq, decide_eq_false_iff_not, Int.not_lt, Int.not_le, gt_iff_lt, Bool.or_eq_true, Bool.or_eq_false_iff, bne_iff_ne, bne_eq_false_iff_eq, ne_eq] at h10)
     refine .br [.r [(2, X (Xl elemT x.elems))]] ((x.elems.length : Int) == 0) (fun h12 => ?_) (fun h12 => ?_)
     ·
      (try simp only [beq_iff_eq, beq_eq_false_iff_ne, ne_eq] at h12)
      have e12 : ((stepD x) : Int) = 11 := by
       unfold stepD; ((repeat' split) <;> first | rfl | omega | (simp_all; done) | (simp_all; omega))
      exact .finE [.r []] [] (fun z0 => (VI z0, [])) (11 : Int) ((stepD x) : Int) e12
     ·
      (try simp only [beq_iff_eq, beq_eq_false_iff_ne, ne_eq] at h12)
      have e13 : ((stepD x) : Int) = (partE x.elems 0) := by
       unfold stepD; ((repeat' split) <;> first | rfl | omega | (simp_all; done) | (simp_all; omega))
      exact .finE [.r [(2, X (Xc0 (fc_checkPart x.elems) X0))]] [] (fun z0 => (VI z0, [])) ((partE x.elems 0) : Int) ((stepD x) : Int) e13
   ·
    (try simp only [beq_iff_eq, beq_eq_false_iff_ne, ne_eq] at h9)
    have e14 : ((stepD x) : Int) = 8 := by
     unfold stepD; ((repeat' split) <;> first | rfl | omega | (simp_all; done) | (simp_all; omega))
    exact .finE [.r []] [] (fun z0 => (VI z0, [])) (8 : Int) ((stepD x) : Int) e14

theorem fc_size (x : DStep) : FC Try.prog 125 [.t (dstepT x)] (app emp []) (VI (szD x)) (app emp []) := by
 refine .go Try.f125 ?_
 refine .br [.r [], .r []] (x.kind == 1) (fun h1 => ?_) (fun h1 => ?_)
 ·
  (try simp only [beq_iff_eq, beq_eq_false_iff_ne, ne_eq] at h1)
  have e1 : ((szD x) : Int) = (x.elems.length : Int) := by
   unfold szD; ((repeat' split) <;> first | rfl | omega | (simp_all; done) | (simp_all; omega))
  exact .finE [.r [(2, X (Xl elemT x.elems))]] [] (fun z0 => (VI z0, [])) ((x.elems.length : Int) : Int) ((szD x) : Int) e1
 ·
  (try simp only [beq_iff_eq, beq_eq_false_iff_ne, ne_eq] at h1)
  have e2 : ((szD x) : Int) = x.n := by
   unfold szD; ((repeat' split) <;> first | rfl | omega | (simp_all; done) | (simp_all; omega))
  exact .finE [.r []] [] (fun z0 => (VI z0, [])) (x.n : Int) ((szD x) : Int) e2

theorem fc_dCheck (l : List DStep) (hd : DN 400000000000 l) : FC Try.prog 109 [VL 4 dstepT l] (app emp []) (VI (checkD l)) (app emp []) := by
 refine .go Try.f109 ?_
 refine .len 0 (fun hl0 => ?_)
 refine .loop (α := Int × Int × Nat) [.r [], .r [], .r [(1, X (Xl dstepT l))]] 48 (fun (b, a, i) => ([(0, VL 4 dstepT l), (3, VI b), (4, VI a), (9, VL 4 dstepT l), (10, VI (l.length : Int)), (11, VI (i : Int))], [])) (fun (b, a, i) => i ≤ l.length ∧ 0 ≤ b ∧ b ≤ 2147483648 ∧ 0 ≤ a ∧ a ≤ 2147483648 ∧ checkD l = chkD l i b a) (fun (b, a, i) => l.length - i) (0, 0, 0) ?_ ?_
 ·
  exact ⟨by omega, by decide, by decide, by decide, by decide, rfl⟩
 rintro ⟨b, a, i⟩ I3 ih3
 try dsimp only at I3
 refine .br [.r []] (decide ((i : Int) < (l.length : Int))) (fun h3 => ?_) (fun h3 => ?_)
 ·
  (try simp only [decide_eq_true_eq, decide_eq_false_iff_not, Int.not_lt, Int.not_le] at h3)
  refine .br [.r [(1, X (Xi dstepT l (i : Int)))], .r [(1, X (Xc0 (fc_step ((l.getD i default))) X0))], .r []] ((stepD ((l.getD i default))) != 0) (fun h6 => ?_) (fun h6 => ?_)
  ·
   (try simp only [bne_iff_ne, bne_eq_false_iff_eq, ne_eq] at h6)
   have e1 : ((checkD l) : Int) = (stepD ((l.getD i default))) := by
    rw [I3.2.2.2.2.2, chkD]; ((repeat' split) <;> first | rfl | omega | (simp_all; done) | (simp_all; omega))
   exact .finE [.r []] [] (fun z0 => (VI z0, [])) ((stepD ((l.getD i default))) : Int) ((checkD l) : Int) e1
  ·
   (try simp only [bne_iff_ne, bne_eq_false_iff_eq, ne_eq] at h6)
   have hz := stepD_sz (s := l.getD i default) (by omega)
   obtain ⟨hx, _, _⟩ := hd.at_ (k := i) (by omega)
   refine .br [.r []] (decide ((i : Int) > 0)) (fun h8 => ?_) (fun h8 => ?_)
   ·
    (try simp only [decide_eq_true_eq, decide_eq_false_iff_not, Int.not_lt, Int.not_le, gt_iff_lt] at h8)
    refine .br [.r [(2, X (Xn ((i : Int) - 1))), (3, X (Xi' dstepT l ((i : Int) - 1) (i - 1)))], .r [(7, Xv 1 ((((l.getD (i - 1) default)).kind) == (((l.getD i default)).kind)) X0), (8, Xv 1 ((((l.getD (i - 1) default)).kind) == (((l.getD i default)).kind)) X0), (9, Xv 1 ((((l.getD (i - 1) default)).kind) == (((l.getD i default)).kind)) X0), (11, Xv 1 (((((l.getD (i - 1) default)).kind) == (((l.getD i default)).kind)) && !((((l.getD i default)).kind) != 0)) X0), (13, Xv 1 (((((l.getD (i - 1) default)).kind) == (((l.getD i default)).kind)) && !((((l.getD i default)).kind) != 0)) X0), (14, Xv 2 (((((l.getD (i - 1) default)).kind) == (((l.getD i default)).kind)) && !((((l.getD i default)).kind) != 0)) (Xc0 (fc_attrSame (((l.getD (i - 1) default)).attrs) (((l.getD i default)).attrs)) X0)), (15, Xko ((((l.getD (i - 1) default)).kind) == (((l.getD i default)).kind)) ((((l.getD i default)).kind) != 0)), (16, X (Xk ((((l.getD (i - 1) default)).kind) == (((l.getD i default)).kind)))), (19, Xv 1 (!(((((l.getD (i - 1) default)).kind) == (((l.getD i default)).kind)) && (((((l.getD i default)).kind) != 0) || (sameL (((l.getD (i - 1) default)).attrs) (((l.getD i default)).attrs))))) X0), (20, Xv 1 (!(((((l.getD (i - 1) default)).kind) == (((l.getD i default)).kind)) && (((((l.getD i default)).kind) != 0) || (sameL (((l.getD (i - 1) default)).attrs) (((l.getD i default)).attrs))))) X0), (21, Xv 1 (!(((((l.getD (i - 1) default)).kind) == (((l.getD i default)).kind)) && (((((l.getD i default)).kind) != 0) || (sameL (((l.getD (i - 1) default)).attrs) (((l.getD i default)).attrs))))) X0), (23, Xv 1 ((!(((((l.getD (i - 1) default)).kind) == (((l.getD i default)).kind)) && (((((l.getD i default)).kind) != 0) || (sameL (((l.getD (i - 1) default)).attrs) (((l.getD i default)).attrs))))) && ((((l.getD (i - 1) default)).kind) == 2)) X0), (24, Xv 1 ((!(((((l.getD (i - 1) default)).kind) == (((l.getD i default)).kind)) && (((((l.getD i default)).kind) != 0) || (sameL (((l.getD (i - 1) default)).attrs) (((l.getD i default)).attrs))))) && ((((l.getD (i - 1) default)).kind) == 2)) X0), (25, Xka (!(((((l.getD (i - 1) default)).kind) == (((l.getD i default)).kind)) && (((((l.getD i default)).kind) != 0) || (sameL (((l.getD (i - 1) default)).attrs) (((l.getD i default)).attrs))))) ((((l.getD (i - 1) default)).kind) == 2)), (26, X (Xk' (((((l.getD (i - 1) default)).kind) == (((l.getD i default)).kind)) && (((((l.getD i default)).kind) != 0) || (sameL (((l.getD (i - 1) default)).attrs) (((l.getD i default)).attrs))))))]] ((((((l.getD (i - 1) default)).kind) == (((l.getD i default)).kind)) && (((((l.getD i default)).kind) != 0) || (sameL (((l.getD (i - 1) default)).attrs) (((l.getD i default)).attrs)))) || (((((l.getD (i - 1) default)).kind) == 2) && ((((l.getD i default)).kind) == 1))) (fun h10 => ?_) (fun h10 => ?_)
    ·
     (try simp only [Bool.and_eq_true, Bool.and_eq_false_iff, Bool.not_eq_true', Bool.not_eq_false', Bool.or_eq_true, Bool.or_eq_false_iff, beq_iff_eq, beq_eq_false_iff_ne, ne_eq, bne_iff_ne, bne_eq_false_iff_eq] at h10)
     have e2 : ((checkD l) : Int) = 5 := by
      rw [I3.2.2.2.2.2, chkD, if_pos (by omega), if_neg (by omega), if_pos ⟨by omega, adjD_yes.2 h10⟩]
     exact .finE [.r []] [] (fun z0 => (VI z0, [])) (5 : Int) ((checkD l) : Int) e2
    ·
     (try simp only [Bool.and_eq_true, Bool.and_eq_false_iff, Bool.not_eq_true', Bool.not_eq_false', Bool.or_eq_true, Bool.or_eq_false_iff, beq_iff_eq, beq_eq_false_iff_ne, ne_eq, bne_iff_ne, bne_eq_false_iff_eq] at h10)
     refine .br [.r []] ((((l.getD i default)).kind) != 1) (fun h12 => ?_) (fun h12 => ?_)
     ·
      (try simp only [bne_iff_ne, bne_eq_false_iff_eq, ne_eq] at h12)
      refine .br [.r [(3, X (Xn (b + (((l.getD i default)).n)))), (4, X (Xmin (b + (((l.getD i default)).n)) 2147483648))], .r []] ((((l.getD i default)).kind) != 2) (fun h14 => ?_) (fun h14 => ?_)
      ·
       (try simp only [bne_iff_ne, bne_eq_false_iff_eq, ne_eq] at h14)
       refine .at 528 [(80, 80)] ([(0, VL 4 dstepT l), (3, VI (min (b + (((l.getD i default)).n)) 2147483648)), (4, VI a), (6, .ptr 80 0), (9, VL 4 dstepT l), (10, VI (l.length : Int)), (11, VI (i : Int)), (65, VB ((((l.getD i default)).kind) != 2))], [(80, .box [VI (((l.getD i default)).kind), VI (((l.getD i default)).n), VL 2 attrT (((l.getD i default)).attrs), VL 3 elemT (((l.getD i default)).elems)])]) ?_
       refine .back [.r [(2, X (Xc0 (fc_size ((l.getD i default))) X0)), (3, X (Xn (a + (szD ((l.getD i default)))))), (4, X (Xmin (a + (szD ((l.getD i default)))) 2147483648))], .r [(0, X (Xn ((i : Int) + 1)))]] [] (ih3 ((min (b + (((l.getD i default)).n)) 2147483648), (min (a + (szD ((l.getD i default)))) 2147483648), (i + 1)) ?_ ?_)
       ·
        refine ⟨by omega, by omega, by omega, by omega, by omega, ?_⟩
        rw [I3.2.2.2.2.2, chkD, if_pos (by omega), if_neg (by omega), if_neg (by first | omega | exact fun hh => adjD_no h10 hh.2)]
        ((repeat' split) <;> first | rfl | omega | (simp_all; done) | (simp_all; omega))
       ·
        ((try dsimp only); omega)
      ·
       (try simp only [bne_iff_ne, bne_eq_false_iff_eq, ne_eq] at h14)
       refine .at 528 [(80, 80)] ([(0, VL 4 dstepT l), (3, VI (min (b + (((l.getD i default)).n)) 2147483648)), (4, VI a), (6, .ptr 80 0), (9, VL 4 dstepT l), (10, VI (l.length : Int)), (11, VI (i : Int)), (65, VB ((((l.getD i default)).kind) != 2))], [(80, .box [VI (((l.getD i default)).kind), VI (((l.getD i default)).n), VL 2 attrT (((l.getD i default)).attrs), VL 3 elemT (((l.getD i default)).elems)])]) ?_
       refine .back [.r [(0, X (Xn ((i : Int) + 1)))]] [] (ih3 ((min (b + (((l.getD i default)).n)) 2147483648), a, (i + 1)) ?_ ?_)
       ·
        refine ⟨by omega, by omega, by omega, by omega, by omega, ?_⟩
        rw [I3.2.2.2.2.2, chkD, if_pos (by omega), if_neg (by omega), if_neg (by first | omega | exact fun hh => adjD_no h10 hh.2)]
        ((repeat' split) <;> first | rfl | omega | (simp_all; done) | (simp_all; omega))
       ·
        ((try dsimp only); omega)
     ·
      (try simp only [bne_iff_ne, bne_eq_false_iff_eq, ne_eq] at h12)
      refine .br [.r []] ((((l.getD i default)).kind) != 2) (fun h14 => ?_) (fun h14 => ?_)
      ·
       (try simp only [bne_iff_ne, bne_eq_false_iff_eq, ne_eq] at h14)
       refine .at 480 [(80, 80)] ([(0, VL 4 dstepT l), (3, VI b), (4, VI a), (6, .ptr 80 0), (9, VL 4 dstepT l), (10, VI (l.length : Int)), (11, VI (i : Int)), (65, VB ((((l.getD i default)).kind) != 2))], [(80, .box [VI (((l.getD i default)).kind), VI (((l.getD i default)).n), VL 2 attrT (((l.getD i default)).attrs), VL 3 elemT (((l.getD i default)).elems)])]) ?_
       refine .back [.r [(2, X (Xc0 (fc_size ((l.getD i default))) X0)), (3, X (Xn (a + (szD ((l.getD i default)))))), (4, X (Xmin (a + (szD ((l.getD i default)))) 2147483648))], .r [(0, X (Xn ((i : Int) + 1)))]] [] (ih3 (b, (min (a + (szD ((l.getD i default)))) 2147483648), (i + 1)) ?_ ?_)
       ·
        refine ⟨by omega, by omega, by omega, by omega, by omega, ?_⟩
        rw [I3.2.2.2.2.2, chkD, if_pos (by omega), if_neg (by omega), if_neg (by first | omega | exact fun hh => adjD_no h10 hh.2)]
        ((repeat' split) <;> first | rfl | omega | (simp_all; done) | (simp_all; omega))
       ·
        ((try dsimp only); omega)
      ·
       (try simp only [bne_iff_ne, bne_eq_false_iff_eq, ne_eq] at h14)
       refine .at 480 [(80, 80)] ([(0, VL 4 dstepT l), (3, VI b), (4, VI a), (6, .ptr 80 0), (9, VL 4 dstepT l), (10, VI (l.length : Int)), (11, VI (i : Int)), (65, VB ((((l.getD i default)).kind) != 2))], [(80, .box [VI (((l.getD i default)).kind), VI (((l.getD i default)).n), VL 2 attrT (((l.getD i default)).attrs), VL 3 elemT (((l.getD i default)).elems)])]) ?_
       refine .back [.r [(0, X (Xn ((i : Int) + 1)))]] [] (ih3 (b, a, (i + 1)) ?_ ?_)
       ·
        refine ⟨by omega, by omega, by omega, by omega, by omega, ?_⟩
        rw [I3.2.2.2.2.2, chkD, if_pos (by omega), if_neg (by omega), if_neg (by first | omega | exact fun hh => adjD_no h10 hh.2)]
        ((repeat' split) <;> first | rfl | omega | (simp_all; done) | (simp_all; omega))
       ·
        ((try dsimp only); omega)
   ·
    (try simp only [decide_eq_true_eq, decide_eq_false_iff_not, Int.not_lt, Int.not_le, gt_iff_lt] at h8)
    refine .br [.r []] ((((l.getD i default)).kind) != 1) (fun h12 => ?_) (fun h12 => ?_)
    ·
     (try simp only [bne_iff_ne, bne_eq_false_iff_eq, ne_eq] at h12)
     refine .br [.r [(3, X (Xn (b + (((l.getD i default)).n)))), (4, X (Xmin (b + (((l.getD i default)).n)) 2147483648))], .r []] ((((l.getD i default)).kind) != 2) (fun h14 => ?_) (fun h14 => ?_)
     ·
      (try simp only [bne_iff_ne, bne_eq_false_iff_eq, ne_eq] at h14)
      refine .back [.r [(2, X (Xc0 (fc_size ((l.getD i default))) X0)), (3, X (Xn (a + (szD ((l.getD i default)))))), (4, X (Xmin (a + (szD ((l.getD i default)))) 2147483648))], .r [(0, X (Xn ((i : Int) + 1)))]] [] (ih3 ((min (b + (((l.getD i default)).n)) 2147483648), (min (a + (szD ((l.getD i default)))) 2147483648), (i + 1)) ?_ ?_)
      ·
       refine ⟨by omega, by omega, by omega, by omega, by omega, ?_⟩
       rw [I3.2.2.2.2.2, chkD, if_pos (by omega), if_neg (by omega), if_neg (by first | omega | exact fun hh => adjD_no h10 hh.2)]
       ((repeat' split) <;> first | rfl | omega | (simp_all; done) | (simp_all; omega))
      ·
       ((try dsimp only); omega)
     ·
      (try simp only [bne_iff_ne, bne_eq_false_iff_eq, ne_eq] at h14)
      refine .back [.r [(0, X (Xn ((i : Int) + 1)))]] [] (ih3 ((min (b + (((l.getD i default)).n)) 2147483648), a, (i + 1)) ?_ ?_)
      ·
       refine ⟨by omega, by omega, by omega, by omega, by omega, ?_⟩
       rw [I3.2.2.2.2.2, chkD, if_pos (by omega), if_neg (by omega), if_neg (by first | omega | exact fun hh => adjD_no h10 hh.2)]
       ((repeat' split) <;> first | rfl | omega | (simp_all; done) | (simp_all; omega))
      ·
       ((try dsimp only); omega)
    ·
     (try simp only [bne_iff_ne, bne_eq_false_iff_eq, ne_eq] at h12)
     refine .br [.r []] ((((l.getD i default)).kind) != 2) (fun h14 => ?_) (fun h14 => ?_)
     ·
      (try simp only [bne_iff_ne, bne_eq_false_iff_eq, ne_eq] at h14)
      refine .back [.r [(2, X (Xc0 (fc_size ((l.getD i default))) X0)), (3, X (Xn (a + (szD ((l.getD i default)))))), (4, X (Xmin (a + (szD ((l.getD i default)))) 2147483648))], .r [(0, X (Xn ((i : Int) + 1)))]] [] (ih3 (b, (min (a + (szD ((l.getD i default)))) 2147483648), (i + 1)) ?_ ?_)
      ·
       refine ⟨by omega, by omega, by omega, by omega, by omega, ?_⟩
       rw [I3.2.2.2.2.2, chkD, if_pos (by omega), if_neg (by omega), if_neg (by first | omega | exact fun hh => adjD_no h10 hh.2)]
       ((repeat' split) <;> first | rfl | omega | (simp_all; done) | (simp_all; omega))
      ·
       ((try dsimp only); omega)
     ·
      (try simp only [bne_iff_ne, bne_eq_false_iff_eq, ne_eq] at h14)
      refine .back [.r [(0, X (Xn ((i : Int) + 1)))]] [] (ih3 (b, a, (i + 1)) ?_ ?_)
      ·
       refine ⟨by omega, by omega, by omega, by omega, by omega, ?_⟩
       rw [I3.2.2.2.2.2, chkD, if_pos (by omega), if_neg (by omega), if_neg (by first | omega | exact fun hh => adjD_no h10 hh.2)]
       ((repeat' split) <;> first | rfl | omega | (simp_all; done) | (simp_all; omega))
      ·
       ((try dsimp only); omega)
 ·
  (try simp only [decide_eq_true_eq, decide_eq_false_iff_not, Int.not_lt, Int.not_le] at h3)
  refine .br [.r [(4, Xv 1 (!(decide (b > 2147483647))) X0), (5, X (Xk' (decide (b > 2147483647))))]] (decide (b > 2147483647) || decide (a > 2147483647)) (fun h17 => ?_) (fun h17 => ?_)
  ·
   (try simp only [decide_eq_true_eq, decide_eq_false_iff_not, Int.not_lt, Int.not_le, gt_iff_lt, Bool.or_eq_true, Bool.or_eq_false_iff] at h17)
   have e3 : ((checkD l) : Int) = 3 := by
    rw [I3.2.2.2.2.2, chkD]; ((repeat' split) <;> first | rfl | omega | (simp_all; done) | (simp_all; omega))
   exact .finE [.r []] [] (fun z0 => (VI z0, [])) (3 : Int) ((checkD l) : Int) e3
  ·
   (try simp only [decide_eq_true_eq, decide_eq_false_iff_not, Int.not_lt, Int.not_le, gt_iff_lt, Bool.or_eq_true, Bool.or_eq_false_iff] at h17)
   have e4 : ((checkD l) : Int) = 0 := by
    rw [I3.2.2.2.2.2, chkD]; ((repeat' split) <;> first | rfl | omega | (simp_all; done) | (simp_all; omega))
   exact .finE [.r []] [] (fun z0 => (VI z0, [])) (0 : Int) ((checkD l) : Int) e4

end Go.Ch
end
section
set_option linter.unusedVariables false
set_option linter.unusedSimpArgs false
set_option maxRecDepth 100000
set_option maxHeartbeats 4000000
open Go Go.Proofs Go.Ab
namespace Go.Ch
def DSz (l : List DStep) : Prop := ∀ s ∈ l, Szd s.attrs ∧ SzE s.elems
theorem DSz.at_ {l : List DStep} (h : DSz l) {k : Nat} (hk : k < l.length) : Szd (l.getD k default).attrs ∧ SzE (l.getD k default).elems := by
  refine h _ ?_
  rw [show l.getD k default = l[k] by simp [List.getD, List.getElem?_eq_getElem hk]]
  exact List.getElem_mem hk

end Go.Ch
end
section
set_option linter.unusedVariables false
set_option linter.unusedSimpArgs false
set_option maxRecDepth 100000
set_option maxHeartbeats 4000000
open Go Go.Proofs Go.Ab
namespace Go.Ch
end Go.Ch
end
section
set_option linter.unusedVariables false
set_option linter.unusedSimpArgs false
namespace Go.Ch
open Go Go.Ab

structure DWr where
  out : List DStep
  add : List Elem
  cut : Int
def flushD (w : DWr) : List DStep := w.out ++ (if 0 < w.add.length then [⟨1, 0, [], w.add⟩] else []) ++ (if 0 < w.cut then [⟨2, w.cut, [], []⟩] else [])
def keepD (l : List DStep) (n : Int) (c : List Attr) : List DStep :=
  if 0 < l.length ∧ (l.getD (l.length - 1) default).kind = 0 ∧ sameL (l.getD (l.length - 1) default).attrs c = true then
    l.set (l.length - 1) ⟨(l.getD (l.length - 1) default).kind, (l.getD (l.length - 1) default).n + n, (l.getD (l.length - 1) default).attrs, (l.getD (l.length - 1) default).elems⟩
  else l ++ [⟨0, n, c, []⟩]
theorem flushD_len (w : DWr) : (flushD w).length ≤ w.out.length + 2 := by
  unfold flushD; simp only [List.length_append]; split <;> split <;> simp
theorem keepD_len (l : List DStep) (n : Int) (c : List Attr) : (keepD l n c).length ≤ l.length + 1 := by
  unfold keepD; split <;> simp
/-- A step without the bound on its count. -/
def DOkW (s : DStep) : Prop :=
  (s.kind = 1 ∧ s.n = 0 ∧ s.attrs = [] ∧ s.elems ≠ [] ∧ ∀ x ∈ s.elems, elemE x = 0) ∨
  ((s.kind = 0 ∨ s.kind = 2) ∧ s.elems = [] ∧ (s.kind = 2 → s.attrs = []) ∧ 1 ≤ s.n ∧ VG true s.attrs)
def AdjOk : List DStep → Prop
  | [] => True
  | [_] => True
  | s :: t :: l => adjD s t = false ∧ AdjOk (t :: l)
theorem adj_snoc : ∀ {l : List DStep} {s : DStep}, AdjOk l → (∀ t, l.getLast? = some t → adjD t s = false) → AdjOk (l ++ [s])
  | [], s, _, _ => trivial
  | [x], s, _, h => ⟨h x rfl, trivial⟩
  | x :: y :: l, s, hf, h => ⟨hf.1, adj_snoc (l := y :: l) hf.2 (fun t ht => h t (by simpa [List.getLast?_cons_cons] using ht))⟩
theorem adjD_eq' {w x x' : DStep} (k : x'.kind = x.kind) (a : x'.attrs = x.attrs) : adjD w x' = adjD w x := by unfold adjD; rw [k, a]
theorem adj_last : ∀ {l : List DStep} {s s' : DStep}, AdjOk (l ++ [s]) → s'.kind = s.kind → s'.attrs = s.attrs → AdjOk (l ++ [s'])
  | [], s, s', _, _, _ => trivial
  | [x], s, s', h, k, a => ⟨by rw [adjD_eq' k a]; exact h.1, trivial⟩
  | x :: y :: l, s, s', h, k, a => ⟨h.1, adj_last (l := y :: l) h.2 k a⟩
theorem dform_of : ∀ {l : List DStep}, (∀ s ∈ l, DOk s) → AdjOk l → DForm l
  | [], _, _ => trivial
  | [s], h, _ => h s (by simp)
  | s :: t :: l, h, k => ⟨h s (by simp), k.1, dform_of (fun x hx => h x (by simp at hx ⊢; exact .inr hx)) k.2⟩
theorem okW {s : DStep} (h : DOk s) : DOkW s := by
  rcases h with h | ⟨a, b, c, d, e, f⟩
  · exact .inl h
  · exact .inr ⟨a, b, c, d, f⟩
theorem oSW {s : DStep} (h : DOkW s) : 0 ≤ oS s ∧ 0 ≤ nS s ∧ (s.kind ≠ 1 → oS s = s.n) ∧ 0 ≤ s.n := by
  unfold oS nS szD
  rcases h with ⟨k, n, a, e, _⟩ | ⟨k, _, _, n1, _⟩
  · have : 0 < s.elems.length := List.length_pos_iff.2 e
    rw [if_pos k, if_neg (by omega), if_pos k]
    exact ⟨Int.le_refl _, by omega, fun q => absurd k q, by omega⟩
  · have k1 : ¬ s.kind = 1 := by omega
    simp only [if_neg k1]
    refine ⟨by omega, by (split <;> omega), fun _ => trivial, by omega⟩
theorem sumsW : ∀ {l : List DStep}, (∀ s ∈ l, DOkW s) → 0 ≤ oldD l ∧ 0 ≤ newD l ∧ ∀ s ∈ l, s.kind ≠ 1 → s.n ≤ oldD l
  | [], _ => ⟨Int.le_refl _, Int.le_refl _, fun s hs => by cases hs⟩
  | s :: l, h => by
    have h1 := oSW (h s (by simp))
    have h2 := sumsW (l := l) (fun t ht => h t (by simp [ht]))
    simp only [oldD, newD]
    refine ⟨by omega, by omega, fun t ht k => ?_⟩
    rcases List.mem_cons.1 ht with rfl | ht
    · have := h1.2.2.1 k; omega
    · have := h2.2.2 t ht k; omega
theorem valid_of {l : List DStep} (h : ∀ s ∈ l, DOkW s) (ha : AdjOk l) (h1 : oldD l ≤ 2147483647) (h2 : newD l ≤ 2147483647) : DValid l := by
  refine ⟨dform_of (fun s hs => ?_) ha, h1, h2⟩
  rcases h s hs with q | ⟨a, b, c, d, e⟩
  · exact .inl q
  · have := (sumsW h).2.2 s hs (by omega)
    exact .inr ⟨a, b, c, d, by omega, e⟩
theorem oldN_app (u v : List DU) : oldN (u ++ v) = oldN u + oldN v := by
  induction u with
  | nil => simp [oldN]
  | cons x u ih => cases x <;> simp [oldN, ih] <;> omega
theorem newN_app (u v : List DU) : newN (u ++ v) = newN u + newN v := by
  induction u with
  | nil => simp [newN]
  | cons x u ih => cases x <;> simp [newN, ih] <;> omega
theorem lens_As (e : List Elem) : oldN (e.map .A) = 0 ∧ newN (e.map .A) = e.length := by
  induction e with
  | nil => exact ⟨rfl, rfl⟩
  | cons x e ih => simp [oldN, newN, ih]
theorem lens_Cs (n : Nat) : oldN (List.replicate n .C) = n ∧ newN (List.replicate n .C) = 0 := by
  induction n with
  | zero => exact ⟨rfl, rfl⟩
  | succ n ih => simp [List.replicate_succ, oldN, newN, ih]
theorem lens_Ks (n : Nat) (c : List Attr) : oldN (List.replicate n (.K c)) = n ∧ newN (List.replicate n (.K c)) = n := by
  induction n with
  | zero => exact ⟨rfl, rfl⟩
  | succ n ih => simp [List.replicate_succ, oldN, newN, ih]
theorem lens_S {s : DStep} (h : DOkW s) : (oldN (exS s) : Int) = oS s ∧ (newN (exS s) : Int) = nS s := by
  unfold exS oS nS szD
  rcases h with ⟨k, n, a, e, _⟩ | ⟨k, _, _, n1, _⟩
  · rw [if_pos k, if_pos k, if_neg (by omega), if_pos k, (lens_As _).1, (lens_As _).2]; exact ⟨rfl, rfl⟩
  · have k1 : ¬ s.kind = 1 := by omega
    by_cases k2 : s.kind = 2
    · simp only [if_neg k1, if_pos k2]
      rw [(lens_Cs _).1, (lens_Cs _).2]; omega
    · simp only [if_neg k1, if_neg k2]
      rw [(lens_Ks _ _).1, (lens_Ks _ _).2]; omega
theorem lens_D : ∀ {l : List DStep}, (∀ s ∈ l, DOkW s) → (oldN (exD l) : Int) = oldD l ∧ (newN (exD l) : Int) = newD l
  | [], _ => ⟨rfl, rfl⟩
  | s :: l, h => by
    have h1 := lens_S (h s (by simp))
    have h2 := lens_D (l := l) (fun t ht => h t (by simp [ht]))
    simp only [exD, oldD, newD]
    rw [oldN_app, newN_app]
    omega
def exDW (w : DWr) : List DU := exD w.out ++ (w.add.map .A ++ List.replicate w.cut.toNat .C)
structure GoodD (w : DWr) : Prop where
  ok : ∀ s ∈ w.out, DOkW s
  adj : AdjOk w.out
  last : ∀ t, w.out.getLast? = some t → t.kind = 0
  add : ∀ x ∈ w.add, elemE x = 0
  cut : 0 ≤ w.cut
theorem goodD0 : GoodD ⟨[], [], 0⟩ := ⟨fun s h => (by cases h), trivial, fun t h => (by cases h), fun x h => (by cases h), Int.le_refl _⟩
theorem flushD_ex {w : DWr} (h : GoodD w) : exD (flushD w) = exDW w := by
  have h2 := h.cut
  unfold flushD exDW
  rw [exD_app, exD_app, List.append_assoc]
  congr 2
  · split
    · simp [exD, exS]
    · rw [show w.add = [] from len0.1 (by omega)]; rfl
  · split
    · simp [exD, exS]
    · rw [show w.cut.toNat = 0 by omega]; rfl
theorem adj_1 {t s : DStep} (h : t.kind ≠ s.kind) (h2 : ¬ (t.kind = 2 ∧ s.kind = 1)) : adjD t s = false := by
  cases e : adjD t s
  · rfl
  · rcases adjD_yes.1 e with ⟨a, _⟩ | a
    · exact absurd a h
    · exact absurd a h2
theorem vg_nil : VG true [] := (chk_iff (e := true) (l := [])).1 (by rw [chkA]; rfl)
theorem flushD_ok {w : DWr} (h : GoodD w) : (∀ s ∈ flushD w, DOkW s) ∧ AdjOk (flushD w) := by
  have h2 := h.cut
  have o1 : 0 < w.add.length → DOkW ⟨1, 0, [], w.add⟩ := fun q => .inl ⟨rfl, rfl, rfl, List.length_pos_iff.1 q, h.add⟩
  have o2 : 0 < w.cut → DOkW ⟨2, w.cut, [], []⟩ := fun q => .inr ⟨.inr rfl, rfl, fun _ => rfl, q, vg_nil⟩
  refine ⟨fun s hs => ?_, ?_⟩
  · unfold flushD at hs
    simp only [List.mem_append] at hs
    rcases hs with (hs | hs) | hs
    · exact h.ok s hs
    · split at hs
      · rename_i q; rw [List.mem_singleton] at hs; subst hs; exact o1 q
      · cases hs
    · split at hs
      · rename_i q; rw [List.mem_singleton] at hs; subst hs; exact o2 q
      · cases hs
  · unfold flushD
    by_cases ha : 0 < w.add.length
    · rw [if_pos ha]
      have f1 : AdjOk (w.out ++ [⟨1, 0, [], w.add⟩]) := adj_snoc h.adj (fun t ht => by
        have := h.last t ht
        exact adj_1 (by simp only; omega) (by omega))
      by_cases hc : 0 < w.cut
      · rw [if_pos hc]
        refine adj_snoc f1 (fun t ht => ?_)
        rw [List.getLast?_concat] at ht
        cases ht
        exact adj_1 (by show (1 : Int) ≠ 2; decide) (by show ¬ ((1 : Int) = 2 ∧ (2 : Int) = 1); decide)
      · rw [if_neg hc, List.append_nil]; exact f1
    · rw [if_neg ha, List.append_nil]
      by_cases hc : 0 < w.cut
      · rw [if_pos hc]
        refine adj_snoc h.adj (fun t ht => ?_)
        have := h.last t ht
        exact adj_1 (by simp only; omega) (by omega)
      · rw [if_neg hc, List.append_nil]; exact h.adj
theorem lastD {l : List DStep} (h : 0 < l.length) : l = l.take (l.length - 1) ++ [l.getD (l.length - 1) default] := by
  conv => lhs; rw [← List.take_append_drop (l.length - 1) l]
  congr 1
  rw [List.drop_eq_getElem_cons (by omega), List.drop_eq_nil_of_le (by omega)]
  simp [List.getD, List.getElem?_eq_getElem (show l.length - 1 < l.length by omega)]
theorem lastD_mem {l : List DStep} (h : 0 < l.length) : l.getD (l.length - 1) default ∈ l := by
  rw [show l.getD (l.length - 1) default = l[l.length - 1] by simp [List.getD, List.getElem?_eq_getElem (show l.length - 1 < l.length by omega)]]
  exact List.getElem_mem _
theorem setD {l : List DStep} (h : 0 < l.length) (s : DStep) : l.set (l.length - 1) s = l.take (l.length - 1) ++ [s] := by
  rw [List.set_eq_take_append_cons_drop, if_pos (by omega), List.drop_eq_nil_of_le (by omega)]
theorem keepD_ok {l : List DStep} {n : Int} {c : List Attr} (ho : ∀ s ∈ l, DOkW s) (hf : AdjOk l) (hn : 1 ≤ n) (hc : VG true c) :
    (∀ s ∈ keepD l n c, DOkW s) ∧ AdjOk (keepD l n c) ∧ (∀ t, (keepD l n c).getLast? = some t → t.kind = 0) ∧ exD (keepD l n c) = exD l ++ List.replicate n.toNat (.K c) := by
  unfold keepD
  split
  · rename_i hc
    obtain ⟨h0, hk, ha⟩ := hc
    rw [sameL_eq] at ha
    generalize hx : l.getD (l.length - 1) default = x at hk ha ⊢
    have hl := lastD h0
    rw [hx] at hl
    rw [setD h0]
    have hox : DOkW x := ho x (by rw [hl]; simp)
    have hx2 : x.elems = [] ∧ 1 ≤ x.n ∧ VG true x.attrs := by
      rcases hox with ⟨k, _⟩ | ⟨_, a, _, b, d⟩
      · omega
      · exact ⟨a, b, d⟩
    refine ⟨fun s hs => ?_, adj_last (s := x) (by rw [← hl]; exact hf) rfl rfl, fun t ht => ?_, ?_⟩
    · rw [List.mem_append] at hs
      rcases hs with hs | hs
      · exact ho s (List.mem_of_mem_take hs)
      · rw [List.mem_singleton] at hs; subst hs
        exact .inr ⟨.inl hk, hx2.1, fun q => by simp only at q; omega, by simp only; omega, hx2.2.2⟩
    · rw [List.getLast?_concat] at ht; cases ht; exact hk
    · conv => rhs; rw [hl]
      rw [exD_app, exD_app, List.append_assoc]
      congr 1
      simp only [exD, List.append_nil, exS]
      rw [if_neg (by omega), if_neg (by omega), if_neg (by omega), if_neg (by omega), ha, show (x.n + n).toNat = x.n.toNat + n.toNat by omega]
      exact List.replicate_append_replicate.symm
  · rename_i hq
    refine ⟨fun s hs => ?_, adj_snoc hf (fun t ht => ?_), fun t ht => ?_, by rw [exD_app]; simp [exD, exS]⟩
    · rw [List.mem_append] at hs
      rcases hs with hs | hs
      · exact ho s hs
      · rw [List.mem_singleton] at hs; subst hs
        exact .inr ⟨.inl rfl, rfl, fun q => (by cases q), hn, hc⟩
    · have h0 : 0 < l.length := by
        rcases l with _ | ⟨y, l⟩
        · cases ht
        · simp
      have hl : l.getLast? = some (l.getD (l.length - 1) default) := by
        conv => lhs; rw [lastD h0]
        rw [List.getLast?_concat]
      rw [hl] at ht
      cases ht
      cases e : adjD (l.getD (l.length - 1) default) ⟨0, n, c, []⟩
      · rfl
      · rcases adjD_yes.1 e with ⟨a, b | b⟩ | ⟨_, b⟩
        · exact absurd rfl b
        · exact absurd ⟨h0, a, b⟩ hq
        · cases b
    · rw [List.getLast?_concat] at ht; cases ht; rfl
theorem GoodD.keep {w : DWr} {n : Int} {c : List Attr} (h : GoodD w) (hn : 1 ≤ n) (hc : VG true c) :
    GoodD ⟨keepD (flushD w) n c, [], 0⟩ ∧ exDW ⟨keepD (flushD w) n c, [], 0⟩ = exDW w ++ List.replicate n.toNat (.K c) := by
  obtain ⟨q1, q2, q3, q4⟩ := keepD_ok (flushD_ok h).1 (flushD_ok h).2 hn hc
  refine ⟨⟨q1, q2, q3, fun x hx => (by cases hx), Int.le_refl _⟩, ?_⟩
  rw [← flushD_ex h, ← q4]
  simp [exDW]
theorem GoodD.elems {w : DWr} {e : List Elem} (h : GoodD w) (he : ∀ x ∈ e, elemE x = 0) :
    GoodD ⟨w.out, w.add ++ e, w.cut⟩ ∧ DSw (exDW ⟨w.out, w.add ++ e, w.cut⟩) (exDW w ++ e.map .A) := by
  refine ⟨⟨h.ok, h.adj, h.last, fun x hx => ?_, h.cut⟩, ?_⟩
  · rcases List.mem_append.1 hx with hx | hx
    · exact h.add x hx
    · exact he x hx
  · unfold exDW
    simp only [List.map_append, List.append_assoc]
    refine .left _ (.left _ ?_)
    have := dsw_Cs_As w.cut.toNat e []
    simp only [List.append_nil] at this
    exact .symm this
theorem GoodD.cuts {w : DWr} {n : Int} (h : GoodD w) (hn : 0 ≤ n) :
    GoodD ⟨w.out, w.add, w.cut + n⟩ ∧ exDW ⟨w.out, w.add, w.cut + n⟩ = exDW w ++ List.replicate n.toNat .C := by
  have h2 := h.cut
  refine ⟨⟨h.ok, h.adj, h.last, h.add, by simp only; omega⟩, ?_⟩
  unfold exDW
  simp only [List.append_assoc]
  rw [show (w.cut + n).toNat = w.cut.toNat + n.toNat by omega, ← List.replicate_append_replicate]
theorem GoodD.valid {w : DWr} {u : List DU} (h : GoodD w) (hs : DSw (exDW w) u) (h1 : oldN u ≤ 2147483647) (h2 : newN u ≤ 2147483647) :
    DValid (flushD w) ∧ DSw (exD (flushD w)) u ∧ oldD (flushD w) = oldN u ∧ newD (flushD w) = newN u := by
  have hk := flushD_ok h
  have he := flushD_ex h
  have hl := dsw_lens hs
  have hd := lens_D hk.1
  rw [he] at hd
  refine ⟨valid_of hk.1 hk.2 (by omega) (by omega), by rw [he]; exact hs, by omega, by omega⟩
end Go.Ch
end
section
set_option linter.unusedVariables false
set_option linter.unusedSimpArgs false
set_option maxRecDepth 100000
set_option maxHeartbeats 4000000
open Go Go.Proofs Go.Ab
namespace Go.Ch
theorem fc_dFlush (o : List DStep) (a : List Elem) (c : Int) (ho : o.length ≤ 100000000000) : FC Try.prog 135 [.ptr 0 0] (app emp [(0, .box [.row 1 o.length, .row 2 a.length, VI c]), (1, OR 4 dstepT o), (2, OR 3 elemT a)]) (.tup []) (app emp [(0, .box [.row 1 ((flushD ⟨o, a, c⟩).length), .row 3 0, VI 0]), (1, OR 4 dstepT (flushD ⟨o, a, c⟩)), (2, OF 3 elemT a), (3, OR 3 elemT [])]) := by
 refine .go Try.f135 ?_
 refine .br [.r []] (decide ((a.length : Int) > 0)) (fun h0 => ?_) (fun h0 => ?_)
 ·
  (try simp only [decide_eq_true_eq, decide_eq_false_iff_not, Int.not_lt, Int.not_le, gt_iff_lt] at h0)
  refine .br [.r [(9, X (Xf [(2, 2)])), (10, X (rowC elemT a X0)), (11, X (rowC dstepT [({ kind := 1, n := 0, attrs := [], elems := a } : DStep)] (Xap 4 dstepT 1 o [({ kind := 1, n := 0, attrs := [], elems := a } : DStep)])))], .r []] (decide (c > 0)) (fun h2 => ?_) (fun h2 => ?_)
  ·
   (try simp only [decide_eq_true_eq, decide_eq_false_iff_not, Int.not_lt, Int.not_le, gt_iff_lt] at h2)
   have e1 : ((flushD ⟨o, a, c⟩).length : Nat) = ((o ++ [({ kind := 1, n := 0, attrs := [], elems := a } : DStep)]) ++ [({ kind := 2, n := c, attrs := [], elems := [] } : DStep)]).length := by
    unfold flushD; simp only; (repeat (first | rw [if_pos (by omega)] | rw [if_neg (by omega)])); try simp
   have e2 : ((flushD ⟨o, a, c⟩) : List DStep) = ((o ++ [({ kind := 1, n := 0, attrs := [], elems := a } : DStep)]) ++ [({ kind := 2, n := c, attrs := [], elems := [] } : DStep)]) := by
    unfold flushD; simp only; (repeat (first | rw [if_pos (by omega)] | rw [if_neg (by omega)])); try simp
   exact .finE [.r [(9, X (Xf [(2, 2), (3, 3)])), (11, X (rowC dstepT [({ kind := 2, n := c, attrs := [], elems := [] } : DStep)] (Xap 4 dstepT 1 (o ++ [({ kind := 1, n := 0, attrs := [], elems := a } : DStep)]) [({ kind := 2, n := c, attrs := [], elems := [] } : DStep)])))], .r [], .le (.nB 0 1 3)] [(0, 0), (1, 1), (2, 2), (395, 3)] (fun (z0, z1) => (.tup [], [(0, .box [.row 1 z0, .row 3 0, VI 0]), (1, OR 4 dstepT z1), (2, OF 3 elemT a), (3, OR 3 elemT [])])) ((((o ++ [({ kind := 1, n := 0, attrs := [], elems := a } : DStep)]) ++ [({ kind := 2, n := c, attrs := [], elems := [] } : DStep)]).length : Nat), (((o ++ [({ kind := 1, n := 0, attrs := [], elems := a } : DStep)]) ++ [({ kind := 2, n := c, attrs := [], elems := [] } : DStep)]) : List DStep)) (((flushD ⟨o, a, c⟩).length : Nat), ((flushD ⟨o, a, c⟩) : List DStep)) (pr e1 e2)
  ·
   (try simp only [decide_eq_true_eq, decide_eq_false_iff_not, Int.not_lt, Int.not_le, gt_iff_lt] at h2)
   have e3 : ((flushD ⟨o, a, c⟩).length : Nat) = (o ++ [({ kind := 1, n := 0, attrs := [], elems := a } : DStep)]).length := by
    unfold flushD; simp only; (repeat (first | rw [if_pos (by omega)] | rw [if_neg (by omega)])); try simp
   have e4 : ((flushD ⟨o, a, c⟩) : List DStep) = (o ++ [({ kind := 1, n := 0, attrs := [], elems := a } : DStep)]) := by
    unfold flushD; simp only; (repeat (first | rw [if_pos (by omega)] | rw [if_neg (by omega)])); try simp
   exact .finE [.r [], .le (.nB 0 1 3)] [(0, 0), (1, 1), (2, 2), (275, 3)] (fun (z0, z1) => (.tup [], [(0, .box [.row 1 z0, .row 3 0, VI 0]), (1, OR 4 dstepT z1), (2, OF 3 elemT a), (3, OR 3 elemT [])])) (((o ++ [({ kind := 1, n := 0, attrs := [], elems := a } : DStep)]).length : Nat), ((o ++ [({ kind := 1, n := 0, attrs := [], elems := a } : DStep)]) : List DStep)) (((flushD ⟨o, a, c⟩).length : Nat), ((flushD ⟨o, a, c⟩) : List DStep)) (pr e3 e4)
 ·
  (try simp only [decide_eq_true_eq, decide_eq_false_iff_not, Int.not_lt, Int.not_le, gt_iff_lt] at h0)
  refine .br [.r []] (decide (c > 0)) (fun h2 => ?_) (fun h2 => ?_)
  ·
   (try simp only [decide_eq_true_eq, decide_eq_false_iff_not, Int.not_lt, Int.not_le, gt_iff_lt] at h2)
   have e5 : ((flushD ⟨o, a, c⟩).length : Nat) = (o ++ [({ kind := 2, n := c, attrs := [], elems := [] } : DStep)]).length := by
    unfold flushD; simp only; (repeat (first | rw [if_pos (by omega)] | rw [if_neg (by omega)])); try simp
   have e6 : ((flushD ⟨o, a, c⟩) : List DStep) = (o ++ [({ kind := 2, n := c, attrs := [], elems := [] } : DStep)]) := by
    unfold flushD; simp only; (repeat (first | rw [if_pos (by omega)] | rw [if_neg (by omega)])); try simp
   exact .finE [.r [(9, X (Xf [(2, 2), (3, 3)])), (11, X (rowC dstepT [({ kind := 2, n := c, attrs := [], elems := [] } : DStep)] (Xap 4 dstepT 1 o [({ kind := 2, n := c, attrs := [], elems := [] } : DStep)])))], .r [], .le (.nB 0 1 3), .le (.fz 2)] [(0, 0), (1, 1), (2, 2), (275, 3)] (fun (z0, z1) => (.tup [], [(0, .box [.row 1 z0, .row 3 0, VI 0]), (1, OR 4 dstepT z1), (2, OF 3 elemT a), (3, OR 3 elemT [])])) (((o ++ [({ kind := 2, n := c, attrs := [], elems := [] } : DStep)]).length : Nat), ((o ++ [({ kind := 2, n := c, attrs := [], elems := [] } : DStep)]) : List DStep)) (((flushD ⟨o, a, c⟩).length : Nat), ((flushD ⟨o, a, c⟩) : List DStep)) (pr e5 e6)
  ·
   (try simp only [decide_eq_true_eq, decide_eq_false_iff_not, Int.not_lt, Int.not_le, gt_iff_lt] at h2)
   have e7 : ((flushD ⟨o, a, c⟩).length : Nat) = o.length := by
    unfold flushD; simp only; (repeat (first | rw [if_pos (by omega)] | rw [if_neg (by omega)])); try simp
   have e8 : ((flushD ⟨o, a, c⟩) : List DStep) = o := by
    unfold flushD; simp only; (repeat (first | rw [if_pos (by omega)] | rw [if_neg (by omega)])); try simp
   exact .finE [.r [], .le (.nB 0 1 3), .le (.fz 2)] [(0, 0), (1, 1), (2, 2), (155, 3)] (fun (z0, z1) => (.tup [], [(0, .box [.row 1 z0, .row 3 0, VI 0]), (1, OR 4 dstepT z1), (2, OF 3 elemT a), (3, OR 3 elemT [])])) ((o.length : Nat), (o : List DStep)) (((flushD ⟨o, a, c⟩).length : Nat), ((flushD ⟨o, a, c⟩) : List DStep)) (pr e7 e8)

theorem fc_dElems (o : List DStep) (a : List Elem) (c : Int) (e : List Elem) (hs : AN 400000000000 e) (ho : a.length + e.length ≤ 100000000000) : FC Try.prog 104 [.ptr 0 0, VL 3 elemT e] (app emp [(0, .box [.row 1 o.length, .row 2 a.length, VI c]), (1, OR 4 dstepT o), (2, OR 3 elemT a)]) (.tup []) (app emp [(0, .box [.row 1 o.length, .row 2 ((a ++ e).length), VI c]), (1, OR 4 dstepT o), (2, OR 3 elemT (a ++ e))]) := by
 refine .go Try.f104 ?_
 refine .len 1 (fun hl1 => ?_)
 exact .fin [.r [(6, X (Xc1 51 (fc_copy e (by omega) (by assumption)) X0)), (7, X (Xap 3 elemT 2 a e))]] [(0, 0), (1, 1), (2, 2)]

theorem kbd {l : List DStep} (h : ∀ s ∈ l, 0 ≤ s.n ∧ s.n ≤ 10000000000) : ∀ s ∈ l, 0 ≤ s.n ∧ s.n ≤ 1000000000000000000 := fun s hs => by have := h s hs; omega

theorem fc_dKeep (o : List DStep) (a : List Elem) (c : Int) (n : Int) (l : List Attr) (ho : o.length ≤ 100000000000) (hl : l.length ≤ 400000000000) (hn : 1 ≤ n ∧ n ≤ 100000000000) (hk : ∀ s ∈ flushD ⟨o, a, c⟩, 0 ≤ s.n ∧ s.n ≤ 1000000000000000000) : FC Try.prog 103 [.ptr 0 0, VI n, VL 2 attrT l] (app emp [(0, .box [.row 1 o.length, .row 2 a.length, VI c]), (1, OR 4 dstepT o), (2, OR 3 elemT a)]) (.tup []) (app emp [(0, .box [.row 1 ((keepD (flushD ⟨o, a, c⟩) n l).length), .row 3 0, VI 0]), (1, OR 4 dstepT (keepD (flushD ⟨o, a, c⟩) n l)), (2, OF 3 elemT a), (3, OR 3 elemT [])]) := by
 refine .go Try.f103 ?_
 refine .len 2 (fun hl2 => ?_)
 have hfl := flushD_len ⟨o, a, c⟩
 simp only at hfl
 refine .br [.r []] (n == 0) (fun h0 => ?_) (fun h0 => ?_)
 ·
  (try simp only [beq_iff_eq, beq_eq_false_iff_ne, ne_eq] at h0)
  exfalso
  omega
 ·
  (try simp only [beq_iff_eq, beq_eq_false_iff_ne, ne_eq] at h0)
  have hlast := fun h : 0 < (flushD ⟨o, a, c⟩).length => hk _ (lastD_mem h)
  refine .br [.r [(1, X (Xc3 27 [(0, 0), (1, 1), (2, 2)] (fc_dFlush o a c (by omega)) X0))], .r [(5, X (Xn (((flushD ⟨o, a, c⟩).length : Int) - 1)))], .r [(4, Xv 1 (decide ((((flushD ⟨o, a, c⟩).length : Int) - 1) ≥ 0)) X0), (5, Xv 1 (decide ((((flushD ⟨o, a, c⟩).length : Int) - 1) ≥ 0)) X0), (6, Xv 1 (decide ((((flushD ⟨o, a, c⟩).length : Int) - 1) ≥ 0)) X0), (8, Xv 2 (decide ((((flushD ⟨o, a, c⟩).length : Int) - 1) ≥ 0)) (Xp' dstepT 1 (flushD ⟨o, a, c⟩) (((flushD ⟨o, a, c⟩).length : Int) - 1) (((flushD ⟨o, a, c⟩).length) - 1))), (9, Xv 1 (decide ((((flushD ⟨o, a, c⟩).length : Int) - 1) ≥ 0)) X0), (10, Xv 1 (decide ((((flushD ⟨o, a, c⟩).length : Int) - 1) ≥ 0)) (Xe dstepT (flushD ⟨o, a, c⟩) (((flushD ⟨o, a, c⟩).length) - 1))), (11, Xv 1 (decide ((((flushD ⟨o, a, c⟩).length : Int) - 1) ≥ 0)) X0), (12, X (Xk (decide ((((flushD ⟨o, a, c⟩).length : Int) - 1) ≥ 0)))), (15, Xv 1 (decide ((((flushD ⟨o, a, c⟩).length : Int) - 1) ≥ 0) && (((((flushD ⟨o, a, c⟩).getD (((flushD ⟨o, a, c⟩).length) - 1) default)).kind) == 0)) X0), (16, Xv 1 (decide ((((flushD ⟨o, a, c⟩).length : Int) - 1) ≥ 0) && (((((flushD ⟨o, a, c⟩).getD (((flushD ⟨o, a, c⟩).length) - 1) default)).kind) == 0)) X0), (17, Xv 1 (decide ((((flushD ⟨o, a, c⟩).length : Int) - 1) ≥ 0) && (((((flushD ⟨o, a, c⟩).getD (((flushD ⟨o, a, c⟩).length) - 1) default)).kind) == 0)) X0), (19, Xv 2 (decide ((((flushD ⟨o, a, c⟩).length : Int) - 1) ≥ 0) && (((((flushD ⟨o, a, c⟩).getD (((flushD ⟨o, a, c⟩).length) - 1) default)).kind) == 0)) (Xp' dstepT 1 (flushD ⟨o, a, c⟩) (((flushD ⟨o, a, c⟩).length : Int) - 1) (((flushD ⟨o, a, c⟩).length) - 1))), (20, Xv 1 (decide ((((flushD ⟨o, a, c⟩).length : Int) - 1) ≥ 0) && (((((flushD ⟨o, a, c⟩).getD (((flushD ⟨o, a, c⟩).length) - 1) default)).kind) == 0)) X0), (21, Xv 1 (decide ((((flushD ⟨o, a, c⟩).length : Int) - 1) ≥ 0) && (((((flushD ⟨o, a, c⟩).getD (((flushD ⟨o, a, c⟩).length) - 1) default)).kind) == 0)) (Xe dstepT (flushD ⟨o, a, c⟩) (((flushD ⟨o, a, c⟩).length) - 1))), (23, Xv 2 (decide ((((flushD ⟨o, a, c⟩).length : Int) - 1) ≥ 0) && (((((flushD ⟨o, a, c⟩).getD (((flushD ⟨o, a, c⟩).length) - 1) default)).kind) == 0)) (Xc0 (fc_attrSame ((((flushD ⟨o, a, c⟩).getD (((flushD ⟨o, a, c⟩).length) - 1) default)).attrs) l) X0)), (24, X (Xk (decide ((((flushD ⟨o, a, c⟩).length : Int) - 1) ≥ 0) && (((((flushD ⟨o, a, c⟩).getD (((flushD ⟨o, a, c⟩).length) - 1) default)).kind) == 0))))]] ((decide ((((flushD ⟨o, a, c⟩).length : Int) - 1) ≥ 0) && (((((flushD ⟨o, a, c⟩).getD (((flushD ⟨o, a, c⟩).length) - 1) default)).kind) == 0)) && (sameL ((((flushD ⟨o, a, c⟩).getD (((flushD ⟨o, a, c⟩).length) - 1) default)).attrs) l)) (fun h3 => ?_) (fun h3 => ?_)
  ·
   (try simp only [decide_eq_true_eq, decide_eq_false_iff_not, Int.not_lt, Int.not_le, ge_iff_le, Bool.and_eq_true, Bool.and_eq_false_iff, Bool.not_eq_true', Bool.not_eq_false', beq_iff_eq, beq_eq_false_iff_ne, ne_eq] at h3)
   have e1 : ((keepD (flushD ⟨o, a, c⟩) n l).length : Nat) = (flushD ⟨o, a, c⟩).length := by
    unfold keepD; ((repeat' split) <;> first | rfl | omega | (simp_all; done) | (simp_all; omega))
   have e2 : ((keepD (flushD ⟨o, a, c⟩) n l) : List DStep) = ((flushD ⟨o, a, c⟩).set (((flushD ⟨o, a, c⟩).length) - 1) ({ kind := (((flushD ⟨o, a, c⟩).getD (((flushD ⟨o, a, c⟩).length) - 1) default)).kind, n := (((((flushD ⟨o, a, c⟩).getD (((flushD ⟨o, a, c⟩).length) - 1) default)).n) + n), attrs := (((flushD ⟨o, a, c⟩).getD (((flushD ⟨o, a, c⟩).length) - 1) default)).attrs, elems := (((flushD ⟨o, a, c⟩).getD (((flushD ⟨o, a, c⟩).length) - 1) default)).elems } : DStep)) := by
    unfold keepD; ((repeat' split) <;> first | rfl | omega | (simp_all; done) | (simp_all; omega))
   exact .finE [.r [(5, X (Xp' dstepT 1 (flushD ⟨o, a, c⟩) (((flushD ⟨o, a, c⟩).length : Int) - 1) (((flushD ⟨o, a, c⟩).length) - 1))), (7, X (Xe dstepT (flushD ⟨o, a, c⟩) (((flushD ⟨o, a, c⟩).length) - 1))), (9, X (Xn (((((flushD ⟨o, a, c⟩).getD (((flushD ⟨o, a, c⟩).length) - 1) default)).n) + n))), (10, X (Xp' dstepT 1 (flushD ⟨o, a, c⟩) (((flushD ⟨o, a, c⟩).length : Int) - 1) (((flushD ⟨o, a, c⟩).length) - 1))), (12, X (Xs 4 dstepT 1 (flushD ⟨o, a, c⟩) (((flushD ⟨o, a, c⟩).length) - 1) ({ kind := (((flushD ⟨o, a, c⟩).getD (((flushD ⟨o, a, c⟩).length) - 1) default)).kind, n := (((((flushD ⟨o, a, c⟩).getD (((flushD ⟨o, a, c⟩).length) - 1) default)).n) + n), attrs := (((flushD ⟨o, a, c⟩).getD (((flushD ⟨o, a, c⟩).length) - 1) default)).attrs, elems := (((flushD ⟨o, a, c⟩).getD (((flushD ⟨o, a, c⟩).length) - 1) default)).elems } : DStep)))]] [(0, 0), (1, 1), (2, 2), (27, 3)] (fun (z0, z1) => (.tup [], [(0, .box [.row 1 z0, .row 3 0, VI 0]), (1, OR 4 dstepT z1), (2, OF 3 elemT a), (3, OR 3 elemT [])])) (((flushD ⟨o, a, c⟩).length : Nat), (((flushD ⟨o, a, c⟩).set (((flushD ⟨o, a, c⟩).length) - 1) ({ kind := (((flushD ⟨o, a, c⟩).getD (((flushD ⟨o, a, c⟩).length) - 1) default)).kind, n := (((((flushD ⟨o, a, c⟩).getD (((flushD ⟨o, a, c⟩).length) - 1) default)).n) + n), attrs := (((flushD ⟨o, a, c⟩).getD (((flushD ⟨o, a, c⟩).length) - 1) default)).attrs, elems := (((flushD ⟨o, a, c⟩).getD (((flushD ⟨o, a, c⟩).length) - 1) default)).elems } : DStep)) : List DStep)) (((keepD (flushD ⟨o, a, c⟩) n l).length : Nat), ((keepD (flushD ⟨o, a, c⟩) n l) : List DStep)) (pr e1 e2)
  ·
   (try simp only [decide_eq_true_eq, decide_eq_false_iff_not, Int.not_lt, Int.not_le, ge_iff_le, Bool.and_eq_true, Bool.and_eq_false_iff, Bool.not_eq_true', Bool.not_eq_false', beq_iff_eq, beq_eq_false_iff_ne, ne_eq] at h3)
   have e3 : ((keepD (flushD ⟨o, a, c⟩) n l).length : Nat) = ((flushD ⟨o, a, c⟩) ++ [({ kind := 0, n := n, attrs := l, elems := [] } : DStep)]).length := by
    unfold keepD; ((repeat' split) <;> first | rfl | omega | (simp_all; done) | (simp_all; omega))
   have e4 : ((keepD (flushD ⟨o, a, c⟩) n l) : List DStep) = ((flushD ⟨o, a, c⟩) ++ [({ kind := 0, n := n, attrs := l, elems := [] } : DStep)]) := by
    unfold keepD; ((repeat' split) <;> first | rfl | omega | (simp_all; done) | (simp_all; omega))
   exact .finE [.r [(7, X (Xan attrT 347 l)), (8, X (Xf [(3, 3)])), (9, X (rowC attrT l X0)), (10, X (rowC dstepT [({ kind := 0, n := n, attrs := l, elems := [] } : DStep)] (Xap 4 dstepT 1 (flushD ⟨o, a, c⟩) [({ kind := 0, n := n, attrs := l, elems := [] } : DStep)])))]] [(0, 0), (1, 1), (2, 2), (27, 3)] (fun (z0, z1) => (.tup [], [(0, .box [.row 1 z0, .row 3 0, VI 0]), (1, OR 4 dstepT z1), (2, OF 3 elemT a), (3, OR 3 elemT [])])) ((((flushD ⟨o, a, c⟩) ++ [({ kind := 0, n := n, attrs := l, elems := [] } : DStep)]).length : Nat), (((flushD ⟨o, a, c⟩) ++ [({ kind := 0, n := n, attrs := l, elems := [] } : DStep)]) : List DStep)) (((keepD (flushD ⟨o, a, c⟩) n l).length : Nat), ((keepD (flushD ⟨o, a, c⟩) n l) : List DStep)) (pr e3 e4)

theorem fc_dDone (o : List DStep) (a : List Elem) (c : Int) (ho : o.length ≤ 100000000000) (hc : checkD (flushD ⟨o, a, c⟩) = 0) (hd : DN 400000000000 (flushD ⟨o, a, c⟩)) : FC Try.prog 105 [.ptr 0 0] (app emp [(0, .box [.row 1 o.length, .row 2 a.length, VI c]), (1, OR 4 dstepT o), (2, OR 3 elemT a)]) (.tup [.row 1 ((flushD ⟨o, a, c⟩).length), VI 0]) (app emp [(0, .box [.row 1 ((flushD ⟨o, a, c⟩).length), .row 3 0, VI 0]), (1, OR 4 dstepT (flushD ⟨o, a, c⟩)), (2, OF 3 elemT a), (3, OR 3 elemT [])]) := by
 refine .go Try.f105 ?_
 refine .br [.r [], .r [(1, X (Xc3 27 [(0, 0), (1, 1), (2, 2)] (fc_dFlush o a c (by omega)) X0))], .r [(4, X (Xc0 (fc_dCheck (flushD ⟨o, a, c⟩) (by assumption)) (rowC dstepT (flushD ⟨o, a, c⟩) X0)))]] ((checkD (flushD ⟨o, a, c⟩)) != 0) (fun h2 => ?_) (fun h2 => ?_)
 ·
  (try simp only [bne_iff_ne, bne_eq_false_iff_eq, ne_eq] at h2)
  exfalso
  omega
 ·
  (try simp only [bne_iff_ne, bne_eq_false_iff_eq, ne_eq] at h2)
  exact .fin [.r []] [(0, 0), (1, 1), (2, 2), (27, 3)]
end Go.Ch
end
section
set_option linter.unusedVariables false
set_option linter.unusedSimpArgs false
namespace Go.Ch
open Go Go.Ab

def putU (w : DWr) : DU → DWr
  | .K c => ⟨keepD (flushD w) 1 c, [], 0⟩
  | .A e => ⟨w.out, w.add ++ [e], w.cut⟩
  | .C => ⟨w.out, w.add, w.cut + 1⟩
def foldD (w : DWr) : List DU → DWr
  | [] => w
  | u :: us => foldD (putU w u) us
theorem foldD_As (e : List Elem) (us : List DU) : ∀ w : DWr, foldD w (e.map .A ++ us) = foldD ⟨w.out, w.add ++ e, w.cut⟩ us := by
  induction e with
  | nil => intro w; simp
  | cons x e ih => intro w; simp only [List.map_cons, List.cons_append, foldD, putU]; rw [ih]; simp
theorem foldD_Cs (n : Nat) (us : List DU) : ∀ w : DWr, foldD w (List.replicate n .C ++ us) = foldD ⟨w.out, w.add, w.cut + n⟩ us := by
  induction n with
  | zero => intro w; simp
  | succ n ih => intro w; simp only [List.replicate_succ, List.cons_append, foldD, putU]; rw [ih]; simp only; rw [show w.cut + 1 + (n : Int) = w.cut + ((n + 1 : Nat) : Int) by omega]
theorem flushD_nil (l : List DStep) : flushD ⟨l, [], 0⟩ = l := by simp [flushD]
theorem keepD_keepD {l : List DStep} {m n : Int} {c : List Attr} : keepD (keepD l m c) n c = keepD l (m + n) c := by
  unfold keepD
  by_cases h : 0 < l.length ∧ (l.getD (l.length - 1) default).kind = 0 ∧ sameL (l.getD (l.length - 1) default).attrs c = true
  · rw [if_pos h, if_pos h, setD h.1, setD h.1]
    generalize l.getD (l.length - 1) default = x at *
    have e : ∀ y : DStep, (List.take (l.length - 1) l ++ [y]).getD ((List.take (l.length - 1) l ++ [y]).length - 1) default = y := fun y => by simp
    rw [e, if_pos ⟨by simp, h.2.1, h.2.2⟩, setD (by simp)]
    have t : ∀ y : DStep, (List.take (l.length - 1) l ++ [y]).take ((List.take (l.length - 1) l ++ [y]).length - 1) = List.take (l.length - 1) l := fun y => by simp
    rw [t, Int.add_assoc]
  · rw [if_neg h, if_neg h]
    have e : ∀ y : DStep, (l ++ [y]).getD ((l ++ [y]).length - 1) default = y := fun y => by simp
    rw [e, if_pos ⟨by simp, rfl, sameL_self c⟩, setD (by simp)]
    simp
theorem foldD_Ks (c : List Attr) (us : List DU) : ∀ (n : Nat) (w : DWr), foldD w (List.replicate (n + 1) (.K c) ++ us) = foldD ⟨keepD (flushD w) ((n + 1 : Nat) : Int) c, [], 0⟩ us
  | 0, w => by simp [foldD, putU]
  | n + 1, w => by
    rw [List.replicate_succ, List.cons_append, foldD, foldD_Ks c us n]
    simp only [putU]
    rw [flushD_nil, keepD_keepD, show (1 : Int) + ((n + 1 : Nat) : Int) = ((n + 1 + 1 : Nat) : Int) by omega]
def UnitOk : DU → Prop
  | .K c => VG true c ∧ c.length ≤ 400000000000
  | .A e => elemE e = 0 ∧ e.attrs.length ≤ 400000000000
  | .C => True
/-- Bounds of what the writer holds. -/
structure WBd (w : DWr) : Prop where
  out : DN 400000000000 w.out
  add : AN 400000000000 w.add
theorem WBd.flush {w : DWr} (h : WBd w) (hl : w.add.length ≤ 400000000000) : DN 400000000000 (flushD w) := by
  intro s hs
  unfold flushD at hs
  simp only [List.mem_append] at hs
  rcases hs with (hs | hs) | hs
  · exact h.out s hs
  · split at hs
    · rw [List.mem_singleton] at hs; subst hs; exact ⟨hl, by simp, h.add⟩
    · cases hs
  · split at hs
    · rw [List.mem_singleton] at hs; subst hs; exact ⟨by simp, by simp, fun x hx => by cases hx⟩
    · cases hs
theorem WBd.keep {w : DWr} {n : Int} {c : List Attr} (h : WBd w) (hl : w.add.length ≤ 400000000000) (hc : c.length ≤ 400000000000) : WBd ⟨keepD (flushD w) n c, [], 0⟩ := by
  have hf := h.flush hl
  refine ⟨fun s hs => ?_, fun x hx => by cases hx⟩
  simp only at hs
  unfold keepD at hs
  split at hs
  · rename_i q
    rw [setD q.1, List.mem_append] at hs
    rcases hs with hs | hs
    · exact hf s (List.mem_of_mem_take hs)
    · rw [List.mem_singleton] at hs; subst hs
      have := hf _ (lastD_mem q.1)
      exact this
  · rw [List.mem_append] at hs
    rcases hs with hs | hs
    · exact hf s hs
    · rw [List.mem_singleton] at hs; subst hs; exact ⟨by simp, hc, fun x hx => by cases hx⟩
theorem exS_len {s : DStep} (h : DOkW s) : 1 ≤ (exS s).length ∧ (s.kind ≠ 1 → s.n ≤ (exS s).length) ∧ 0 ≤ s.n ∧ (s.kind = 1 → s.n = 0) := by
  unfold exS
  rcases h with ⟨k, n, a, e, _⟩ | ⟨k, _, _, n1, _⟩
  · rw [if_pos k, List.length_map]
    have : 0 < s.elems.length := List.length_pos_iff.2 e
    exact ⟨this, fun q => absurd k q, by omega, fun _ => n⟩
  · have k1 : ¬ s.kind = 1 := by omega
    rw [if_neg k1]
    refine ⟨?_, fun _ => ?_, by omega, fun q => absurd q k1⟩ <;> split <;> simp <;> omega
theorem exD_len : ∀ {l : List DStep}, (∀ s ∈ l, DOkW s) → l.length ≤ (exD l).length ∧ ∀ s ∈ l, 0 ≤ s.n ∧ s.n ≤ ((exD l).length : Int)
  | [], _ => ⟨Nat.le_refl _, fun s hs => by cases hs⟩
  | s :: l, h => by
    have h1 := exS_len (h s (by simp))
    have h2 := exD_len (l := l) (fun t ht => h t (by simp [ht]))
    simp only [exD, List.length_append, List.length_cons]
    refine ⟨by omega, fun t ht => ?_⟩
    rcases List.mem_cons.1 ht with rfl | ht
    · refine ⟨h1.2.2.1, ?_⟩
      by_cases k : t.kind = 1
      · have := h1.2.2.2 k; omega
      · have := h1.2.1 k; omega
    · have := h2.2 t ht; omega
/-- The writer, what it is still to be fed, how much that is in all, and where it ends. -/
structure DI (w : DWr) (us : List DU) (T : Nat) (G : DWr) : Prop where
  good : GoodD w
  wb : WBd w
  units : ∀ u ∈ us, UnitOk u
  len : (exDW w).length + us.length = T
  small : T ≤ 8589934592
  eq : foldD w us = G
variable {w G : DWr} {us : List DU} {T : Nat}
theorem DI.bd (h : DI w us T G) : w.out.length ≤ T ∧ w.add.length ≤ T ∧ 0 ≤ w.cut ∧ w.cut ≤ T ∧ us.length ≤ T ∧ T ≤ 8589934592 ∧ w.add.length + us.length ≤ T ∧ w.cut + us.length ≤ T := by
  have h1 := (exD_len h.good.ok).1
  have h2 := h.good.cut
  have h3 := h.len
  have h4 := h.small
  unfold exDW at h3
  simp only [List.length_append, List.length_replicate, List.length_map] at h3
  omega
theorem DI.fl (h : DI w us T G) : (∀ s ∈ flushD w, 0 ≤ s.n ∧ s.n ≤ 10000000000) ∧ DN 400000000000 (flushD w) := by
  have hb := h.bd
  refine ⟨fun s hs => ?_, h.wb.flush (by omega)⟩
  have h1 := (exD_len (flushD_ok h.good).1).2 s hs
  rw [flushD_ex h.good] at h1
  have h3 := h.len
  omega
theorem DI.keep {n : Nat} {c : List Attr} (h : DI w (List.replicate (n + 1) (.K c) ++ us) T G) : DI ⟨keepD (flushD w) ((n + 1 : Nat) : Int) c, [], 0⟩ us T G := by
  have hu := h.units (.K c) (by rw [List.replicate_succ]; simp)
  have hb := h.bd
  obtain ⟨g1, g2⟩ := h.good.keep (n := ((n + 1 : Nat) : Int)) (by omega) hu.1
  refine ⟨g1, h.wb.keep (by omega) hu.2, fun u hu => h.units u (by simp [hu]), ?_, h.small, ?_⟩
  · have h3 := h.len
    rw [g2]
    simp only [List.length_append, List.length_replicate] at h3 ⊢
    omega
  · rw [← h.eq, foldD_Ks]
theorem dsw_len {u v : List DU} (h : DSw u v) : u.length = v.length := by
  induction h with
  | refl u => rfl
  | cons x _ ih => simp [ih]
  | swap e u => rfl
  | symm _ ih => exact ih.symm
  | trans _ _ a b => exact a.trans b
theorem DI.elems {e : List Elem} (h : DI w (e.map .A ++ us) T G) : DI ⟨w.out, w.add ++ e, w.cut⟩ us T G := by
  have hu : ∀ x ∈ e, UnitOk (.A x) := fun x hx => h.units (.A x) (by simp [hx])
  obtain ⟨g1, g2⟩ := h.good.elems (e := e) (fun x hx => (hu x hx).1)
  refine ⟨g1, ⟨h.wb.out, fun x hx => ?_⟩, fun u hu => h.units u (by simp [hu]), ?_, h.small, ?_⟩
  · rcases List.mem_append.1 hx with hx | hx
    · exact h.wb.add x hx
    · exact (hu x hx).2
  · have h3 := h.len
    rw [dsw_len g2]
    simp only [List.length_append, List.length_map] at h3 ⊢
    omega
  · rw [← h.eq, foldD_As]
theorem DI.cuts {n : Nat} (h : DI w (List.replicate n .C ++ us) T G) : DI ⟨w.out, w.add, w.cut + n⟩ us T G := by
  obtain ⟨g1, g2⟩ := h.good.cuts (n := (n : Int)) (by omega)
  refine ⟨g1, ⟨h.wb.out, h.wb.add⟩, fun u hu => h.units u (by simp [hu]), ?_, h.small, ?_⟩
  · have h3 := h.len
    rw [g2]
    simp only [List.length_append, List.length_replicate] at h3 ⊢
    omega
  · rw [← h.eq, foldD_Cs]
theorem DI.done (h : DI w [] T G) : w = G := h.eq
def doneD (us : List DU) : List DStep := flushD (foldD ⟨[], [], 0⟩ us)
theorem DI.start (h : ∀ u ∈ us, UnitOk u) (hs : us.length ≤ 8589934592) : DI ⟨[], [], 0⟩ us us.length (foldD ⟨[], [], 0⟩ us) :=
  ⟨goodD0, ⟨fun s h => (by cases h), fun x h => (by cases h)⟩, h, by simp [exDW, exD], hs, rfl⟩
theorem foldD_ok : ∀ (us : List DU) (w : DWr), GoodD w → (∀ u ∈ us, UnitOk u) → GoodD (foldD w us) ∧ DSw (exDW (foldD w us)) (exDW w ++ us)
  | [], w, h, _ => ⟨h, by simp only [foldD, List.append_nil]; exact .refl _⟩
  | u :: us, w, h, hu => by
    have h0 := hu u (by simp)
    have hp : GoodD (putU w u) ∧ DSw (exDW (putU w u)) (exDW w ++ [u]) := by
      cases u with
      | K c =>
        obtain ⟨g1, g2⟩ := h.keep (n := 1) (by decide) h0.1
        exact ⟨g1, by simp only [putU]; rw [g2]; exact .refl _⟩
      | A e =>
        obtain ⟨g1, g2⟩ := h.elems (e := [e]) (fun x hx => by rw [List.mem_singleton] at hx; subst hx; exact h0.1)
        exact ⟨g1, g2⟩
      | C =>
        obtain ⟨g1, g2⟩ := h.cuts (n := 1) (by decide)
        exact ⟨g1, by simp only [putU]; rw [g2]; exact .refl _⟩
    obtain ⟨q1, q2⟩ := foldD_ok us (putU w u) hp.1 (fun v hv => hu v (by simp [hv]))
    refine ⟨q1, .trans q2 ?_⟩
    have := hp.2.right us
    simpa using this
theorem doneD_ok (h : ∀ u ∈ us, UnitOk u) (h1 : oldN us ≤ 2147483647) (h2 : newN us ≤ 2147483647) :
    DValid (doneD us) ∧ DSw (exD (doneD us)) us ∧ oldD (doneD us) = oldN us ∧ newD (doneD us) = newN us := by
  obtain ⟨q1, q2⟩ := foldD_ok us ⟨[], [], 0⟩ goodD0 h
  exact q1.valid (by simpa [exDW, exD] using q2) h1 h2
theorem len_sum (us : List DU) : us.length ≤ oldN us + newN us := by
  induction us with
  | nil => simp [oldN]
  | cons u us ih => cases u <;> simp [oldN, newN] <;> omega
end Go.Ch
end
section
set_option linter.unusedVariables false
set_option linter.unusedSimpArgs false
namespace Go.Ch
open Go Go.Ab

theorem fm_len' (g : Attr → Attr → Option Attr) (a b : List Attr) : (fm g a b).length ≤ a.length + b.length := by
  unfold fm
  exact Nat.le_trans (List.length_filterMap_le _ _) (bothL_len a b)
def bk (c : List Attr) (x : Elem) : List Attr := fm chgG (fm rawG x.attrs c) x.attrs
def KOk (us : List DU) : Prop := (∀ c, DU.K c ∈ us → VG true c ∧ c.length ≤ 100000000000) ∧ (∀ e, DU.A e ∈ us → elemE e = 0 ∧ e.attrs.length ≤ 100000000000)
def EOk (r : List Elem) : Prop := ∀ x ∈ r, elemE x = 0 ∧ x.attrs.length ≤ 100000000000
theorem KOk.tail {u : DU} {us : List DU} (h : KOk (u :: us)) : KOk us := ⟨fun c hc => h.1 c (by simp [hc]), fun e he => h.2 e (by simp [he])⟩
theorem EOk.tail {x : Elem} {r : List Elem} (h : EOk (x :: r)) : EOk r := fun y hy => h y (by simp [hy])
theorem undoU_units : ∀ (us : List DU) (r : List Elem), KOk us → EOk r → ∀ u ∈ undoU us r, UnitOk u
  | [], _, _, _, u, hu => by simp [undoU] at hu
  | .A e :: us, r, hk, hr, u, hu => by
    simp only [undoU, List.mem_cons] at hu
    rcases hu with rfl | hu
    · trivial
    · exact undoU_units us r hk.tail hr u hu
  | .K c :: us, [], hk, hr, u, hu => undoU_units us [] hk.tail hr u (by simpa [undoU] using hu)
  | .C :: us, [], hk, hr, u, hu => undoU_units us [] hk.tail hr u (by simpa [undoU] using hu)
  | .K c :: us, x :: r, hk, hr, u, hu => by
    simp only [undoU, List.mem_cons] at hu
    rcases hu with rfl | hu
    · have h1 := hk.1 c (by simp)
      have h2 := hr x (by simp)
      have v := elem_ok h2.1
      refine ⟨chg_V np_mt (raw_V np_mt v h1.1) v, ?_⟩
      have l1 := fm_len' chgG (fm rawG x.attrs c) x.attrs
      have l2 := fm_len' rawG x.attrs c
      omega
    · exact undoU_units us r hk.tail hr.tail u hu
  | .C :: us, x :: r, hk, hr, u, hu => by
    simp only [undoU, List.mem_cons] at hu
    rcases hu with rfl | hu
    · have h2 := hr x (by simp)
      exact ⟨h2.1, by omega⟩
    · exact undoU_units us r hk.tail hr.tail u hu
theorem undoU_lens : ∀ (us : List DU) (r : List Elem), oldN us = r.length → oldN (undoU us r) = newN us ∧ newN (undoU us r) = r.length
  | [], r, h => by simp only [oldN] at h; simp [undoU, oldN, newN, ← h]
  | .A e :: us, r, h => by
    have := undoU_lens us r (by simpa [oldN] using h)
    simp [undoU, oldN, newN, this.1, this.2]
  | .K c :: us, [], h => by simp [oldN] at h
  | .C :: us, [], h => by simp [oldN] at h
  | .K c :: us, x :: r, h => by
    have := undoU_lens us r (by simpa [oldN] using h)
    simp [undoU, oldN, newN, this.1, this.2]
  | .C :: us, x :: r, h => by
    have := undoU_lens us r (by simpa [oldN] using h)
    simp [undoU, oldN, newN, this.1, this.2]
theorem applyU_len : ∀ (us : List DU) (r : List Elem), oldN us = r.length → (applyU us r).length = newN us
  | [], r, h => by simp [applyU, newN]
  | .A e :: us, r, h => by
    have := applyU_len us r (by simpa [oldN] using h)
    simp [applyU, newN, this]
  | .K c :: us, [], h => by simp [oldN] at h
  | .C :: us, [], h => by simp [oldN] at h
  | .K c :: us, x :: r, h => by
    have := applyU_len us r (by simpa [oldN] using h)
    simp [applyU, newN, this]
  | .C :: us, x :: r, h => by
    have := applyU_len us r (by simpa [oldN] using h)
    simp [applyU, newN, this]
theorem chgE_ok {x : Elem} {c : List Attr} (h : elemE x = 0) (hc : VG true c) : elemE (chgE c x) = 0 := by
  have v := raw_V np_mt (elem_ok h) hc
  unfold elemE at h ⊢
  unfold chgE
  simp only
  split at h
  · omega
  · rename_i q1
    rw [if_neg q1]
    split at h
    · omega
    · rename_i q2
      rw [if_neg q2]
      exact chk_iff.2 v
theorem applyU_ok : ∀ (us : List DU) (r : List Elem), KOk us → EOk r → ∀ x ∈ applyU us r, elemE x = 0 ∧ x.attrs.length ≤ 200000000000
  | [], _, _, _, u, hu => by simp [applyU] at hu
  | .A e :: us, r, hk, hr, u, hu => by
    simp only [applyU, List.mem_cons] at hu
    rcases hu with rfl | hu
    · have := hk.2 u (by simp); exact ⟨this.1, by omega⟩
    · exact applyU_ok us r hk.tail hr u hu
  | .K c :: us, [], hk, hr, u, hu => applyU_ok us [] hk.tail hr u (by simpa [applyU] using hu)
  | .C :: us, [], hk, hr, u, hu => applyU_ok us [] hk.tail hr u (by simpa [applyU] using hu)
  | .K c :: us, x :: r, hk, hr, u, hu => by
    simp only [applyU, List.mem_cons] at hu
    rcases hu with rfl | hu
    · have h1 := hk.1 c (by simp)
      have h2 := hr x (by simp)
      refine ⟨chgE_ok h2.1 h1.1, ?_⟩
      have l2 := fm_len' rawG x.attrs c
      show (fm rawG x.attrs c).length ≤ _
      omega
    · exact applyU_ok us r hk.tail hr.tail u hu
  | .C :: us, x :: r, hk, hr, u, hu => by
    simp only [applyU] at hu
    exact applyU_ok us r hk.tail hr.tail u hu
theorem exD_K {l : List DStep} (h : ∀ s ∈ l, DOk s) (hd : DN 100000000000 l) : KOk (exD l) := by
  induction l with
  | nil => exact ⟨fun c hc => by simp [exD] at hc, fun c hc => by simp [exD] at hc⟩
  | cons s l ih =>
    obtain ⟨i1, i2⟩ := ih (fun t ht => h t (by simp [ht])) (fun t ht => hd t (by simp [ht]))
    have hs := h s (by simp)
    obtain ⟨b1, b2, b3⟩ := hd s (by simp)
    refine ⟨fun c hc => ?_, fun e he => ?_⟩
    · simp only [exD, List.mem_append] at hc
      rcases hc with hc | hc
      · unfold exS at hc
        rcases hs with ⟨k, _⟩ | ⟨k, _, _, _, _, v⟩
        · rw [if_pos k] at hc; simp at hc
        · rw [if_neg (by omega)] at hc
          split at hc
          · simp [List.mem_replicate] at hc
          · have := List.eq_of_mem_replicate hc
            cases this
            exact ⟨v, b2⟩
      · exact i1 c hc
    · simp only [exD, List.mem_append] at he
      rcases he with he | he
      · unfold exS at he
        rcases hs with ⟨k, _, _, _, q⟩ | ⟨k, _⟩
        · rw [if_pos k, List.mem_map] at he
          obtain ⟨x, hx, e1⟩ := he
          cases e1
          exact ⟨q _ hx, b3 _ hx⟩
        · rw [if_neg (by omega)] at he
          split at he
          · simp [List.mem_replicate] at he
          · simp [List.mem_replicate] at he
      · exact i2 e he
def undoD (f : List Elem) (l : List DStep) : List DStep := doneD (undoU (exD l) f)
theorem okU_of {us : List DU} (h : KOk us) : UOk us := by
  induction us with
  | nil => trivial
  | cons u us ih =>
    cases u with
    | K c => exact ⟨(h.1 c (by simp)).1, ih h.tail⟩
    | A e => exact ih h.tail
    | C => exact ih h.tail
theorem undo_final {f : List Elem} {l : List DStep} (hv : DValid l) (hd : DN 100000000000 l) (hf : EOk f) (hlen : oldD l = f.length) :
    KOk (exD l) ∧ oldN (exD l) = f.length ∧ (newN (exD l) : Int) = newD l ∧ (∀ u ∈ undoU (exD l) f, UnitOk u) ∧ (undoU (exD l) f).length ≤ 8589934592 ∧
    DValid (undoD f l) ∧ oldD (undoD f l) = newD l ∧ newD (undoD f l) = f.length ∧ (∀ x ∈ rawD f l, elemE x = 0 ∧ x.attrs.length ≤ 200000000000) ∧
    ((rawD f l).length : Int) = newD l ∧ rawD (rawD f l) (undoD f l) = f := by
  have hk := exD_K hv.1.all hd
  have hw : ∀ s ∈ l, DOkW s := fun s hs => okW (hv.1.all s hs)
  obtain ⟨n1, n2⟩ := lens_D hw
  have o1 : oldN (exD l) = f.length := by omega
  have hu := undoU_units _ _ hk hf
  obtain ⟨m1, m2⟩ := undoU_lens _ _ o1
  have hs := len_sum (undoU (exD l) f)
  have v1 := hv.2.1
  have v2 := hv.2.2
  obtain ⟨d1, d2, d3, d4⟩ := doneD_ok hu (by omega) (by omega)
  have ha := applyU_len _ _ o1
  refine ⟨hk, o1, n2, hu, by omega, d1, ?_, ?_, applyU_ok _ _ hk hf, ?_, ?_⟩
  · show oldD (doneD _) = _; omega
  · show newD (doneD _) = _; omega
  · show ((applyU (exD l) f).length : Int) = _; omega
  · show applyU (exD (doneD _)) (applyU (exD l) f) = f
    rw [sw_applyU d2]
    exact undoU_back _ _ o1 (okU_of hk) (fun x hx => elem_ok (hf x hx).1)
variable {w G : DWr} {us : List DU} {T : Nat}
theorem DI.run {g : Elem → List Attr} {t : List Elem} {j : Nat} (hj : j < t.length) (h : DI w ((t.drop j).map (fun x => DU.K (g x)) ++ us) T G) :
    UnitOk (.K (g (t.getD j default))) ∧ DI ⟨keepD (flushD w) 1 (g (t.getD j default)), [], 0⟩ ((t.drop (j + 1)).map (fun x => DU.K (g x)) ++ us) T G := by
  rw [dropD hj, List.map_cons, List.cons_append] at h
  exact ⟨h.units _ (by simp), h.keep (n := 0)⟩
theorem DN.mono {m n : Nat} {l : List DStep} (h : DN m l) (hm : m ≤ n) : DN n l := fun s hs => ⟨Nat.le_trans (h s hs).1 hm, Nat.le_trans (h s hs).2.1 hm, fun x hx => Nat.le_trans ((h s hs).2.2 x hx) hm⟩
theorem EOk.an {f : List Elem} (h : EOk f) : AN 400000000000 f := fun x hx => by have := (h x hx).2; omega
theorem EOk.take {f : List Elem} (h : EOk f) (n : Nat) : EOk (f.take n) := fun x hx => h x (List.mem_of_mem_take hx)
theorem EOk.drop {f : List Elem} (h : EOk f) (n : Nat) : EOk (f.drop n) := fun x hx => h x (List.mem_of_mem_drop hx)
end Go.Ch
end
section
set_option linter.unusedVariables false
set_option linter.unusedSimpArgs false
set_option maxRecDepth 100000
set_option maxHeartbeats 4000000
open Go Go.Proofs Go.Ab
namespace Go.Ch
end Go.Ch
end
section
set_option linter.unusedVariables false
set_option linter.unusedSimpArgs false
namespace Go.Ch
open Go Go.Ab

def elemsT (l : List Elem) : Tree := .lst 3 (l.map elemT)
def boolT (b : Bool) : Tree := .sc (.bool b)
def attrsT (l : List Attr) : Tree := .lst 2 (l.map attrT)
structure Act where
  ins : List (List Elem)
  cut : List Bool
  set : List (List Attr)
def actT (x : Act) : Tree := .agg [.lst 1 (x.ins.map elemsT), .lst 1 (x.cut.map boolT), .lst 1 (x.set.map attrsT)]
/-- What is left from place i on, as units. -/
def actR (x : Act) (i : Nat) : List DU :=
  if i < x.cut.length then (x.ins.getD i default).map .A ++ ((if x.cut.getD i default = true then .C else .K (x.set.getD i default)) :: actR x (i + 1))
  else (x.ins.getD i default).map .A
termination_by x.cut.length - i
def tailR (x : Act) (i : Nat) : List DU := if i < x.cut.length then (if x.cut.getD i default = true then .C else .K (x.set.getD i default)) :: actR x (i + 1) else []
theorem actR_eq (x : Act) (i : Nat) : actR x i = (x.ins.getD i default).map .A ++ tailR x i := by
  unfold tailR
  rw [actR]
  split <;> simp
theorem tailR_C {x : Act} {i : Nat} (h : i < x.cut.length) (k : x.cut.getD i default = true) : tailR x i = .C :: actR x (i + 1) := by unfold tailR; rw [if_pos h, if_pos k]
theorem tailR_K {x : Act} {i : Nat} (h : i < x.cut.length) (k : x.cut.getD i default = false) : tailR x i = .K (x.set.getD i default) :: actR x (i + 1) := by unfold tailR; rw [if_pos h, if_neg (by rw [k]; decide)]
theorem tailR_e {x : Act} {i : Nat} (h : ¬ i < x.cut.length) : tailR x i = [] := by unfold tailR; rw [if_neg h]
theorem actR_cut (x : Act) : ∀ (n i : Nat), x.cut.length - i = n → n ≤ (actR x i).length
  | 0, i, h => Nat.zero_le _
  | n + 1, i, h => by
    have := actR_cut x n (i + 1) (by omega)
    rw [actR, if_pos (by omega)]
    simp only [List.length_append, List.length_cons]
    omega
variable {w G : DWr} {us : List DU} {T : Nat}
theorem DI.keep1 {c : List Attr} (h : DI w (.K c :: us) T G) : DI ⟨keepD (flushD w) 1 c, [], 0⟩ us T G := DI.keep (n := 0) h
theorem DI.cut1 (h : DI w (.C :: us) T G) : DI ⟨w.out, w.add, w.cut + 1⟩ us T G := DI.cuts (n := 1) h
theorem DI.of_eq {o o' : List DStep} {a : List Elem} {c : Int} (e : o' = o) (h : DI ⟨o, a, c⟩ us T G) : DI ⟨o', a, c⟩ us T G := e ▸ h
end Go.Ch
end
section
set_option linter.unusedVariables false
set_option linter.unusedSimpArgs false
set_option maxRecDepth 100000
set_option maxHeartbeats 4000000
open Go Go.Proofs Go.Ab
namespace Go.Ch
theorem fc_deltaOf (x : Act) (h1 : x.ins.length = x.cut.length + 1) (h2 : x.set.length = x.cut.length) (hu : ∀ u ∈ actR x 0, UnitOk u) (hs : (actR x 0).length ≤ 8589934592) : FC Try.prog 101 [.t (actT x)] (app emp []) (VL 4 dstepT (doneD (actR x 0))) (app emp []) := by
 refine .go Try.f101 ?_
 have hst0 := DI.start hu hs
 have hcl := actR_cut x _ 0 rfl
 refine .loop (α := Int × Nat × (List DStep) × (List Elem)) [.r [], .r [], .r [], .r [], .r [], .le (.nR 3 4), .le (.nR 4 3)] 50 (fun (c, i, o, a) => ([(1, .ptr 0 0), (3, .row 48 o.length), (4, .row 49 a.length), (5, VI c), (6, VI (i : Int))], [(0, .box [VL 1 elemsT x.ins, VL 1 boolT x.cut, VL 1 attrsT x.set]), (48, OR 4 dstepT o), (49, OR 3 elemT a)])) (fun (c, i, o, a) => i ≤ x.cut.length ∧ DI ⟨o, a, c⟩ (actR x i) (actR x 0).length (foldD ⟨[], [], 0⟩ (actR x 0))) (fun (c, i, o, a) => x.cut.length + 1 - i) (0, 0, [], []) ?_ ?_
 ·
  exact ⟨by omega, hst0⟩
 rintro ⟨c, i, o, a⟩ I5 ih5
 try dsimp only at I5
 have hb := I5.2.bd
 simp only at hb
 refine .br [.r [(3, X (Xl boolT x.cut))]] (decide ((i : Int) ≤ (x.cut.length : Int))) (fun h5 => ?_) (fun h5 => ?_)
 ·
  (try simp only [decide_eq_true_eq, decide_eq_false_iff_not, Int.not_lt, Int.not_le] at h5)
  have hDe := (show DI ⟨o, a, c⟩ ((x.ins.getD i default).map .A ++ tailR x i) _ _ from actR_eq x i ▸ I5.2).elems
  have hb2 := hDe.bd
  simp only [List.length_append] at hb2
  have hn2 := hDe.fl.1
  refine .br [.r [(4, X (Xi elemsT x.ins (i : Int))), (6, X (Xap 3 elemT 49 a (x.ins.getD i default)))], .r [(3, X (Xl boolT x.cut)), (7, Xv 1 (decide ((i : Int) < (x.cut.length : Int))) X0), (9, Xv 2 (decide ((i : Int) < (x.cut.length : Int))) (Xi boolT x.cut (i : Int))), (10, Xv 1 (decide ((i : Int) < (x.cut.length : Int))) X0), (11, X (Xk (decide ((i : Int) < (x.cut.length : Int)))))]] (decide ((i : Int) < (x.cut.length : Int)) && (x.cut.getD i default)) (fun h8 => ?_) (fun h8 => ?_)
  ·
   (try simp only [decide_eq_true_eq, decide_eq_false_iff_not, Int.not_lt, Int.not_le, Bool.and_eq_true, Bool.and_eq_false_iff, Bool.not_eq_true', Bool.not_eq_false'] at h8)
   refine .back [.r [(1, X (Xn (c + 1)))], .r [(1, X (Xn ((i : Int) + 1)))]] [(0, 0), (48, 48), (49, 49)] (ih5 ((c + 1), (i + 1), o, (a ++ (x.ins.getD i default))) ?_ ?_)
   ·
    rw [tailR_C (by omega) h8.2] at hDe
    exact ⟨by omega, hDe.cut1⟩
   ·
    ((try dsimp only); omega)
  ·
   (try simp only [decide_eq_true_eq, decide_eq_false_iff_not, Int.not_lt, Int.not_le, Bool.and_eq_true, Bool.and_eq_false_iff, Bool.not_eq_true', Bool.not_eq_false'] at h8)
   refine .br [.r []] (decide (((a ++ (x.ins.getD i default)).length : Int) > 0)) (fun h10 => ?_) (fun h10 => ?_)
   ·
    (try simp only [decide_eq_true_eq, decide_eq_false_iff_not, Int.not_lt, Int.not_le, gt_iff_lt] at h10)
    refine .br [.r [(2, X (Xf [(2, 2)])), (3, X (rowC elemT (a ++ (x.ins.getD i default)) X0)), (4, X (rowC dstepT [({ kind := 1, n := 0, attrs := [], elems := (a ++ (x.ins.getD i default)) } : DStep)] (Xap 4 dstepT 48 o [({ kind := 1, n := 0, attrs := [], elems := (a ++ (x.ins.getD i default)) } : DStep)])))], .r []] (decide (c > 0)) (fun h12 => ?_) (fun h12 => ?_)
    ·
     (try simp only [decide_eq_true_eq, decide_eq_false_iff_not, Int.not_lt, Int.not_le, gt_iff_lt] at h12)
     obtain ⟨q, hgen⟩ : ∃ z, ((o ++ [({ kind := 1, n := 0, attrs := [], elems := (a ++ (x.ins.getD i default)) } : DStep)]) ++ [({ kind := 2, n := c, attrs := [], elems := [] } : DStep)]) = z := ⟨_, rfl⟩
     have hfq : flushD ⟨o, a ++ x.ins.getD i default, c⟩ = q := by
       rw [← hgen]
       unfold flushD
       simp only
       (first | rw [if_pos (show 0 < (a ++ x.ins.getD i default).length by omega)] | rw [if_neg (show ¬ 0 < (a ++ x.ins.getD i default).length by omega)])
       (first | rw [if_pos (show 0 < c by omega)] | rw [if_neg (show ¬ 0 < c by omega)])
       all_goals simp
     have hnq : ∀ s ∈ q, 0 ≤ s.n ∧ s.n ≤ 10000000000 := by rw [← hfq]; exact hn2
     have hql : q.length ≤ o.length + 2 := by rw [← hfq]; exact flushD_len _
     refine .br [.r [(2, X (Xf [(2, 2), (3, 3)])), (4, X (rowC dstepT [({ kind := 2, n := c, attrs := [], elems := [] } : DStep)] (Xap 4 dstepT 48 (o ++ [({ kind := 1, n := 0, attrs := [], elems := (a ++ (x.ins.getD i default)) } : DStep)]) [({ kind := 2, n := c, attrs := [], elems := [] } : DStep)])))], .le (.er 48 (List.map dstepT ((o ++ [({ kind := 1, n := 0, attrs := [], elems := (a ++ (x.ins.getD i default)) } : DStep)]) ++ [({ kind := 2, n := c, attrs := [], elems := [] } : DStep)])) (List.map dstepT q) (by rw [hgen])), .le (.eq 3 (.row 48 (((o ++ [({ kind := 1, n := 0, attrs := [], elems := (a ++ (x.ins.getD i default)) } : DStep)]) ++ [({ kind := 2, n := c, attrs := [], elems := [] } : DStep)]).length)) (.row 48 q.length) (.of_eq (by rw [← hgen]))), .r [], .r [(3, X (Xl boolT x.cut))]] ((i : Int) == (x.cut.length : Int)) (fun h15 => ?_) (fun h15 => ?_)
     ·
      (try simp only [beq_iff_eq, beq_eq_false_iff_ne, ne_eq] at h15)
      have e1 : ((doneD (actR x 0)) : List DStep) = q := by
       rw [tailR_e (by omega)] at hDe
       have hG := hDe.done
       unfold doneD
       rw [← hG]
       exact hfq
      exact .finE [.r [], .le (.fr 2 [(q.length : Nat) = (List.map dstepT q).length] ⟨lm, trivial⟩)] [] (fun z0 => (VL 4 dstepT z0, [])) (q : List DStep) ((doneD (actR x 0)) : List DStep) e1
     ·
      (try simp only [beq_iff_eq, beq_eq_false_iff_ne, ne_eq] at h15)
      refine .br [.r [(2, X (Xn ((q.length : Int) - 1)))], .r [(5, Xv 2 (decide (((q.length : Int) - 1) ≥ 0)) (Xp' dstepT 48 q ((q.length : Int) - 1) (q.length - 1))), (6, Xv 1 (decide (((q.length : Int) - 1) ≥ 0)) X0), (7, Xv 1 (decide (((q.length : Int) - 1) ≥ 0)) (Xe dstepT q (q.length - 1))), (8, Xv 1 (decide (((q.length : Int) - 1) ≥ 0)) X0), (9, X (Xk (decide (((q.length : Int) - 1) ≥ 0)))), (13, Xv 2 (decide (((q.length : Int) - 1) ≥ 0) && ((((q.getD (q.length - 1) default)).kind) == 0)) (Xp' dstepT 48 q ((q.length : Int) - 1) (q.length - 1))), (14, Xv 1 (decide (((q.length : Int) - 1) ≥ 0) && ((((q.getD (q.length - 1) default)).kind) == 0)) X0), (15, Xv 1 (decide (((q.length : Int) - 1) ≥ 0) && ((((q.getD (q.length - 1) default)).kind) == 0)) (Xe dstepT q (q.length - 1))), (17, Xv 1 (decide (((q.length : Int) - 1) ≥ 0) && ((((q.getD (q.length - 1) default)).kind) == 0)) X0), (19, Xv 2 (decide (((q.length : Int) - 1) ≥ 0) && ((((q.getD (q.length - 1) default)).kind) == 0)) (Xi attrsT x.set (i : Int))), (20, Xv 1 (decide (((q.length : Int) - 1) ≥ 0) && ((((q.getD (q.length - 1) default)).kind) == 0)) X0), (21, Xv 2 (decide (((q.length : Int) - 1) ≥ 0) && ((((q.getD (q.length - 1) default)).kind) == 0)) (Xc0 (fc_sameAttrs (((q.getD (q.length - 1) default)).attrs) (x.set.getD i default)) X0)), (22, X (Xk (decide (((q.length : Int) - 1) ≥ 0) && ((((q.getD (q.length - 1) default)).kind) == 0))))]] ((decide (((q.length : Int) - 1) ≥ 0) && ((((q.getD (q.length - 1) default)).kind) == 0)) && (sameL (((q.getD (q.length - 1) default)).attrs) (x.set.getD i default))) (fun h17 => ?_) (fun h17 => ?_)
      ·
       (try simp only [decide_eq_true_eq, decide_eq_false_iff_not, Int.not_lt, Int.not_le, ge_iff_le, Bool.and_eq_true, Bool.and_eq_false_iff, Bool.not_eq_true', Bool.not_eq_false', beq_iff_eq, beq_eq_false_iff_ne, ne_eq] at h17)
       refine .at 658 [(0, 0), (48, 48)] ([(1, .ptr 0 0), (3, .row 48 q.length), (4, VN), (5, VI 0), (6, VI (i : Int)), (7, VI ((q.length : Int) - 1)), (81, VB ((decide (((q.length : Int) - 1) ≥ 0) && ((((q.getD (q.length - 1) default)).kind) == 0)) && (sameL (((q.getD (q.length - 1) default)).attrs) (x.set.getD i default))))], [(0, .box [VL 1 elemsT x.ins, VL 1 boolT x.cut, VL 1 attrsT x.set]), (48, OR 4 dstepT q)]) ?_
       have hlast := fun h : 0 < q.length => hnq _ (lastD_mem h)
       refine .back [.r [(2, X (Xp' dstepT 48 q ((q.length : Int) - 1) (q.length - 1))), (4, X (Xe dstepT q (q.length - 1))), (5, X (Xn ((((q.getD (q.length - 1) default)).n) + 1))), (6, X (Xp' dstepT 48 q ((q.length : Int) - 1) (q.length - 1))), (8, X (Xs 4 dstepT 48 q (q.length - 1) ({ kind := ((q.getD (q.length - 1) default)).kind, n := ((((q.getD (q.length - 1) default)).n) + 1), attrs := ((q.getD (q.length - 1) default)).attrs, elems := ((q.getD (q.length - 1) default)).elems } : DStep)))], .r [(1, X (Xn ((i : Int) + 1)))], .le (.nR 4 3), .le (.eq 3 (.row 48 q.length) (.row 48 ((q.set (q.length - 1) ({ kind := ((q.getD (q.length - 1) default)).kind, n := ((((q.getD (q.length - 1) default)).n) + 1), attrs := ((q.getD (q.length - 1) default)).attrs, elems := ((q.getD (q.length - 1) default)).elems } : DStep)).length)) (.of_eq (by simp only [List.length_set])))] [(0, 0), (48, 48), (754, 49)] (ih5 (0, (i + 1), (q.set (q.length - 1) ({ kind := ((q.getD (q.length - 1) default)).kind, n := ((((q.getD (q.length - 1) default)).n) + 1), attrs := ((q.getD (q.length - 1) default)).attrs, elems := ((q.getD (q.length - 1) default)).elems } : DStep)), []) ?_ ?_)
       ·
        rw [tailR_K (by omega) (by rcases h8 with h8 | h8; omega; exact h8)] at hDe
        refine ⟨by omega, DI.of_eq ?_ hDe.keep1⟩
        simp only
        rw [hfq]
        unfold keepD
        split
        · rename_i z; first | rfl | (exfalso; rcases h17 with (h | h) | h; omega; exact h z.2.1; (rw [z.2.2] at h; cases h))
        · rename_i z; first | rfl | exact absurd ⟨by omega, h17.1.2, h17.2⟩ z
       ·
        ((try dsimp only); omega)
      ·
       (try simp only [decide_eq_true_eq, decide_eq_false_iff_not, Int.not_lt, Int.not_le, ge_iff_le, Bool.and_eq_true, Bool.and_eq_false_iff, Bool.not_eq_true', Bool.not_eq_false', beq_iff_eq, beq_eq_false_iff_ne, ne_eq] at h17)
       refine .at 658 [(0, 0), (48, 48)] ([(1, .ptr 0 0), (3, .row 48 q.length), (4, VN), (5, VI 0), (6, VI (i : Int)), (7, VI ((q.length : Int) - 1)), (81, VB ((decide (((q.length : Int) - 1) ≥ 0) && ((((q.getD (q.length - 1) default)).kind) == 0)) && (sameL (((q.getD (q.length - 1) default)).attrs) (x.set.getD i default))))], [(0, .box [VL 1 elemsT x.ins, VL 1 boolT x.cut, VL 1 attrsT x.set]), (48, OR 4 dstepT q)]) ?_
       refine .back [.r [(4, X (Xi attrsT x.set (i : Int))), (6, X (Xf [(3, 3)])), (8, X (rowC dstepT [({ kind := 0, n := 1, attrs := (x.set.getD i default), elems := [] } : DStep)] (Xap 4 dstepT 48 q [({ kind := 0, n := 1, attrs := (x.set.getD i default), elems := [] } : DStep)])))], .r [(1, X (Xn ((i : Int) + 1)))], .le (.nR 4 3)] [(0, 0), (48, 48), (762, 49)] (ih5 (0, (i + 1), (q ++ [({ kind := 0, n := 1, attrs := (x.set.getD i default), elems := [] } : DStep)]), []) ?_ ?_)
       ·
        rw [tailR_K (by omega) (by rcases h8 with h8 | h8; omega; exact h8)] at hDe
        refine ⟨by omega, DI.of_eq ?_ hDe.keep1⟩
        simp only
        rw [hfq]
        unfold keepD
        split
        · rename_i z; first | rfl | (exfalso; rcases h17 with (h | h) | h; omega; exact h z.2.1; (rw [z.2.2] at h; cases h))
        · rename_i z; first | rfl | exact absurd ⟨by omega, h17.1.2, h17.2⟩ z
       ·
        ((try dsimp only); omega)
    ·
     (try simp only [decide_eq_true_eq, decide_eq_false_iff_not, Int.not_lt, Int.not_le, gt_iff_lt] at h12)
     obtain ⟨q, hgen⟩ : ∃ z, (o ++ [({ kind := 1, n := 0, attrs := [], elems := (a ++ (x.ins.getD i default)) } : DStep)]) = z := ⟨_, rfl⟩
     have hfq : flushD ⟨o, a ++ x.ins.getD i default, c⟩ = q := by
       rw [← hgen]
       unfold flushD
       simp only
       (first | rw [if_pos (show 0 < (a ++ x.ins.getD i default).length by omega)] | rw [if_neg (show ¬ 0 < (a ++ x.ins.getD i default).length by omega)])
       (first | rw [if_pos (show 0 < c by omega)] | rw [if_neg (show ¬ 0 < c by omega)])
       all_goals simp
     have hnq : ∀ s ∈ q, 0 ≤ s.n ∧ s.n ≤ 10000000000 := by rw [← hfq]; exact hn2
     have hql : q.length ≤ o.length + 2 := by rw [← hfq]; exact flushD_len _
     refine .br [.le (.er 48 (List.map dstepT (o ++ [({ kind := 1, n := 0, attrs := [], elems := (a ++ (x.ins.getD i default)) } : DStep)])) (List.map dstepT q) (by rw [hgen])), .le (.eq 3 (.row 48 ((o ++ [({ kind := 1, n := 0, attrs := [], elems := (a ++ (x.ins.getD i default)) } : DStep)]).length)) (.row 48 q.length) (.of_eq (by rw [← hgen]))), .r [], .r [(3, X (Xl boolT x.cut))]] ((i : Int) == (x.cut.length : Int)) (fun h15 => ?_) (fun h15 => ?_)
     ·
      (try simp only [beq_iff_eq, beq_eq_false_iff_ne, ne_eq] at h15)
      have e2 : ((doneD (actR x 0)) : List DStep) = q := by
       rw [tailR_e (by omega)] at hDe
       have hG := hDe.done
       unfold doneD
       rw [← hG]
       exact hfq
      exact .finE [.r [], .le (.fr 2 [(q.length : Nat) = (List.map dstepT q).length] ⟨lm, trivial⟩)] [] (fun z0 => (VL 4 dstepT z0, [])) (q : List DStep) ((doneD (actR x 0)) : List DStep) e2
     ·
      (try simp only [beq_iff_eq, beq_eq_false_iff_ne, ne_eq] at h15)
      refine .br [.r [(2, X (Xn ((q.length : Int) - 1)))], .r [(5, Xv 2 (decide (((q.length : Int) - 1) ≥ 0)) (Xp' dstepT 48 q ((q.length : Int) - 1) (q.length - 1))), (6, Xv 1 (decide (((q.length : Int) - 1) ≥ 0)) X0), (7, Xv 1 (decide (((q.length : Int) - 1) ≥ 0)) (Xe dstepT q (q.length - 1))), (8, Xv 1 (decide (((q.length : Int) - 1) ≥ 0)) X0), (9, X (Xk (decide (((q.length : Int) - 1) ≥ 0)))), (13, Xv 2 (decide (((q.length : Int) - 1) ≥ 0) && ((((q.getD (q.length - 1) default)).kind) == 0)) (Xp' dstepT 48 q ((q.length : Int) - 1) (q.length - 1))), (14, Xv 1 (decide (((q.length : Int) - 1) ≥ 0) && ((((q.getD (q.length - 1) default)).kind) == 0)) X0), (15, Xv 1 (decide (((q.length : Int) - 1) ≥ 0) && ((((q.getD (q.length - 1) default)).kind) == 0)) (Xe dstepT q (q.length - 1))), (17, Xv 1 (decide (((q.length : Int) - 1) ≥ 0) && ((((q.getD (q.length - 1) default)).kind) == 0)) X0), (19, Xv 2 (decide (((q.length : Int) - 1) ≥ 0) && ((((q.getD (q.length - 1) default)).kind) == 0)) (Xi attrsT x.set (i : Int))), (20, Xv 1 (decide (((q.length : Int) - 1) ≥ 0) && ((((q.getD (q.length - 1) default)).kind) == 0)) X0), (21, Xv 2 (decide (((q.length : Int) - 1) ≥ 0) && ((((q.getD (q.length - 1) default)).kind) == 0)) (Xc0 (fc_sameAttrs (((q.getD (q.length - 1) default)).attrs) (x.set.getD i default)) X0)), (22, X (Xk (decide (((q.length : Int) - 1) ≥ 0) && ((((q.getD (q.length - 1) default)).kind) == 0))))]] ((decide (((q.length : Int) - 1) ≥ 0) && ((((q.getD (q.length - 1) default)).kind) == 0)) && (sameL (((q.getD (q.length - 1) default)).attrs) (x.set.getD i default))) (fun h17 => ?_) (fun h17 => ?_)
      ·
       (try simp only [decide_eq_true_eq, decide_eq_false_iff_not, Int.not_lt, Int.not_le, ge_iff_le, Bool.and_eq_true, Bool.and_eq_false_iff, Bool.not_eq_true', Bool.not_eq_false', beq_iff_eq, beq_eq_false_iff_ne, ne_eq] at h17)
       refine .at 610 [(0, 0), (48, 48)] ([(1, .ptr 0 0), (3, .row 48 q.length), (4, VN), (5, VI 0), (6, VI (i : Int)), (7, VI ((q.length : Int) - 1)), (81, VB ((decide (((q.length : Int) - 1) ≥ 0) && ((((q.getD (q.length - 1) default)).kind) == 0)) && (sameL (((q.getD (q.length - 1) default)).attrs) (x.set.getD i default))))], [(0, .box [VL 1 elemsT x.ins, VL 1 boolT x.cut, VL 1 attrsT x.set]), (48, OR 4 dstepT q)]) ?_
       have hlast := fun h : 0 < q.length => hnq _ (lastD_mem h)
       refine .back [.r [(2, X (Xp' dstepT 48 q ((q.length : Int) - 1) (q.length - 1))), (4, X (Xe dstepT q (q.length - 1))), (5, X (Xn ((((q.getD (q.length - 1) default)).n) + 1))), (6, X (Xp' dstepT 48 q ((q.length : Int) - 1) (q.length - 1))), (8, X (Xs 4 dstepT 48 q (q.length - 1) ({ kind := ((q.getD (q.length - 1) default)).kind, n := ((((q.getD (q.length - 1) default)).n) + 1), attrs := ((q.getD (q.length - 1) default)).attrs, elems := ((q.getD (q.length - 1) default)).elems } : DStep)))], .r [(1, X (Xn ((i : Int) + 1)))], .le (.nR 4 3), .le (.eq 3 (.row 48 q.length) (.row 48 ((q.set (q.length - 1) ({ kind := ((q.getD (q.length - 1) default)).kind, n := ((((q.getD (q.length - 1) default)).n) + 1), attrs := ((q.getD (q.length - 1) default)).attrs, elems := ((q.getD (q.length - 1) default)).elems } : DStep)).length)) (.of_eq (by simp only [List.length_set])))] [(0, 0), (48, 48), (706, 49)] (ih5 (0, (i + 1), (q.set (q.length - 1) ({ kind := ((q.getD (q.length - 1) default)).kind, n := ((((q.getD (q.length - 1) default)).n) + 1), attrs := ((q.getD (q.length - 1) default)).attrs, elems := ((q.getD (q.length - 1) default)).elems } : DStep)), []) ?_ ?_)
       ·
        rw [tailR_K (by omega) (by rcases h8 with h8 | h8; omega; exact h8)] at hDe
        refine ⟨by omega, DI.of_eq ?_ hDe.keep1⟩
        simp only
        rw [hfq]
        unfold keepD
        split
        · rename_i z; first | rfl | (exfalso; rcases h17 with (h | h) | h; omega; exact h z.2.1; (rw [z.2.2] at h; cases h))
        · rename_i z; first | rfl | exact absurd ⟨by omega, h17.1.2, h17.2⟩ z
       ·
        ((try dsimp only); omega)
      ·
       (try simp only [decide_eq_true_eq, decide_eq_false_iff_not, Int.not_lt, Int.not_le, ge_iff_le, Bool.and_eq_true, Bool.and_eq_false_iff, Bool.not_eq_true', Bool.not_eq_false', beq_iff_eq, beq_eq_false_iff_ne, ne_eq] at h17)
       refine .at 610 [(0, 0), (48, 48)] ([(1, .ptr 0 0), (3, .row 48 q.length), (4, VN), (5, VI 0), (6, VI (i : Int)), (7, VI ((q.length : Int) - 1)), (81, VB ((decide (((q.length : Int) - 1) ≥ 0) && ((((q.getD (q.length - 1) default)).kind) == 0)) && (sameL (((q.getD (q.length - 1) default)).attrs) (x.set.getD i default))))], [(0, .box [VL 1 elemsT x.ins, VL 1 boolT x.cut, VL 1 attrsT x.set]), (48, OR 4 dstepT q)]) ?_
       refine .back [.r [(4, X (Xi attrsT x.set (i : Int))), (6, X (Xf [(3, 3)])), (8, X (rowC dstepT [({ kind := 0, n := 1, attrs := (x.set.getD i default), elems := [] } : DStep)] (Xap 4 dstepT 48 q [({ kind := 0, n := 1, attrs := (x.set.getD i default), elems := [] } : DStep)])))], .r [(1, X (Xn ((i : Int) + 1)))], .le (.nR 4 3)] [(0, 0), (48, 48), (714, 49)] (ih5 (0, (i + 1), (q ++ [({ kind := 0, n := 1, attrs := (x.set.getD i default), elems := [] } : DStep)]), []) ?_ ?_)
       ·
        rw [tailR_K (by omega) (by rcases h8 with h8 | h8; omega; exact h8)] at hDe
        refine ⟨by omega, DI.of_eq ?_ hDe.keep1⟩
        simp only
        rw [hfq]
        unfold keepD
        split
        · rename_i z; first | rfl | (exfalso; rcases h17 with (h | h) | h; omega; exact h z.2.1; (rw [z.2.2] at h; cases h))
        · rename_i z; first | rfl | exact absurd ⟨by omega, h17.1.2, h17.2⟩ z
       ·
        ((try dsimp only); omega)
   ·
    (try simp only [decide_eq_true_eq, decide_eq_false_iff_not, Int.not_lt, Int.not_le, gt_iff_lt] at h10)
    refine .br [.r []] (decide (c > 0)) (fun h12 => ?_) (fun h12 => ?_)
    ·
     (try simp only [decide_eq_true_eq, decide_eq_false_iff_not, Int.not_lt, Int.not_le, gt_iff_lt] at h12)
     obtain ⟨q, hgen⟩ : ∃ z, (o ++ [({ kind := 2, n := c, attrs := [], elems := [] } : DStep)]) = z := ⟨_, rfl⟩
     have hfq : flushD ⟨o, a ++ x.ins.getD i default, c⟩ = q := by
       rw [← hgen]
       unfold flushD
       simp only
       (first | rw [if_pos (show 0 < (a ++ x.ins.getD i default).length by omega)] | rw [if_neg (show ¬ 0 < (a ++ x.ins.getD i default).length by omega)])
       (first | rw [if_pos (show 0 < c by omega)] | rw [if_neg (show ¬ 0 < c by omega)])
       all_goals simp
     have hnq : ∀ s ∈ q, 0 ≤ s.n ∧ s.n ≤ 10000000000 := by rw [← hfq]; exact hn2
     have hql : q.length ≤ o.length + 2 := by rw [← hfq]; exact flushD_len _
     refine .br [.r [(2, X (Xf [(2, 2), (3, 3)])), (4, X (rowC dstepT [({ kind := 2, n := c, attrs := [], elems := [] } : DStep)] (Xap 4 dstepT 48 o [({ kind := 2, n := c, attrs := [], elems := [] } : DStep)])))], .le (.er 48 (List.map dstepT (o ++ [({ kind := 2, n := c, attrs := [], elems := [] } : DStep)])) (List.map dstepT q) (by rw [hgen])), .le (.eq 3 (.row 48 ((o ++ [({ kind := 2, n := c, attrs := [], elems := [] } : DStep)]).length)) (.row 48 q.length) (.of_eq (by rw [← hgen]))), .r [], .r [(3, X (Xl boolT x.cut))]] ((i : Int) == (x.cut.length : Int)) (fun h15 => ?_) (fun h15 => ?_)
     ·
      (try simp only [beq_iff_eq, beq_eq_false_iff_ne, ne_eq] at h15)
      have e3 : ((doneD (actR x 0)) : List DStep) = q := by
       rw [tailR_e (by omega)] at hDe
       have hG := hDe.done
       unfold doneD
       rw [← hG]
       exact hfq
      exact .finE [.r [], .le (.fr 2 [(q.length : Nat) = (List.map dstepT q).length] ⟨lm, trivial⟩)] [] (fun z0 => (VL 4 dstepT z0, [])) (q : List DStep) ((doneD (actR x 0)) : List DStep) e3
     ·
      (try simp only [beq_iff_eq, beq_eq_false_iff_ne, ne_eq] at h15)
      refine .br [.r [(2, X (Xn ((q.length : Int) - 1)))], .r [(5, Xv 2 (decide (((q.length : Int) - 1) ≥ 0)) (Xp' dstepT 48 q ((q.length : Int) - 1) (q.length - 1))), (6, Xv 1 (decide (((q.length : Int) - 1) ≥ 0)) X0), (7, Xv 1 (decide (((q.length : Int) - 1) ≥ 0)) (Xe dstepT q (q.length - 1))), (8, Xv 1 (decide (((q.length : Int) - 1) ≥ 0)) X0), (9, X (Xk (decide (((q.length : Int) - 1) ≥ 0)))), (13, Xv 2 (decide (((q.length : Int) - 1) ≥ 0) && ((((q.getD (q.length - 1) default)).kind) == 0)) (Xp' dstepT 48 q ((q.length : Int) - 1) (q.length - 1))), (14, Xv 1 (decide (((q.length : Int) - 1) ≥ 0) && ((((q.getD (q.length - 1) default)).kind) == 0)) X0), (15, Xv 1 (decide (((q.length : Int) - 1) ≥ 0) && ((((q.getD (q.length - 1) default)).kind) == 0)) (Xe dstepT q (q.length - 1))), (17, Xv 1 (decide (((q.length : Int) - 1) ≥ 0) && ((((q.getD (q.length - 1) default)).kind) == 0)) X0), (19, Xv 2 (decide (((q.length : Int) - 1) ≥ 0) && ((((q.getD (q.length - 1) default)).kind) == 0)) (Xi attrsT x.set (i : Int))), (20, Xv 1 (decide (((q.length : Int) - 1) ≥ 0) && ((((q.getD (q.length - 1) default)).kind) == 0)) X0), (21, Xv 2 (decide (((q.length : Int) - 1) ≥ 0) && ((((q.getD (q.length - 1) default)).kind) == 0)) (Xc0 (fc_sameAttrs (((q.getD (q.length - 1) default)).attrs) (x.set.getD i default)) X0)), (22, X (Xk (decide (((q.length : Int) - 1) ≥ 0) && ((((q.getD (q.length - 1) default)).kind) == 0))))]] ((decide (((q.length : Int) - 1) ≥ 0) && ((((q.getD (q.length - 1) default)).kind) == 0)) && (sameL (((q.getD (q.length - 1) default)).attrs) (x.set.getD i default))) (fun h17 => ?_) (fun h17 => ?_)
      ·
       (try simp only [decide_eq_true_eq, decide_eq_false_iff_not, Int.not_lt, Int.not_le, ge_iff_le, Bool.and_eq_true, Bool.and_eq_false_iff, Bool.not_eq_true', Bool.not_eq_false', beq_iff_eq, beq_eq_false_iff_ne, ne_eq] at h17)
       refine .at 610 [(0, 0), (48, 48)] ([(1, .ptr 0 0), (3, .row 48 q.length), (4, VN), (5, VI 0), (6, VI (i : Int)), (7, VI ((q.length : Int) - 1)), (81, VB ((decide (((q.length : Int) - 1) ≥ 0) && ((((q.getD (q.length - 1) default)).kind) == 0)) && (sameL (((q.getD (q.length - 1) default)).attrs) (x.set.getD i default))))], [(0, .box [VL 1 elemsT x.ins, VL 1 boolT x.cut, VL 1 attrsT x.set]), (48, OR 4 dstepT q)]) ?_
       have hlast := fun h : 0 < q.length => hnq _ (lastD_mem h)
       refine .back [.r [(2, X (Xp' dstepT 48 q ((q.length : Int) - 1) (q.length - 1))), (4, X (Xe dstepT q (q.length - 1))), (5, X (Xn ((((q.getD (q.length - 1) default)).n) + 1))), (6, X (Xp' dstepT 48 q ((q.length : Int) - 1) (q.length - 1))), (8, X (Xs 4 dstepT 48 q (q.length - 1) ({ kind := ((q.getD (q.length - 1) default)).kind, n := ((((q.getD (q.length - 1) default)).n) + 1), attrs := ((q.getD (q.length - 1) default)).attrs, elems := ((q.getD (q.length - 1) default)).elems } : DStep)))], .r [(1, X (Xn ((i : Int) + 1)))], .le (.nR 4 3), .le (.eq 3 (.row 48 q.length) (.row 48 ((q.set (q.length - 1) ({ kind := ((q.getD (q.length - 1) default)).kind, n := ((((q.getD (q.length - 1) default)).n) + 1), attrs := ((q.getD (q.length - 1) default)).attrs, elems := ((q.getD (q.length - 1) default)).elems } : DStep)).length)) (.of_eq (by simp only [List.length_set])))] [(0, 0), (48, 48), (706, 49)] (ih5 (0, (i + 1), (q.set (q.length - 1) ({ kind := ((q.getD (q.length - 1) default)).kind, n := ((((q.getD (q.length - 1) default)).n) + 1), attrs := ((q.getD (q.length - 1) default)).attrs, elems := ((q.getD (q.length - 1) default)).elems } : DStep)), []) ?_ ?_)
       ·
        rw [tailR_K (by omega) (by rcases h8 with h8 | h8; omega; exact h8)] at hDe
        refine ⟨by omega, DI.of_eq ?_ hDe.keep1⟩
        simp only
        rw [hfq]
        unfold keepD
        split
        · rename_i z; first | rfl | (exfalso; rcases h17 with (h | h) | h; omega; exact h z.2.1; (rw [z.2.2] at h; cases h))
        · rename_i z; first | rfl | exact absurd ⟨by omega, h17.1.2, h17.2⟩ z
       ·
        ((try dsimp only); omega)
      ·
       (try simp only [decide_eq_true_eq, decide_eq_false_iff_not, Int.not_lt, Int.not_le, ge_iff_le, Bool.and_eq_true, Bool.and_eq_false_iff, Bool.not_eq_true', Bool.not_eq_false', beq_iff_eq, beq_eq_false_iff_ne, ne_eq] at h17)
       refine .at 610 [(0, 0), (48, 48)] ([(1, .ptr 0 0), (3, .row 48 q.length), (4, VN), (5, VI 0), (6, VI (i : Int)), (7, VI ((q.length : Int) - 1)), (81, VB ((decide (((q.length : Int) - 1) ≥ 0) && ((((q.getD (q.length - 1) default)).kind) == 0)) && (sameL (((q.getD (q.length - 1) default)).attrs) (x.set.getD i default))))], [(0, .box [VL 1 elemsT x.ins, VL 1 boolT x.cut, VL 1 attrsT x.set]), (48, OR 4 dstepT q)]) ?_
       refine .back [.r [(4, X (Xi attrsT x.set (i : Int))), (6, X (Xf [(3, 3)])), (8, X (rowC dstepT [({ kind := 0, n := 1, attrs := (x.set.getD i default), elems := [] } : DStep)] (Xap 4 dstepT 48 q [({ kind := 0, n := 1, attrs := (x.set.getD i default), elems := [] } : DStep)])))], .r [(1, X (Xn ((i : Int) + 1)))], .le (.nR 4 3)] [(0, 0), (48, 48), (714, 49)] (ih5 (0, (i + 1), (q ++ [({ kind := 0, n := 1, attrs := (x.set.getD i default), elems := [] } : DStep)]), []) ?_ ?_)
       ·
        rw [tailR_K (by omega) (by rcases h8 with h8 | h8; omega; exact h8)] at hDe
        refine ⟨by omega, DI.of_eq ?_ hDe.keep1⟩
        simp only
        rw [hfq]
        unfold keepD
        split
        · rename_i z; first | rfl | (exfalso; rcases h17 with (h | h) | h; omega; exact h z.2.1; (rw [z.2.2] at h; cases h))
        · rename_i z; first | rfl | exact absurd ⟨by omega, h17.1.2, h17.2⟩ z
       ·
        ((try dsimp only); omega)
    ·
     (try simp only [decide_eq_true_eq, decide_eq_false_iff_not, Int.not_lt, Int.not_le, gt_iff_lt] at h12)
     obtain ⟨q, hgen⟩ : ∃ z, o = z := ⟨_, rfl⟩
     have hfq : flushD ⟨o, a ++ x.ins.getD i default, c⟩ = q := by
       rw [← hgen]
       unfold flushD
       simp only
       (first | rw [if_pos (show 0 < (a ++ x.ins.getD i default).length by omega)] | rw [if_neg (show ¬ 0 < (a ++ x.ins.getD i default).length by omega)])
       (first | rw [if_pos (show 0 < c by omega)] | rw [if_neg (show ¬ 0 < c by omega)])
       all_goals simp
     have hnq : ∀ s ∈ q, 0 ≤ s.n ∧ s.n ≤ 10000000000 := by rw [← hfq]; exact hn2
     have hql : q.length ≤ o.length + 2 := by rw [← hfq]; exact flushD_len _
     refine .br [.le (.er 48 (List.map dstepT o) (List.map dstepT q) (by rw [hgen])), .le (.eq 3 (.row 48 o.length) (.row 48 q.length) (.of_eq (by rw [← hgen]))), .r [], .r [(3, X (Xl boolT x.cut))]] ((i : Int) == (x.cut.length : Int)) (fun h15 => ?_) (fun h15 => ?_)
     ·
      (try simp only [beq_iff_eq, beq_eq_false_iff_ne, ne_eq] at h15)
      have e4 : ((doneD (actR x 0)) : List DStep) = q := by
       rw [tailR_e (by omega)] at hDe
       have hG := hDe.done
       unfold doneD
       rw [← hG]
       exact hfq
      exact .finE [.r [], .le (.fr 2 [(q.length : Nat) = (List.map dstepT q).length] ⟨lm, trivial⟩)] [] (fun z0 => (VL 4 dstepT z0, [])) (q : List DStep) ((doneD (actR x 0)) : List DStep) e4
     ·
      (try simp only [beq_iff_eq, beq_eq_false_iff_ne, ne_eq] at h15)
      refine .br [.r [(2, X (Xn ((q.length : Int) - 1)))], .r [(5, Xv 2 (decide (((q.length : Int) - 1) ≥ 0)) (Xp' dstepT 48 q ((q.length : Int) - 1) (q.length - 1))), (6, Xv 1 (decide (((q.length : Int) - 1) ≥ 0)) X0), (7, Xv 1 (decide (((q.length : Int) - 1) ≥ 0)) (Xe dstepT q (q.length - 1))), (8, Xv 1 (decide (((q.length : Int) - 1) ≥ 0)) X0), (9, X (Xk (decide (((q.length : Int) - 1) ≥ 0)))), (13, Xv 2 (decide (((q.length : Int) - 1) ≥ 0) && ((((q.getD (q.length - 1) default)).kind) == 0)) (Xp' dstepT 48 q ((q.length : Int) - 1) (q.length - 1))), (14, Xv 1 (decide (((q.length : Int) - 1) ≥ 0) && ((((q.getD (q.length - 1) default)).kind) == 0)) X0), (15, Xv 1 (decide (((q.length : Int) - 1) ≥ 0) && ((((q.getD (q.length - 1) default)).kind) == 0)) (Xe dstepT q (q.length - 1))), (17, Xv 1 (decide (((q.length : Int) - 1) ≥ 0) && ((((q.getD (q.length - 1) default)).kind) == 0)) X0), (19, Xv 2 (decide (((q.length : Int) - 1) ≥ 0) && ((((q.getD (q.length - 1) default)).kind) == 0)) (Xi attrsT x.set (i : Int))), (20, Xv 1 (decide (((q.length : Int) - 1) ≥ 0) && ((((q.getD (q.length - 1) default)).kind) == 0)) X0), (21, Xv 2 (decide (((q.length : Int) - 1) ≥ 0) && ((((q.getD (q.length - 1) default)).kind) == 0)) (Xc0 (fc_sameAttrs (((q.getD (q.length - 1) default)).attrs) (x.set.getD i default)) X0)), (22, X (Xk (decide (((q.length : Int) - 1) ≥ 0) && ((((q.getD (q.length - 1) default)).kind) == 0))))]] ((decide (((q.length : Int) - 1) ≥ 0) && ((((q.getD (q.length - 1) default)).kind) == 0)) && (sameL (((q.getD (q.length - 1) default)).attrs) (x.set.getD i default))) (fun h17 => ?_) (fun h17 => ?_)
      ·
       (try simp only [decide_eq_true_eq, decide_eq_false_iff_not, Int.not_lt, Int.not_le, ge_iff_le, Bool.and_eq_true, Bool.and_eq_false_iff, Bool.not_eq_true', Bool.not_eq_false', beq_iff_eq, beq_eq_false_iff_ne, ne_eq] at h17)
       refine .at 562 [(0, 0), (48, 48)] ([(1, .ptr 0 0), (3, .row 48 q.length), (4, VN), (5, VI 0), (6, VI (i : Int)), (7, VI ((q.length : Int) - 1)), (81, VB ((decide (((q.length : Int) - 1) ≥ 0) && ((((q.getD (q.length - 1) default)).kind) == 0)) && (sameL (((q.getD (q.length - 1) default)).attrs) (x.set.getD i default))))], [(0, .box [VL 1 elemsT x.ins, VL 1 boolT x.cut, VL 1 attrsT x.set]), (48, OR 4 dstepT q)]) ?_
       have hlast := fun h : 0 < q.length => hnq _ (lastD_mem h)
       refine .back [.r [(2, X (Xp' dstepT 48 q ((q.length : Int) - 1) (q.length - 1))), (4, X (Xe dstepT q (q.length - 1))), (5, X (Xn ((((q.getD (q.length - 1) default)).n) + 1))), (6, X (Xp' dstepT 48 q ((q.length : Int) - 1) (q.length - 1))), (8, X (Xs 4 dstepT 48 q (q.length - 1) ({ kind := ((q.getD (q.length - 1) default)).kind, n := ((((q.getD (q.length - 1) default)).n) + 1), attrs := ((q.getD (q.length - 1) default)).attrs, elems := ((q.getD (q.length - 1) default)).elems } : DStep)))], .r [(1, X (Xn ((i : Int) + 1)))], .le (.nR 4 3), .le (.eq 3 (.row 48 q.length) (.row 48 ((q.set (q.length - 1) ({ kind := ((q.getD (q.length - 1) default)).kind, n := ((((q.getD (q.length - 1) default)).n) + 1), attrs := ((q.getD (q.length - 1) default)).attrs, elems := ((q.getD (q.length - 1) default)).elems } : DStep)).length)) (.of_eq (by simp only [List.length_set])))] [(0, 0), (48, 48), (658, 49)] (ih5 (0, (i + 1), (q.set (q.length - 1) ({ kind := ((q.getD (q.length - 1) default)).kind, n := ((((q.getD (q.length - 1) default)).n) + 1), attrs := ((q.getD (q.length - 1) default)).attrs, elems := ((q.getD (q.length - 1) default)).elems } : DStep)), []) ?_ ?_)
       ·
        rw [tailR_K (by omega) (by rcases h8 with h8 | h8; omega; exact h8)] at hDe
        refine ⟨by omega, DI.of_eq ?_ hDe.keep1⟩
        simp only
        rw [hfq]
        unfold keepD
        split
        · rename_i z; first | rfl | (exfalso; rcases h17 with (h | h) | h; omega; exact h z.2.1; (rw [z.2.2] at h; cases h))
        · rename_i z; first | rfl | exact absurd ⟨by omega, h17.1.2, h17.2⟩ z
       ·
        ((try dsimp only); omega)
      ·
       (try simp only [decide_eq_true_eq, decide_eq_false_iff_not, Int.not_lt, Int.not_le, ge_iff_le, Bool.and_eq_true, Bool.and_eq_false_iff, Bool.not_eq_true', Bool.not_eq_false', beq_iff_eq, beq_eq_false_iff_ne, ne_eq] at h17)
       refine .at 562 [(0, 0), (48, 48)] ([(1, .ptr 0 0), (3, .row 48 q.length), (4, VN), (5, VI 0), (6, VI (i : Int)), (7, VI ((q.length : Int) - 1)), (81, VB ((decide (((q.length : Int) - 1) ≥ 0) && ((((q.getD (q.length - 1) default)).kind) == 0)) && (sameL (((q.getD (q.length - 1) default)).attrs) (x.set.getD i default))))], [(0, .box [VL 1 elemsT x.ins, VL 1 boolT x.cut, VL 1 attrsT x.set]), (48, OR 4 dstepT q)]) ?_
       refine .back [.r [(4, X (Xi attrsT x.set (i : Int))), (6, X (Xf [(3, 3)])), (8, X (rowC dstepT [({ kind := 0, n := 1, attrs := (x.set.getD i default), elems := [] } : DStep)] (Xap 4 dstepT 48 q [({ kind := 0, n := 1, attrs := (x.set.getD i default), elems := [] } : DStep)])))], .r [(1, X (Xn ((i : Int) + 1)))], .le (.nR 4 3)] [(0, 0), (48, 48), (666, 49)] (ih5 (0, (i + 1), (q ++ [({ kind := 0, n := 1, attrs := (x.set.getD i default), elems := [] } : DStep)]), []) ?_ ?_)
       ·
        rw [tailR_K (by omega) (by rcases h8 with h8 | h8; omega; exact h8)] at hDe
        refine ⟨by omega, DI.of_eq ?_ hDe.keep1⟩
        simp only
        rw [hfq]
        unfold keepD
        split
        · rename_i z; first | rfl | (exfalso; rcases h17 with (h | h) | h; omega; exact h z.2.1; (rw [z.2.2] at h; cases h))
        · rename_i z; first | rfl | exact absurd ⟨by omega, h17.1.2, h17.2⟩ z
       ·
        ((try dsimp only); omega)
 ·
  (try simp only [decide_eq_true_eq, decide_eq_false_iff_not, Int.not_lt, Int.not_le] at h5)
  exfalso
  omega
end Go.Ch
end
section
set_option linter.unusedVariables false
set_option linter.unusedSimpArgs false
namespace Go.Ch
open Go Go.Ab

inductive U where
  | K
  | A
  | C
/-- Adds and cuts at one gap may be exchanged. -/
inductive Sw : List U → List U → Prop
  | refl (u : List U) : Sw u u
  | cons (x : U) {u v : List U} (h : Sw u v) : Sw (x :: u) (x :: v)
  | swap (u : List U) : Sw (.A :: .C :: u) (.C :: .A :: u)
  | symm {u v : List U} (h : Sw u v) : Sw v u
  | trans {u v w : List U} (h : Sw u v) (k : Sw v w) : Sw u w
theorem Sw.of_eq {u v : List U} (h : u = v) : Sw u v := h ▸ .refl u
theorem Sw.left (w : List U) {u v : List U} (h : Sw u v) : Sw (w ++ u) (w ++ v) := by
  induction w with
  | nil => exact h
  | cons x w ih => exact .cons x ih
theorem Sw.right (w : List U) {u v : List U} (h : Sw u v) : Sw (u ++ w) (v ++ w) := by
  induction h with
  | refl u => exact .refl _
  | cons x _ ih => exact .cons x ih
  | swap u => exact .swap _
  | symm _ ih => exact .symm ih
  | trans _ _ a b => exact .trans a b
abbrev rep (n : Nat) (x : U) : List U := List.replicate n x
def bumpA : List (Nat × Nat) → List (Nat × Nat)
  | [] => []
  | (a, c) :: r => (a + 1, c) :: r
def bumpC : List (Nat × Nat) → List (Nat × Nat)
  | [] => []
  | (a, c) :: r => (a, c + 1) :: r
def beta : List U → List (Nat × Nat)
  | [] => [(0, 0)]
  | .K :: u => (0, 0) :: beta u
  | .A :: u => bumpA (beta u)
  | .C :: u => bumpC (beta u)
def unb : List (Nat × Nat) → List U
  | [] => []
  | [(a, c)] => rep a .A ++ rep c .C
  | (a, c) :: s :: r => rep a .A ++ (rep c .C ++ .K :: unb (s :: r))
/-! ### Joining -/
def joinU : List U → List U → List U
  | .C :: p, q => .C :: joinU p q
  | [], q => q
  | .K :: p, [] => .K :: joinU p []
  | .A :: p, [] => .A :: joinU p []
  | .K :: p, .A :: q => .A :: joinU (.K :: p) q
  | .A :: p, .A :: q => .A :: joinU (.A :: p) q
  | .K :: p, .K :: q => .K :: joinU p q
  | .K :: p, .C :: q => .C :: joinU p q
  | .A :: p, .K :: q => .A :: joinU p q
  | .A :: p, .C :: q => joinU p q
termination_by p q => p.length + q.length
def oldU : List U → Nat
  | [] => 0
  | .A :: u => oldU u
  | .K :: u => oldU u + 1
  | .C :: u => oldU u + 1
def newU : List U → Nat
  | [] => 0
  | .C :: u => newU u
  | .K :: u => newU u + 1
  | .A :: u => newU u + 1
/-! ### Rebasing -/
def pairU : List U → List U → List U × List U
  | .A :: p, q => (.A :: (pairU p q).1, .K :: (pairU p q).2)
  | p, .A :: q => (.K :: (pairU p q).1, .A :: (pairU p q).2)
  | .K :: p, .K :: q => (.K :: (pairU p q).1, .K :: (pairU p q).2)
  | .K :: p, .C :: q => ((pairU p q).1, .C :: (pairU p q).2)
  | .C :: p, .K :: q => (.C :: (pairU p q).1, (pairU p q).2)
  | .C :: p, .C :: q => pairU p q
  | _, _ => ([], [])
termination_by p q => p.length + q.length
end Go.Ch
end
section
set_option linter.unusedVariables false
set_option linter.unusedSimpArgs false
namespace Go.Ch
open Go Go.Ab

structure AxStep where
  kind : Int
  n : Int
instance : Inhabited AxStep := ⟨⟨0, 0⟩⟩
def stepT (s : AxStep) : Tree := .agg [.sc (.int .i64 s.kind), .sc (.int .i64 s.n)]
def uOf (k : Int) : U := if k = 1 then .A else if k = 2 then .C else .K
def ex : List AxStep → List U
  | [] => []
  | s :: l => rep s.n.toNat (uOf s.kind) ++ ex l
def Ok1 (s : AxStep) : Prop := 0 ≤ s.kind ∧ s.kind ≤ 2 ∧ 1 ≤ s.n
def Nx (s t : AxStep) : Prop := s.kind ≠ t.kind ∧ ¬ (s.kind = 2 ∧ t.kind = 1)
def Form : List AxStep → Prop
  | [] => True
  | [s] => Ok1 s
  | s :: t :: l => Ok1 s ∧ Nx s t ∧ Form (t :: l)
theorem Form.head {s : AxStep} {l : List AxStep} (h : Form (s :: l)) : Ok1 s := by
  cases l with
  | nil => exact h
  | cons t l => exact h.1
theorem Form.tail {s : AxStep} {l : List AxStep} (h : Form (s :: l)) : Form l := by
  cases l with
  | nil => trivial
  | cons t l => exact h.2.2
theorem Form.all : ∀ {l : List AxStep}, Form l → ∀ s ∈ l, Ok1 s
  | [], _, s, h => by cases h
  | t :: l, h, s, hs => by
    rcases List.mem_cons.1 hs with rfl | hs
    · exact h.head
    · exact h.tail.all s hs
theorem rep_add (m n : Nat) (x : U) : rep (m + n) x = rep m x ++ rep n x := List.replicate_append_replicate.symm
/-! ### One form for each effect -/
def opt1 (k : Int) (n : Nat) : List AxStep := if n = 0 then [] else [⟨k, n⟩]
def rend (k : Nat) : List (Nat × Nat) → List AxStep
  | [] => opt1 0 k
  | (a, c) :: r => if a = 0 ∧ c = 0 then (if r = [] then opt1 0 k else rend (k + 1) r) else opt1 0 k ++ opt1 1 a ++ opt1 2 c ++ (if r = [] then [] else rend 1 r)
/-! ### The writer -/
structure Wr where
  out : List AxStep
  add : Int
  cut : Int
def flushW (w : Wr) : List AxStep := w.out ++ (if 0 < w.add then [⟨1, w.add⟩] else []) ++ (if 0 < w.cut then [⟨2, w.cut⟩] else [])
def keepW (l : List AxStep) (n : Int) : List AxStep :=
  if 0 < l.length ∧ (l.getD (l.length - 1) default).kind = 0 then l.set (l.length - 1) ⟨(l.getD (l.length - 1) default).kind, (l.getD (l.length - 1) default).n + n⟩ else l ++ [⟨0, n⟩]
def putW (w : Wr) (k n : Int) : Wr :=
  if n = 0 then w else if k = 1 then ⟨w.out, w.add + n, w.cut⟩ else if k = 2 then ⟨w.out, w.add, w.cut + n⟩ else ⟨keepW (flushW w) n, 0, 0⟩
def exW (w : Wr) : List U := ex w.out ++ (rep w.add.toNat .A ++ rep w.cut.toNat .C)
structure GoodW (w : Wr) : Prop where
  form : Form w.out
  last : ∀ t, w.out.getLast? = some t → t.kind = 0
  add : 0 ≤ w.add
  cut : 0 ≤ w.cut
/-- Puts one unit after the other. -/
def kOf : U → Int
  | .K => 0
  | .A => 1
  | .C => 2
def foldW (w : Wr) : List U → Wr
  | [] => w
  | u :: us => foldW (putW w (kOf u) 1) us
def doneW (us : List U) : List AxStep := flushW (foldW ⟨[], 0, 0⟩ us)
end Go.Ch
end
section
set_option linter.unusedVariables false
set_option linter.unusedSimpArgs false
namespace Go.Ch
open Go Go.Ab

/-! ### The check -/
def chkX (l : List AxStep) (i : Nat) (b a : Int) : Int :=
  if i < l.length then
    if (l.getD i default).kind < 0 ∨ 2 < (l.getD i default).kind then 8
    else if (l.getD i default).n < 1 ∨ 2147483647 < (l.getD i default).n then 2
    else if 0 < i ∧ ((l.getD (i - 1) default).kind = (l.getD i default).kind ∨ ((l.getD (i - 1) default).kind = 2 ∧ (l.getD i default).kind = 1)) then 5
    else chkX l (i + 1) (if (l.getD i default).kind ≠ 1 then min (b + (l.getD i default).n) 2147483648 else b) (if (l.getD i default).kind ≠ 2 then min (a + (l.getD i default).n) 2147483648 else a)
  else if 2147483647 < b ∨ 2147483647 < a then 3 else 0
termination_by l.length - i
def checkX (l : List AxStep) : Int := chkX l 0 0 0
def FormAt (l : List AxStep) (i : Nat) : Prop := ∀ k, i ≤ k → k < l.length → Ok1 (l.getD k default) ∧ (0 < k → Nx (l.getD (k - 1) default) (l.getD k default))
theorem at_of_form : ∀ {l : List AxStep}, Form l → FormAt l 0
  | [], _ => fun k _ hk => by simp at hk
  | s :: l, h => by
    have ih := at_of_form h.tail
    intro k _ hk
    cases k with
    | zero => exact ⟨h.head, fun h => absurd h (by decide)⟩
    | succ k =>
      have := ih k (by omega) (by simpa using hk)
      refine ⟨by simpa using this.1, fun _ => ?_⟩
      cases k with
      | zero =>
        cases l with
        | nil => simp at hk
        | cons t l => exact h.2.1
      | succ k => simpa using this.2 (by omega)
def Valid (l : List AxStep) : Prop := Form l ∧ oldU (ex l) ≤ 2147483647 ∧ newU (ex l) ≤ 2147483647
/-! ### Readers -/
def ru (l : List AxStep) (u : Int) : List U := (ex l).drop u.toNat
structure GoodR (l : List AxStep) (u : Int) : Prop where
  form : Form l
  pos : 0 ≤ u
  nil : l.length = 0 → u = 0
  lt : 0 < l.length → u < (l.getD 0 default).n
theorem good_r {l : List AxStep} (h : Form l) : GoodR l 0 := ⟨h, Int.le_refl _, fun _ => rfl, fun h0 => by
  have := (at_of_form h) 0 (Nat.le_refl _) h0
  have := this.1.2.2
  omega⟩
theorem ru0 (l : List AxStep) : ru l 0 = ex l := rfl
theorem ru_cons {l : List AxStep} {u : Int} (h : GoodR l u) (h0 : 0 < l.length) :
    ru l u = rep ((l.getD 0 default).n - u).toNat (uOf (l.getD 0 default).kind) ++ ex (l.drop 1) := by
  have h1 := h.lt h0
  have h2 := h.pos
  cases l with
  | nil => simp at h0
  | cons s l =>
    simp only [List.getD_cons_zero] at h1 ⊢
    unfold ru
    rw [ex, List.drop_append_of_le_length (by simp; omega), List.drop_replicate]
    congr 2
    omega
theorem GoodR.ok {l : List AxStep} {u : Int} (h : GoodR l u) (h0 : 0 < l.length) : Ok1 (l.getD 0 default) := ((at_of_form h.form) 0 (Nat.le_refl _) h0).1
theorem GoodR.take {l : List AxStep} {u n : Int} (h : GoodR l u) (h0 : 0 < l.length) (hn : 0 ≤ n) (hl : n ≤ (l.getD 0 default).n - u) :
    (u + n = (l.getD 0 default).n → GoodR (l.drop 1) 0 ∧ rep n.toNat (uOf (l.getD 0 default).kind) ++ ru (l.drop 1) 0 = ru l u) ∧
    (u + n ≠ (l.getD 0 default).n → GoodR l (u + n) ∧ rep n.toNat (uOf (l.getD 0 default).kind) ++ ru l (u + n) = ru l u) := by
  have h1 := h.lt h0
  have h2 := h.pos
  constructor
  · intro e
    refine ⟨good_r ?_, ?_⟩
    · cases l with
      | nil => trivial
      | cons s l => exact h.form.tail
    · rw [ru_cons h h0, ru0]
      congr 2
      omega
  · intro e
    have g : GoodR l (u + n) := ⟨h.form, by omega, fun hh => by omega, fun _ => by omega⟩
    refine ⟨g, ?_⟩
    rw [ru_cons h h0, ru_cons g h0, ← List.append_assoc, ← rep_add]
    congr 2
    omega
/-! ### Run by run -/
/-- Nothing, or not a cut first. -/
def NoC : List U → Prop
  | .C :: _ => False
  | _ => True
def NoA : List U → Prop
  | .A :: _ => False
  | _ => True
end Go.Ch
end
