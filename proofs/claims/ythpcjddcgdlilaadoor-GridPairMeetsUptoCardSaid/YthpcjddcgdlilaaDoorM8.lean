/- Steps of a delta: their encoding, the checks, lengths, units and what they do to a flow. -/
import Derived.Test.YthpcjddcgdlilaaDoorM1
import Derived.Test.YthpcjddcgdlilaaDoorM2
import Derived.Test.YthpcjddcgdlilaaDoorM3
import Derived.Test.YthpcjddcgdlilaaDoorM4
import Derived.Test.YthpcjddcgdlilaaDoorM5
import Derived.Test.YthpcjddcgdlilaaDoorM6
import Derived.Test.YthpcjddcgdlilaaDoorM7
import Derived.Test.YthpcjddcgdlilaaDoorRows
section
set_option linter.unusedVariables false
set_option linter.unusedSimpArgs false
namespace Go.Ch
open Go Go.Ab

structure DStep where
  kind : Int
  n : Int
  attrs : List Attr
  elems : List Elem
instance : Inhabited DStep := ⟨⟨0, 0, [], []⟩⟩
def dstepT (s : DStep) : Tree := .agg [.sc (.int .i64 s.kind), .sc (.int .i64 s.n), .lst 2 (s.attrs.map attrT), .lst 3 (s.elems.map elemT)]
def AN (n : Nat) (l : List Elem) : Prop := ∀ x ∈ l, x.attrs.length ≤ n
def stepD (s : DStep) : Int :=
  if s.kind = 1 then (if s.n ≠ 0 ∨ 0 < s.attrs.length then 4 else if s.elems.length = 0 then 11 else partE s.elems 0)
  else if s.kind = 0 ∨ s.kind = 2 then
    (if 0 < s.elems.length ∨ (s.kind = 2 ∧ 0 < s.attrs.length) then 4 else if s.n < 1 ∨ 2147483647 < s.n then 2 else chkA true s.attrs 0)
  else 8
def szD (s : DStep) : Int := if s.kind = 1 then (s.elems.length : Int) else s.n
def DOk (s : DStep) : Prop :=
  (s.kind = 1 ∧ s.n = 0 ∧ s.attrs = [] ∧ s.elems ≠ [] ∧ ∀ x ∈ s.elems, elemE x = 0) ∨
  ((s.kind = 0 ∨ s.kind = 2) ∧ s.elems = [] ∧ (s.kind = 2 → s.attrs = []) ∧ 1 ≤ s.n ∧ s.n ≤ 2147483647 ∧ VG true s.attrs)
theorem len0 {α : Type} {l : List α} : ¬ 0 < l.length ↔ l = [] := by
  rw [Nat.not_lt, Nat.le_zero, List.length_eq_zero_iff]
/-- Neighbours that a delta must not have. -/
def adjD (w x : DStep) : Bool := ((w.kind == x.kind) && ((x.kind != 0) || sameL w.attrs x.attrs)) || ((w.kind == 2) && (x.kind == 1))
theorem adjD_yes {w x : DStep} : adjD w x = true ↔ (w.kind = x.kind ∧ (¬ x.kind = 0 ∨ sameL w.attrs x.attrs = true)) ∨ (w.kind = 2 ∧ x.kind = 1) := by
  unfold adjD; simp
/-- Bounds on the lists inside. -/
def DN (n : Nat) (l : List DStep) : Prop := ∀ s ∈ l, s.elems.length ≤ n ∧ s.attrs.length ≤ n ∧ AN n s.elems
theorem DN.at_ {n : Nat} {l : List DStep} (h : DN n l) {k : Nat} (hk : k < l.length) : (l.getD k default).elems.length ≤ n ∧ (l.getD k default).attrs.length ≤ n ∧ AN n (l.getD k default).elems := by
  refine h _ ?_
  rw [show l.getD k default = l[k] by simp [List.getD, List.getElem?_eq_getElem hk]]
  exact List.getElem_mem hk
def chkD (l : List DStep) (i : Nat) (b a : Int) : Int :=
  if i < l.length then
    if stepD (l.getD i default) ≠ 0 then stepD (l.getD i default)
    else if 0 < i ∧ adjD (l.getD (i - 1) default) (l.getD i default) = true then 5
    else chkD l (i + 1) (if (l.getD i default).kind ≠ 1 then min (b + (l.getD i default).n) 2147483648 else b) (if (l.getD i default).kind ≠ 2 then min (a + szD (l.getD i default)) 2147483648 else a)
  else if 2147483647 < b ∨ 2147483647 < a then 3 else 0
termination_by l.length - i
def checkD (l : List DStep) : Int := chkD l 0 0 0
def oS (s : DStep) : Int := if s.kind = 1 then 0 else s.n
def nS (s : DStep) : Int := if s.kind = 2 then 0 else szD s
def oldD : List DStep → Int
  | [] => 0
  | s :: l => oS s + oldD l
def newD : List DStep → Int
  | [] => 0
  | s :: l => nS s + newD l
def DForm : List DStep → Prop
  | [] => True
  | [s] => DOk s
  | s :: t :: l => DOk s ∧ adjD s t = false ∧ DForm (t :: l)
def DFormAt (l : List DStep) (i : Nat) : Prop := ∀ k, i ≤ k → k < l.length → DOk (l.getD k default) ∧ (0 < k → adjD (l.getD (k - 1) default) (l.getD k default) = false)
theorem dropD {α : Type} [Inhabited α] {l : List α} {i : Nat} (h : i < l.length) : l.drop i = l.getD i default :: l.drop (i + 1) := by
  rw [List.drop_eq_getElem_cons h]; simp [List.getD, List.getElem?_eq_getElem h]
theorem atD_drop {l : List DStep} {i : Nat} (h : DFormAt l i) : ∀ s ∈ l.drop i, DOk s := by
  intro s hs
  obtain ⟨k, hk, e⟩ := List.mem_iff_getElem.1 hs
  rw [List.length_drop] at hk
  have := (h (i + k) (by omega) (by omega)).1
  rw [List.getElem_drop] at e
  rw [← e]
  simpa [List.getD, List.getElem?_eq_getElem (show i + k < l.length by omega)] using this
theorem at_of_dform : ∀ {l : List DStep}, DForm l → DFormAt l 0
  | [], _ => fun k h1 h2 => by simp at h2
  | [s], h => fun k h1 h2 => by
    have : k = 0 := by simp at h2; omega
    subst this
    exact ⟨h, fun h0 => by omega⟩
  | s :: t :: l, h => fun k h1 h2 => by
    obtain ⟨a, b, c⟩ := h
    rcases k with _ | k
    · exact ⟨a, fun h0 => by omega⟩
    · have := at_of_dform c k (Nat.zero_le _) (by simp at h2 ⊢; omega)
      rw [List.getD_cons_succ]
      refine ⟨this.1, fun _ => ?_⟩
      rcases k with _ | k
      · exact b
      · rw [Nat.add_sub_cancel, List.getD_cons_succ]
        have e := this.2 (by omega)
        rw [Nat.add_sub_cancel] at e
        exact e
def DValid (l : List DStep) : Prop := DForm l ∧ oldD l ≤ 2147483647 ∧ newD l ≤ 2147483647
theorem DForm.all {l : List DStep} (h : DForm l) : ∀ s ∈ l, DOk s := by
  have := atD_drop (at_of_dform h)
  simpa using this

/-! ### The reference's check -/
def adjR (w x : DStep) : Prop := if x.kind = 1 then w.kind ≠ 0 else if x.kind = 2 then w.kind = 2 else w.kind = 0 ∧ sameL w.attrs x.attrs = true
instance (w x : DStep) : Decidable (adjR w x) := by unfold adjR; infer_instance
def chkR (l : List DStep) (i : Nat) (b a : Int) : Int :=
  if i < l.length then
    if stepD (l.getD i default) ≠ 0 then stepD (l.getD i default)
    else if 0 < i ∧ adjR (l.getD (i - 1) default) (l.getD i default) then 5
    else chkR l (i + 1) (if (l.getD i default).kind ≠ 1 ∧ b < 2147483648 then b + (l.getD i default).n else b) (if (l.getD i default).kind ≠ 2 ∧ a < 2147483648 then a + ((l.getD i default).n + (l.getD i default).elems.length) else a)
  else if 2147483647 < b ∨ 2147483647 < a then 3 else 0
termination_by l.length - i
def refD (l : List DStep) : Int := chkR l 0 0 0
def sumNs : List DStep → Int
  | [] => 0
  | s :: l => s.n + sumNs l
/-- Sizes of the strings inside. -/
def sameDS (x y : DStep) : Bool := ((x.kind == y.kind) && (x.n == y.n)) && (sameL x.attrs y.attrs && sameF x.elems y.elems)

/-! ### Units -/
inductive DU where
  | K (c : List Attr)
  | A (e : Elem)
  | C
def exS (s : DStep) : List DU := if s.kind = 1 then s.elems.map .A else if s.kind = 2 then List.replicate s.n.toNat .C else List.replicate s.n.toNat (.K s.attrs)
def exD : List DStep → List DU
  | [] => []
  | s :: l => exS s ++ exD l
theorem exD_app (a b : List DStep) : exD (a ++ b) = exD a ++ exD b := by
  induction a with
  | nil => rfl
  | cons s a ih => simp [exD, ih]
/-- An element changed by an attribute change. -/
def chgE (c : List Attr) (x : Elem) : Elem := ⟨x.char, x.ref, fm rawG x.attrs c⟩
def applyU : List DU → List Elem → List Elem
  | [], _ => []
  | .A e :: u, l => e :: applyU u l
  | .K c :: u, x :: l => chgE c x :: applyU u l
  | .C :: u, _ :: l => applyU u l
  | .K _ :: u, [] => applyU u []
  | .C :: u, [] => applyU u []
def undoU : List DU → List Elem → List DU
  | [], _ => []
  | .A _ :: u, l => .C :: undoU u l
  | .K c :: u, x :: l => .K (fm chgG (fm rawG x.attrs c) x.attrs) :: undoU u l
  | .C :: u, x :: l => .A x :: undoU u l
  | .K _ :: u, [] => undoU u []
  | .C :: u, [] => undoU u []
def oldN : List DU → Nat
  | [] => 0
  | .A _ :: u => oldN u
  | _ :: u => oldN u + 1
def newN : List DU → Nat
  | [] => 0
  | .C :: u => newN u
  | _ :: u => newN u + 1
def UOk : List DU → Prop
  | [] => True
  | .K c :: u => VG true c ∧ UOk u
  | _ :: u => UOk u
inductive DSw : List DU → List DU → Prop
  | refl (u : List DU) : DSw u u
  | cons (x : DU) {u v : List DU} (h : DSw u v) : DSw (x :: u) (x :: v)
  | swap (e : Elem) (u : List DU) : DSw (.A e :: .C :: u) (.C :: .A e :: u)
  | symm {u v : List DU} (h : DSw u v) : DSw v u
  | trans {u v w : List DU} (h : DSw u v) (k : DSw v w) : DSw u w
theorem DSw.left (w : List DU) {u v : List DU} (h : DSw u v) : DSw (w ++ u) (w ++ v) := by
  induction w with
  | nil => exact h
  | cons x w ih => exact .cons x ih
theorem DSw.right (w : List DU) {u v : List DU} (h : DSw u v) : DSw (u ++ w) (v ++ w) := by
  induction h with
  | refl u => exact .refl _
  | cons x _ ih => exact .cons x ih
  | swap e u => exact .swap e _
  | symm _ ih => exact .symm ih
  | trans _ _ a b => exact .trans a b
theorem dsw_lens {u v : List DU} (h : DSw u v) : oldN u = oldN v ∧ newN u = newN v := by
  induction h with
  | refl u => exact ⟨rfl, rfl⟩
  | cons x _ ih => cases x <;> simp [oldN, newN, ih.1, ih.2]
  | swap e u => exact ⟨rfl, rfl⟩
  | symm _ ih => exact ⟨ih.1.symm, ih.2.symm⟩
  | trans _ _ a b => exact ⟨a.1.trans b.1, a.2.trans b.2⟩
theorem dsw_C_As (e : List Elem) (u : List DU) : DSw (.C :: (e.map .A ++ u)) (e.map .A ++ .C :: u) := by
  induction e with
  | nil => exact .refl _
  | cons x e ih => exact .trans (.symm (.swap x _)) (.cons _ ih)
theorem dsw_Cs_As (c : Nat) (e : List Elem) (u : List DU) : DSw (List.replicate c .C ++ (e.map .A ++ u)) (e.map .A ++ (List.replicate c .C ++ u)) := by
  induction c with
  | zero => exact .refl _
  | succ c ih => exact .trans (.cons _ ih) (dsw_C_As e _)
def rawD (l : List Elem) (d : List DStep) : List Elem := applyU (exD d) l
end Go.Ch
end
section
set_option linter.unusedVariables false
set_option linter.unusedSimpArgs false
namespace Go.Ch
open Go Go.Ab

structure DWr where
  out : List DStep
  add : List Elem
  cut : Int
def flushD (w : DWr) : List DStep := w.out ++ (if 0 < w.add.length then [⟨1, 0, [], w.add⟩] else []) ++ (if 0 < w.cut then [⟨2, w.cut, [], []⟩] else [])
def keepD (l : List DStep) (n : Int) (c : List Attr) : List DStep :=
  if 0 < l.length ∧ (l.getD (l.length - 1) default).kind = 0 ∧ sameL (l.getD (l.length - 1) default).attrs c = true then
    l.set (l.length - 1) ⟨(l.getD (l.length - 1) default).kind, (l.getD (l.length - 1) default).n + n, (l.getD (l.length - 1) default).attrs, (l.getD (l.length - 1) default).elems⟩
  else l ++ [⟨0, n, c, []⟩]
/-- A step without the bound on its count. -/
def DOkW (s : DStep) : Prop :=
  (s.kind = 1 ∧ s.n = 0 ∧ s.attrs = [] ∧ s.elems ≠ [] ∧ ∀ x ∈ s.elems, elemE x = 0) ∨
  ((s.kind = 0 ∨ s.kind = 2) ∧ s.elems = [] ∧ (s.kind = 2 → s.attrs = []) ∧ 1 ≤ s.n ∧ VG true s.attrs)
def AdjOk : List DStep → Prop
  | [] => True
  | [_] => True
  | s :: t :: l => adjD s t = false ∧ AdjOk (t :: l)
theorem adj_snoc : ∀ {l : List DStep} {s : DStep}, AdjOk l → (∀ t, l.getLast? = some t → adjD t s = false) → AdjOk (l ++ [s])
  | [], s, _, _ => trivial
  | [x], s, _, h => ⟨h x rfl, trivial⟩
  | x :: y :: l, s, hf, h => ⟨hf.1, adj_snoc (l := y :: l) hf.2 (fun t ht => h t (by simpa [List.getLast?_cons_cons] using ht))⟩
theorem adjD_eq' {w x x' : DStep} (k : x'.kind = x.kind) (a : x'.attrs = x.attrs) : adjD w x' = adjD w x := by unfold adjD; rw [k, a]
theorem adj_last : ∀ {l : List DStep} {s s' : DStep}, AdjOk (l ++ [s]) → s'.kind = s.kind → s'.attrs = s.attrs → AdjOk (l ++ [s'])
  | [], s, s', _, _, _ => trivial
  | [x], s, s', h, k, a => ⟨by rw [adjD_eq' k a]; exact h.1, trivial⟩
  | x :: y :: l, s, s', h, k, a => ⟨h.1, adj_last (l := y :: l) h.2 k a⟩
theorem dform_of : ∀ {l : List DStep}, (∀ s ∈ l, DOk s) → AdjOk l → DForm l
  | [], _, _ => trivial
  | [s], h, _ => h s (by simp)
  | s :: t :: l, h, k => ⟨h s (by simp), k.1, dform_of (fun x hx => h x (by simp at hx ⊢; exact .inr hx)) k.2⟩
theorem oSW {s : DStep} (h : DOkW s) : 0 ≤ oS s ∧ 0 ≤ nS s ∧ (s.kind ≠ 1 → oS s = s.n) ∧ 0 ≤ s.n := by
  unfold oS nS szD
  rcases h with ⟨k, n, a, e, _⟩ | ⟨k, _, _, n1, _⟩
  · have : 0 < s.elems.length := List.length_pos_iff.2 e
    rw [if_pos k, if_neg (by omega), if_pos k]
    exact ⟨Int.le_refl _, by omega, fun q => absurd k q, by omega⟩
  · have k1 : ¬ s.kind = 1 := by omega
    simp only [if_neg k1]
    refine ⟨by omega, by (split <;> omega), fun _ => trivial, by omega⟩
theorem sumsW : ∀ {l : List DStep}, (∀ s ∈ l, DOkW s) → 0 ≤ oldD l ∧ 0 ≤ newD l ∧ ∀ s ∈ l, s.kind ≠ 1 → s.n ≤ oldD l
  | [], _ => ⟨Int.le_refl _, Int.le_refl _, fun s hs => by cases hs⟩
  | s :: l, h => by
    have h1 := oSW (h s (by simp))
    have h2 := sumsW (l := l) (fun t ht => h t (by simp [ht]))
    simp only [oldD, newD]
    refine ⟨by omega, by omega, fun t ht k => ?_⟩
    rcases List.mem_cons.1 ht with rfl | ht
    · have := h1.2.2.1 k; omega
    · have := h2.2.2 t ht k; omega
theorem valid_of {l : List DStep} (h : ∀ s ∈ l, DOkW s) (ha : AdjOk l) (h1 : oldD l ≤ 2147483647) (h2 : newD l ≤ 2147483647) : DValid l := by
  refine ⟨dform_of (fun s hs => ?_) ha, h1, h2⟩
  rcases h s hs with q | ⟨a, b, c, d, e⟩
  · exact .inl q
  · have := (sumsW h).2.2 s hs (by omega)
    exact .inr ⟨a, b, c, d, by omega, e⟩
theorem oldN_app (u v : List DU) : oldN (u ++ v) = oldN u + oldN v := by
  induction u with
  | nil => simp [oldN]
  | cons x u ih => cases x <;> simp [oldN, ih] <;> omega
theorem newN_app (u v : List DU) : newN (u ++ v) = newN u + newN v := by
  induction u with
  | nil => simp [newN]
  | cons x u ih => cases x <;> simp [newN, ih] <;> omega
theorem lens_As (e : List Elem) : oldN (e.map .A) = 0 ∧ newN (e.map .A) = e.length := by
  induction e with
  | nil => exact ⟨rfl, rfl⟩
  | cons x e ih => simp [oldN, newN, ih]
theorem lens_Cs (n : Nat) : oldN (List.replicate n .C) = n ∧ newN (List.replicate n .C) = 0 := by
  induction n with
  | zero => exact ⟨rfl, rfl⟩
  | succ n ih => simp [List.replicate_succ, oldN, newN, ih]
theorem lens_Ks (n : Nat) (c : List Attr) : oldN (List.replicate n (.K c)) = n ∧ newN (List.replicate n (.K c)) = n := by
  induction n with
  | zero => exact ⟨rfl, rfl⟩
  | succ n ih => simp [List.replicate_succ, oldN, newN, ih]
theorem lens_S {s : DStep} (h : DOkW s) : (oldN (exS s) : Int) = oS s ∧ (newN (exS s) : Int) = nS s := by
  unfold exS oS nS szD
  rcases h with ⟨k, n, a, e, _⟩ | ⟨k, _, _, n1, _⟩
  · rw [if_pos k, if_pos k, if_neg (by omega), if_pos k, (lens_As _).1, (lens_As _).2]; exact ⟨rfl, rfl⟩
  · have k1 : ¬ s.kind = 1 := by omega
    by_cases k2 : s.kind = 2
    · simp only [if_neg k1, if_pos k2]
      rw [(lens_Cs _).1, (lens_Cs _).2]; omega
    · simp only [if_neg k1, if_neg k2]
      rw [(lens_Ks _ _).1, (lens_Ks _ _).2]; omega
theorem lens_D : ∀ {l : List DStep}, (∀ s ∈ l, DOkW s) → (oldN (exD l) : Int) = oldD l ∧ (newN (exD l) : Int) = newD l
  | [], _ => ⟨rfl, rfl⟩
  | s :: l, h => by
    have h1 := lens_S (h s (by simp))
    have h2 := lens_D (l := l) (fun t ht => h t (by simp [ht]))
    simp only [exD, oldD, newD]
    rw [oldN_app, newN_app]
    omega
def exDW (w : DWr) : List DU := exD w.out ++ (w.add.map .A ++ List.replicate w.cut.toNat .C)
structure GoodD (w : DWr) : Prop where
  ok : ∀ s ∈ w.out, DOkW s
  adj : AdjOk w.out
  last : ∀ t, w.out.getLast? = some t → t.kind = 0
  add : ∀ x ∈ w.add, elemE x = 0
  cut : 0 ≤ w.cut
theorem goodD0 : GoodD ⟨[], [], 0⟩ := ⟨fun s h => (by cases h), trivial, fun t h => (by cases h), fun x h => (by cases h), Int.le_refl _⟩
theorem flushD_ex {w : DWr} (h : GoodD w) : exD (flushD w) = exDW w := by
  have h2 := h.cut
  unfold flushD exDW
  rw [exD_app, exD_app, List.append_assoc]
  congr 2
  · split
    · simp [exD, exS]
    · rw [show w.add = [] from len0.1 (by omega)]; rfl
  · split
    · simp [exD, exS]
    · rw [show w.cut.toNat = 0 by omega]; rfl
theorem adj_1 {t s : DStep} (h : t.kind ≠ s.kind) (h2 : ¬ (t.kind = 2 ∧ s.kind = 1)) : adjD t s = false := by
  cases e : adjD t s
  · rfl
  · rcases adjD_yes.1 e with ⟨a, _⟩ | a
    · exact absurd a h
    · exact absurd a h2
theorem vg_nil : VG true [] := (chk_iff (e := true) (l := [])).1 (by rw [chkA]; rfl)
theorem flushD_ok {w : DWr} (h : GoodD w) : (∀ s ∈ flushD w, DOkW s) ∧ AdjOk (flushD w) := by
  have h2 := h.cut
  have o1 : 0 < w.add.length → DOkW ⟨1, 0, [], w.add⟩ := fun q => .inl ⟨rfl, rfl, rfl, List.length_pos_iff.1 q, h.add⟩
  have o2 : 0 < w.cut → DOkW ⟨2, w.cut, [], []⟩ := fun q => .inr ⟨.inr rfl, rfl, fun _ => rfl, q, vg_nil⟩
  refine ⟨fun s hs => ?_, ?_⟩
  · unfold flushD at hs
    simp only [List.mem_append] at hs
    rcases hs with (hs | hs) | hs
    · exact h.ok s hs
    · split at hs
      · rename_i q; rw [List.mem_singleton] at hs; subst hs; exact o1 q
      · cases hs
    · split at hs
      · rename_i q; rw [List.mem_singleton] at hs; subst hs; exact o2 q
      · cases hs
  · unfold flushD
    by_cases ha : 0 < w.add.length
    · rw [if_pos ha]
      have f1 : AdjOk (w.out ++ [⟨1, 0, [], w.add⟩]) := adj_snoc h.adj (fun t ht => by
        have := h.last t ht
        exact adj_1 (by simp only; omega) (by omega))
      by_cases hc : 0 < w.cut
      · rw [if_pos hc]
        refine adj_snoc f1 (fun t ht => ?_)
        rw [List.getLast?_concat] at ht
        cases ht
        exact adj_1 (by show (1 : Int) ≠ 2; decide) (by show ¬ ((1 : Int) = 2 ∧ (2 : Int) = 1); decide)
      · rw [if_neg hc, List.append_nil]; exact f1
    · rw [if_neg ha, List.append_nil]
      by_cases hc : 0 < w.cut
      · rw [if_pos hc]
        refine adj_snoc h.adj (fun t ht => ?_)
        have := h.last t ht
        exact adj_1 (by simp only; omega) (by omega)
      · rw [if_neg hc, List.append_nil]; exact h.adj
theorem lastD {l : List DStep} (h : 0 < l.length) : l = l.take (l.length - 1) ++ [l.getD (l.length - 1) default] := by
  conv => lhs; rw [← List.take_append_drop (l.length - 1) l]
  congr 1
  rw [List.drop_eq_getElem_cons (by omega), List.drop_eq_nil_of_le (by omega)]
  simp [List.getD, List.getElem?_eq_getElem (show l.length - 1 < l.length by omega)]
theorem lastD_mem {l : List DStep} (h : 0 < l.length) : l.getD (l.length - 1) default ∈ l := by
  rw [show l.getD (l.length - 1) default = l[l.length - 1] by simp [List.getD, List.getElem?_eq_getElem (show l.length - 1 < l.length by omega)]]
  exact List.getElem_mem _
theorem setD {l : List DStep} (h : 0 < l.length) (s : DStep) : l.set (l.length - 1) s = l.take (l.length - 1) ++ [s] := by
  rw [List.set_eq_take_append_cons_drop, if_pos (by omega), List.drop_eq_nil_of_le (by omega)]
theorem keepD_ok {l : List DStep} {n : Int} {c : List Attr} (ho : ∀ s ∈ l, DOkW s) (hf : AdjOk l) (hn : 1 ≤ n) (hc : VG true c) :
    (∀ s ∈ keepD l n c, DOkW s) ∧ AdjOk (keepD l n c) ∧ (∀ t, (keepD l n c).getLast? = some t → t.kind = 0) ∧ exD (keepD l n c) = exD l ++ List.replicate n.toNat (.K c) := by
  unfold keepD
  split
  · rename_i hc
    obtain ⟨h0, hk, ha⟩ := hc
    rw [sameL_eq] at ha
    generalize hx : l.getD (l.length - 1) default = x at hk ha ⊢
    have hl := lastD h0
    rw [hx] at hl
    rw [setD h0]
    have hox : DOkW x := ho x (by rw [hl]; simp)
    have hx2 : x.elems = [] ∧ 1 ≤ x.n ∧ VG true x.attrs := by
      rcases hox with ⟨k, _⟩ | ⟨_, a, _, b, d⟩
      · omega
      · exact ⟨a, b, d⟩
    refine ⟨fun s hs => ?_, adj_last (s := x) (by rw [← hl]; exact hf) rfl rfl, fun t ht => ?_, ?_⟩
    · rw [List.mem_append] at hs
      rcases hs with hs | hs
      · exact ho s (List.mem_of_mem_take hs)
      · rw [List.mem_singleton] at hs; subst hs
        exact .inr ⟨.inl hk, hx2.1, fun q => by simp only at q; omega, by simp only; omega, hx2.2.2⟩
    · rw [List.getLast?_concat] at ht; cases ht; exact hk
    · conv => rhs; rw [hl]
      rw [exD_app, exD_app, List.append_assoc]
      congr 1
      simp only [exD, List.append_nil, exS]
      rw [if_neg (by omega), if_neg (by omega), if_neg (by omega), if_neg (by omega), ha, show (x.n + n).toNat = x.n.toNat + n.toNat by omega]
      exact List.replicate_append_replicate.symm
  · rename_i hq
    refine ⟨fun s hs => ?_, adj_snoc hf (fun t ht => ?_), fun t ht => ?_, by rw [exD_app]; simp [exD, exS]⟩
    · rw [List.mem_append] at hs
      rcases hs with hs | hs
      · exact ho s hs
      · rw [List.mem_singleton] at hs; subst hs
        exact .inr ⟨.inl rfl, rfl, fun q => (by cases q), hn, hc⟩
    · have h0 : 0 < l.length := by
        rcases l with _ | ⟨y, l⟩
        · cases ht
        · simp
      have hl : l.getLast? = some (l.getD (l.length - 1) default) := by
        conv => lhs; rw [lastD h0]
        rw [List.getLast?_concat]
      rw [hl] at ht
      cases ht
      cases e : adjD (l.getD (l.length - 1) default) ⟨0, n, c, []⟩
      · rfl
      · rcases adjD_yes.1 e with ⟨a, b | b⟩ | ⟨_, b⟩
        · exact absurd rfl b
        · exact absurd ⟨h0, a, b⟩ hq
        · cases b
    · rw [List.getLast?_concat] at ht; cases ht; rfl
theorem GoodD.keep {w : DWr} {n : Int} {c : List Attr} (h : GoodD w) (hn : 1 ≤ n) (hc : VG true c) :
    GoodD ⟨keepD (flushD w) n c, [], 0⟩ ∧ exDW ⟨keepD (flushD w) n c, [], 0⟩ = exDW w ++ List.replicate n.toNat (.K c) := by
  obtain ⟨q1, q2, q3, q4⟩ := keepD_ok (flushD_ok h).1 (flushD_ok h).2 hn hc
  refine ⟨⟨q1, q2, q3, fun x hx => (by cases hx), Int.le_refl _⟩, ?_⟩
  rw [← flushD_ex h, ← q4]
  simp [exDW]
theorem GoodD.elems {w : DWr} {e : List Elem} (h : GoodD w) (he : ∀ x ∈ e, elemE x = 0) :
    GoodD ⟨w.out, w.add ++ e, w.cut⟩ ∧ DSw (exDW ⟨w.out, w.add ++ e, w.cut⟩) (exDW w ++ e.map .A) := by
  refine ⟨⟨h.ok, h.adj, h.last, fun x hx => ?_, h.cut⟩, ?_⟩
  · rcases List.mem_append.1 hx with hx | hx
    · exact h.add x hx
    · exact he x hx
  · unfold exDW
    simp only [List.map_append, List.append_assoc]
    refine .left _ (.left _ ?_)
    have := dsw_Cs_As w.cut.toNat e []
    simp only [List.append_nil] at this
    exact .symm this
theorem GoodD.cuts {w : DWr} {n : Int} (h : GoodD w) (hn : 0 ≤ n) :
    GoodD ⟨w.out, w.add, w.cut + n⟩ ∧ exDW ⟨w.out, w.add, w.cut + n⟩ = exDW w ++ List.replicate n.toNat .C := by
  have h2 := h.cut
  refine ⟨⟨h.ok, h.adj, h.last, h.add, by simp only; omega⟩, ?_⟩
  unfold exDW
  simp only [List.append_assoc]
  rw [show (w.cut + n).toNat = w.cut.toNat + n.toNat by omega, ← List.replicate_append_replicate]
theorem GoodD.valid {w : DWr} {u : List DU} (h : GoodD w) (hs : DSw (exDW w) u) (h1 : oldN u ≤ 2147483647) (h2 : newN u ≤ 2147483647) :
    DValid (flushD w) ∧ DSw (exD (flushD w)) u ∧ oldD (flushD w) = oldN u ∧ newD (flushD w) = newN u := by
  have hk := flushD_ok h
  have he := flushD_ex h
  have hl := dsw_lens hs
  have hd := lens_D hk.1
  rw [he] at hd
  refine ⟨valid_of hk.1 hk.2 (by omega) (by omega), by rw [he]; exact hs, by omega, by omega⟩
end Go.Ch
end
section
set_option linter.unusedVariables false
set_option linter.unusedSimpArgs false
namespace Go.Ch
open Go Go.Ab

def putU (w : DWr) : DU → DWr
  | .K c => ⟨keepD (flushD w) 1 c, [], 0⟩
  | .A e => ⟨w.out, w.add ++ [e], w.cut⟩
  | .C => ⟨w.out, w.add, w.cut + 1⟩
def foldD (w : DWr) : List DU → DWr
  | [] => w
  | u :: us => foldD (putU w u) us
theorem foldD_As (e : List Elem) (us : List DU) : ∀ w : DWr, foldD w (e.map .A ++ us) = foldD ⟨w.out, w.add ++ e, w.cut⟩ us := by
  induction e with
  | nil => intro w; simp
  | cons x e ih => intro w; simp only [List.map_cons, List.cons_append, foldD, putU]; rw [ih]; simp
theorem foldD_Cs (n : Nat) (us : List DU) : ∀ w : DWr, foldD w (List.replicate n .C ++ us) = foldD ⟨w.out, w.add, w.cut + n⟩ us := by
  induction n with
  | zero => intro w; simp
  | succ n ih => intro w; simp only [List.replicate_succ, List.cons_append, foldD, putU]; rw [ih]; simp only; rw [show w.cut + 1 + (n : Int) = w.cut + ((n + 1 : Nat) : Int) by omega]
theorem flushD_nil (l : List DStep) : flushD ⟨l, [], 0⟩ = l := by simp [flushD]
theorem keepD_keepD {l : List DStep} {m n : Int} {c : List Attr} : keepD (keepD l m c) n c = keepD l (m + n) c := by
  unfold keepD
  by_cases h : 0 < l.length ∧ (l.getD (l.length - 1) default).kind = 0 ∧ sameL (l.getD (l.length - 1) default).attrs c = true
  · rw [if_pos h, if_pos h, setD h.1, setD h.1]
    generalize l.getD (l.length - 1) default = x at *
    have e : ∀ y : DStep, (List.take (l.length - 1) l ++ [y]).getD ((List.take (l.length - 1) l ++ [y]).length - 1) default = y := fun y => by simp
    rw [e, if_pos ⟨by simp, h.2.1, h.2.2⟩, setD (by simp)]
    have t : ∀ y : DStep, (List.take (l.length - 1) l ++ [y]).take ((List.take (l.length - 1) l ++ [y]).length - 1) = List.take (l.length - 1) l := fun y => by simp
    rw [t, Int.add_assoc]
  · rw [if_neg h, if_neg h]
    have e : ∀ y : DStep, (l ++ [y]).getD ((l ++ [y]).length - 1) default = y := fun y => by simp
    rw [e, if_pos ⟨by simp, rfl, sameL_self c⟩, setD (by simp)]
    simp
theorem foldD_Ks (c : List Attr) (us : List DU) : ∀ (n : Nat) (w : DWr), foldD w (List.replicate (n + 1) (.K c) ++ us) = foldD ⟨keepD (flushD w) ((n + 1 : Nat) : Int) c, [], 0⟩ us
  | 0, w => by simp [foldD, putU]
  | n + 1, w => by
    rw [List.replicate_succ, List.cons_append, foldD, foldD_Ks c us n]
    simp only [putU]
    rw [flushD_nil, keepD_keepD, show (1 : Int) + ((n + 1 : Nat) : Int) = ((n + 1 + 1 : Nat) : Int) by omega]
def UnitOk : DU → Prop
  | .K c => VG true c ∧ c.length ≤ 400000000000
  | .A e => elemE e = 0 ∧ e.attrs.length ≤ 400000000000
  | .C => True
/-- Bounds of what the writer holds. -/
structure WBd (w : DWr) : Prop where
  out : DN 400000000000 w.out
  add : AN 400000000000 w.add
theorem WBd.flush {w : DWr} (h : WBd w) (hl : w.add.length ≤ 400000000000) : DN 400000000000 (flushD w) := by
  intro s hs
  unfold flushD at hs
  simp only [List.mem_append] at hs
  rcases hs with (hs | hs) | hs
  · exact h.out s hs
  · split at hs
    · rw [List.mem_singleton] at hs; subst hs; exact ⟨hl, by simp, h.add⟩
    · cases hs
  · split at hs
    · rw [List.mem_singleton] at hs; subst hs; exact ⟨by simp, by simp, fun x hx => by cases hx⟩
    · cases hs
theorem WBd.keep {w : DWr} {n : Int} {c : List Attr} (h : WBd w) (hl : w.add.length ≤ 400000000000) (hc : c.length ≤ 400000000000) : WBd ⟨keepD (flushD w) n c, [], 0⟩ := by
  have hf := h.flush hl
  refine ⟨fun s hs => ?_, fun x hx => by cases hx⟩
  simp only at hs
  unfold keepD at hs
  split at hs
  · rename_i q
    rw [setD q.1, List.mem_append] at hs
    rcases hs with hs | hs
    · exact hf s (List.mem_of_mem_take hs)
    · rw [List.mem_singleton] at hs; subst hs
      have := hf _ (lastD_mem q.1)
      exact this
  · rw [List.mem_append] at hs
    rcases hs with hs | hs
    · exact hf s hs
    · rw [List.mem_singleton] at hs; subst hs; exact ⟨by simp, hc, fun x hx => by cases hx⟩
theorem exS_len {s : DStep} (h : DOkW s) : 1 ≤ (exS s).length ∧ (s.kind ≠ 1 → s.n ≤ (exS s).length) ∧ 0 ≤ s.n ∧ (s.kind = 1 → s.n = 0) := by
  unfold exS
  rcases h with ⟨k, n, a, e, _⟩ | ⟨k, _, _, n1, _⟩
  · rw [if_pos k, List.length_map]
    have : 0 < s.elems.length := List.length_pos_iff.2 e
    exact ⟨this, fun q => absurd k q, by omega, fun _ => n⟩
  · have k1 : ¬ s.kind = 1 := by omega
    rw [if_neg k1]
    refine ⟨?_, fun _ => ?_, by omega, fun q => absurd q k1⟩ <;> split <;> simp <;> omega
theorem exD_len : ∀ {l : List DStep}, (∀ s ∈ l, DOkW s) → l.length ≤ (exD l).length ∧ ∀ s ∈ l, 0 ≤ s.n ∧ s.n ≤ ((exD l).length : Int)
  | [], _ => ⟨Nat.le_refl _, fun s hs => by cases hs⟩
  | s :: l, h => by
    have h1 := exS_len (h s (by simp))
    have h2 := exD_len (l := l) (fun t ht => h t (by simp [ht]))
    simp only [exD, List.length_append, List.length_cons]
    refine ⟨by omega, fun t ht => ?_⟩
    rcases List.mem_cons.1 ht with rfl | ht
    · refine ⟨h1.2.2.1, ?_⟩
      by_cases k : t.kind = 1
      · have := h1.2.2.2 k; omega
      · have := h1.2.1 k; omega
    · have := h2.2 t ht; omega
/-- The writer, what it is still to be fed, how much that is in all, and where it ends. -/
structure DI (w : DWr) (us : List DU) (T : Nat) (G : DWr) : Prop where
  good : GoodD w
  wb : WBd w
  units : ∀ u ∈ us, UnitOk u
  len : (exDW w).length + us.length = T
  small : T ≤ 8589934592
  eq : foldD w us = G
variable {w G : DWr} {us : List DU} {T : Nat}
theorem DI.bd (h : DI w us T G) : w.out.length ≤ T ∧ w.add.length ≤ T ∧ 0 ≤ w.cut ∧ w.cut ≤ T ∧ us.length ≤ T ∧ T ≤ 8589934592 ∧ w.add.length + us.length ≤ T ∧ w.cut + us.length ≤ T := by
  have h1 := (exD_len h.good.ok).1
  have h2 := h.good.cut
  have h3 := h.len
  have h4 := h.small
  unfold exDW at h3
  simp only [List.length_append, List.length_replicate, List.length_map] at h3
  omega
theorem DI.keep {n : Nat} {c : List Attr} (h : DI w (List.replicate (n + 1) (.K c) ++ us) T G) : DI ⟨keepD (flushD w) ((n + 1 : Nat) : Int) c, [], 0⟩ us T G := by
  have hu := h.units (.K c) (by rw [List.replicate_succ]; simp)
  have hb := h.bd
  obtain ⟨g1, g2⟩ := h.good.keep (n := ((n + 1 : Nat) : Int)) (by omega) hu.1
  refine ⟨g1, h.wb.keep (by omega) hu.2, fun u hu => h.units u (by simp [hu]), ?_, h.small, ?_⟩
  · have h3 := h.len
    rw [g2]
    simp only [List.length_append, List.length_replicate] at h3 ⊢
    omega
  · rw [← h.eq, foldD_Ks]
theorem dsw_len {u v : List DU} (h : DSw u v) : u.length = v.length := by
  induction h with
  | refl u => rfl
  | cons x _ ih => simp [ih]
  | swap e u => rfl
  | symm _ ih => exact ih.symm
  | trans _ _ a b => exact a.trans b
theorem DI.elems {e : List Elem} (h : DI w (e.map .A ++ us) T G) : DI ⟨w.out, w.add ++ e, w.cut⟩ us T G := by
  have hu : ∀ x ∈ e, UnitOk (.A x) := fun x hx => h.units (.A x) (by simp [hx])
  obtain ⟨g1, g2⟩ := h.good.elems (e := e) (fun x hx => (hu x hx).1)
  refine ⟨g1, ⟨h.wb.out, fun x hx => ?_⟩, fun u hu => h.units u (by simp [hu]), ?_, h.small, ?_⟩
  · rcases List.mem_append.1 hx with hx | hx
    · exact h.wb.add x hx
    · exact (hu x hx).2
  · have h3 := h.len
    rw [dsw_len g2]
    simp only [List.length_append, List.length_map] at h3 ⊢
    omega
  · rw [← h.eq, foldD_As]
theorem DI.cuts {n : Nat} (h : DI w (List.replicate n .C ++ us) T G) : DI ⟨w.out, w.add, w.cut + n⟩ us T G := by
  obtain ⟨g1, g2⟩ := h.good.cuts (n := (n : Int)) (by omega)
  refine ⟨g1, ⟨h.wb.out, h.wb.add⟩, fun u hu => h.units u (by simp [hu]), ?_, h.small, ?_⟩
  · have h3 := h.len
    rw [g2]
    simp only [List.length_append, List.length_replicate] at h3 ⊢
    omega
  · rw [← h.eq, foldD_Cs]
theorem DI.done (h : DI w [] T G) : w = G := h.eq
def doneD (us : List DU) : List DStep := flushD (foldD ⟨[], [], 0⟩ us)
theorem DI.start (h : ∀ u ∈ us, UnitOk u) (hs : us.length ≤ 8589934592) : DI ⟨[], [], 0⟩ us us.length (foldD ⟨[], [], 0⟩ us) :=
  ⟨goodD0, ⟨fun s h => (by cases h), fun x h => (by cases h)⟩, h, by simp [exDW, exD], hs, rfl⟩
end Go.Ch
end
section
set_option linter.unusedVariables false
set_option linter.unusedSimpArgs false
namespace Go.Ch
open Go Go.Ab

def bk (c : List Attr) (x : Elem) : List Attr := fm chgG (fm rawG x.attrs c) x.attrs
def KOk (us : List DU) : Prop := (∀ c, DU.K c ∈ us → VG true c ∧ c.length ≤ 100000000000) ∧ (∀ e, DU.A e ∈ us → elemE e = 0 ∧ e.attrs.length ≤ 100000000000)
def EOk (r : List Elem) : Prop := ∀ x ∈ r, elemE x = 0 ∧ x.attrs.length ≤ 100000000000
theorem KOk.tail {u : DU} {us : List DU} (h : KOk (u :: us)) : KOk us := ⟨fun c hc => h.1 c (by simp [hc]), fun e he => h.2 e (by simp [he])⟩
theorem EOk.tail {x : Elem} {r : List Elem} (h : EOk (x :: r)) : EOk r := fun y hy => h y (by simp [hy])
def undoD (f : List Elem) (l : List DStep) : List DStep := doneD (undoU (exD l) f)
variable {w G : DWr} {us : List DU} {T : Nat}
theorem DI.run {g : Elem → List Attr} {t : List Elem} {j : Nat} (hj : j < t.length) (h : DI w ((t.drop j).map (fun x => DU.K (g x)) ++ us) T G) :
    UnitOk (.K (g (t.getD j default))) ∧ DI ⟨keepD (flushD w) 1 (g (t.getD j default)), [], 0⟩ ((t.drop (j + 1)).map (fun x => DU.K (g x)) ++ us) T G := by
  rw [dropD hj, List.map_cons, List.cons_append] at h
  exact ⟨h.units _ (by simp), h.keep (n := 0)⟩
theorem DN.mono {m n : Nat} {l : List DStep} (h : DN m l) (hm : m ≤ n) : DN n l := fun s hs => ⟨Nat.le_trans (h s hs).1 hm, Nat.le_trans (h s hs).2.1 hm, fun x hx => Nat.le_trans ((h s hs).2.2 x hx) hm⟩
theorem EOk.an {f : List Elem} (h : EOk f) : AN 400000000000 f := fun x hx => by have := (h x hx).2; omega
theorem EOk.take {f : List Elem} (h : EOk f) (n : Nat) : EOk (f.take n) := fun x hx => h x (List.mem_of_mem_take hx)
theorem EOk.drop {f : List Elem} (h : EOk f) (n : Nat) : EOk (f.drop n) := fun x hx => h x (List.mem_of_mem_drop hx)
end Go.Ch
end
section
set_option linter.unusedVariables false
set_option linter.unusedSimpArgs false
namespace Go.Ch
open Go Go.Ab

def elemsT (l : List Elem) : Tree := .lst 3 (l.map elemT)
def boolT (b : Bool) : Tree := .sc (.bool b)
def attrsT (l : List Attr) : Tree := .lst 2 (l.map attrT)
structure Act where
  ins : List (List Elem)
  cut : List Bool
  set : List (List Attr)
def actT (x : Act) : Tree := .agg [.lst 1 (x.ins.map elemsT), .lst 1 (x.cut.map boolT), .lst 1 (x.set.map attrsT)]
/-- What is left from place i on, as units. -/
def actR (x : Act) (i : Nat) : List DU :=
  if i < x.cut.length then (x.ins.getD i default).map .A ++ ((if x.cut.getD i default = true then .C else .K (x.set.getD i default)) :: actR x (i + 1))
  else (x.ins.getD i default).map .A
termination_by x.cut.length - i
def tailR (x : Act) (i : Nat) : List DU := if i < x.cut.length then (if x.cut.getD i default = true then .C else .K (x.set.getD i default)) :: actR x (i + 1) else []
variable {w G : DWr} {us : List DU} {T : Nat}
theorem DI.of_eq {o o' : List DStep} {a : List Elem} {c : Int} (e : o' = o) (h : DI ⟨o, a, c⟩ us T G) : DI ⟨o', a, c⟩ us T G := e ▸ h
end Go.Ch
end
section
set_option linter.unusedVariables false
set_option linter.unusedSimpArgs false
namespace Go.Ch
open Go Go.Ab

def onB : ByteArray := { data := #[111, 110] }
def boldB : ByteArray := { data := #[98, 111, 108, 100] }
def insE (tag : ByteArray) (i j : Nat) : Elem := ⟨65 + ((i : Int) + (j : Int)) % 26, 0, [⟨tag, { data := #[111, 110] }⟩]⟩
def insL (tag : ByteArray) (i k : Nat) : List Elem := (List.range k).map (insE tag i)
def setL (tag : ByteArray) (v : Int) : List Attr :=
  if v = 1 then [⟨{ data := #[98, 111, 108, 100] }, { data := #[111, 110] }⟩]
  else if v = 2 then [⟨{ data := #[98, 111, 108, 100] }, { data := #[] }⟩]
  else if v = 3 then [⟨{ data := #[98, 111, 108, 100] }, tag⟩, ⟨tag, { data := #[111, 110] }⟩] else []
def insK (raw : List Int) (used : Int) : Nat := (max 0 (rollV raw used 8 - 5)).toNat
def chgF (raw : List Int) (tag : ByteArray) (n : Nat) : Nat → Int → Act → Act
  | 0, used, x => ⟨x.ins ++ [insL tag n (insK raw used)], x.cut, x.set⟩
  | k + 1, used, x => chgF raw tag n k (rollU raw (rollU raw (rollU raw used)))
      ⟨x.ins ++ [insL tag (n - (k + 1)) (insK raw used)], x.cut ++ [rollV raw (rollU raw (rollU raw used)) 8 == 0], x.set ++ [setL tag (rollV raw (rollU raw used) 8)]⟩
def chgX (raw : List Int) (tag : ByteArray) (n : Nat) : Act := chgF raw tag n n 0 ⟨[], [], []⟩
def TagOk (tag : ByteArray) : Prop := (∀ v, VG true (setL tag v)) ∧ VG false [⟨tag, { data := #[111, 110] }⟩]
structure ActOk (x : Act) : Prop where
  ins : ∀ e ∈ x.ins, e.length ≤ 2 ∧ ∀ y ∈ e, elemE y = 0 ∧ y.attrs.length ≤ 100
  set : ∀ c ∈ x.set, VG true c ∧ c.length ≤ 100
def UnitS : DU → Prop
  | .K c => VG true c ∧ c.length ≤ 100
  | .A e => elemE e = 0 ∧ e.attrs.length ≤ 100
  | .C => True
theorem UnitS.ok {u : DU} (h : UnitS u) : UnitOk u := by
  cases u with
  | K c => exact ⟨h.1, by have := h.2; omega⟩
  | A e => exact ⟨h.1, by have := h.2; omega⟩
  | C => trivial
theorem getD_mem' {α : Type} [Inhabited α] {l : List α} {k : Nat} (h : k < l.length) : l.getD k default ∈ l := by
  rw [show l.getD k default = l[k] by simp [List.getD, List.getElem?_eq_getElem h]]
  exact List.getElem_mem h
end Go.Ch
end
section
set_option linter.unusedVariables false
set_option linter.unusedSimpArgs false
namespace Go.Ch
open Go Go.Ab

def axPut (o : List AxStep) (s : DStep) : List AxStep :=
  if s.kind = 0 ∧ 0 < o.length ∧ (o.getD (o.length - 1) default).kind = 0 then o.set (o.length - 1) ⟨(o.getD (o.length - 1) default).kind, (o.getD (o.length - 1) default).n + s.n⟩ else o ++ [⟨s.kind, szD s⟩]
def axF (o : List AxStep) : List DStep → List AxStep
  | [] => o
  | s :: l => axF (axPut o s) l
def axD (d : List DStep) : List AxStep := axF [] d
def forg : DU → U
  | .K _ => .K
  | .A _ => .A
  | .C => .C
def AdjK (k k' : Int) : Prop := (k = k' → k' = 0) ∧ ¬ (k = 2 ∧ k' = 1)
/-! ### Places by units -/
def placeU : List U → Int → Int → Int → Int
  | [], _, _, _ => -1
  | .A :: u, p, fr, tq => placeU u p fr (tq + 1)
  | .K :: u, p, fr, tq => if p = fr then tq else placeU u p (fr + 1) (tq + 1)
  | .C :: u, p, fr, tq => if p = fr then -1 else placeU u p (fr + 1) tq
theorem placeU_As (n : Nat) (u : List U) : ∀ (p fr tq : Int), placeU (rep n .A ++ u) p fr tq = placeU u p fr (tq + n) := by
  induction n with
  | zero => intro p fr tq; simp [rep]
  | succ n ih => intro p fr tq; rw [rep_succ, List.cons_append, placeU, ih]; congr 1; omega
theorem placeU_Ks (n : Nat) (u : List U) : ∀ (p fr tq : Int), fr ≤ p → placeU (rep n .K ++ u) p fr tq = if p < fr + n then tq + p - fr else placeU u p (fr + n) (tq + n) := by
  induction n with
  | zero => intro p fr tq h; rw [if_neg (by omega)]; simp [rep]
  | succ n ih =>
    intro p fr tq h
    rw [rep_succ, List.cons_append, placeU]
    by_cases e : p = fr
    · rw [if_pos e, if_pos (by omega)]; omega
    · rw [if_neg e, ih p (fr + 1) (tq + 1) (by omega)]
      by_cases c : p < fr + 1 + n
      · rw [if_pos c, if_pos (by omega)]; omega
      · rw [if_neg c, if_neg (by omega)]; congr 1 <;> omega
theorem placeU_Cs (n : Nat) (u : List U) : ∀ (p fr tq : Int), fr ≤ p → placeU (rep n .C ++ u) p fr tq = if p < fr + n then -1 else placeU u p (fr + n) tq := by
  induction n with
  | zero => intro p fr tq h; rw [if_neg (by omega)]; simp [rep]
  | succ n ih =>
    intro p fr tq h
    rw [rep_succ, List.cons_append, placeU]
    by_cases e : p = fr
    · rw [if_pos e, if_pos (by omega)]
    · rw [if_neg e, ih p (fr + 1) tq (by omega)]
      by_cases c : p < fr + 1 + n
      · rw [if_pos c, if_pos (by omega)]
      · rw [if_neg c, if_neg (by omega)]; congr 1; omega
theorem placeS_ex : ∀ {l : List AxStep}, Form l → ∀ (p fr tq : Int), fr ≤ p → placeS l p fr tq = placeU (ex l) p fr tq
  | [], _, p, fr, tq, _ => rfl
  | s :: l, hl, p, fr, tq, h => by
    have hn := hl.head.2.2
    have hk := kinds hl.head
    have hnn : (s.n.toNat : Int) = s.n := Int.toNat_of_nonneg (by omega)
    rw [placeS, ex]
    by_cases k1 : s.kind = 1
    · rw [if_pos k1, k1, uOf1, placeU_As, hnn, placeS_ex hl.tail p fr _ h]
    · rw [if_neg k1]
      by_cases k0 : s.kind = 0
      · rw [if_pos k0, k0, uOf0, placeU_Ks _ _ _ _ _ h, hnn]
        split
        · rfl
        · rw [placeS_ex hl.tail p _ _ (by omega)]
      · have k2 : s.kind = 2 := by omega
        rw [if_neg k0, k2, uOf2, placeU_Cs _ _ _ _ _ h, hnn]
        split
        · rfl
        · rw [placeS_ex hl.tail p _ _ (by omega)]
/-! ### What a range leaves, from outside -/
theorem hull_from : ∀ {l : List AxStep} (hl : Form l) (f t first old now : Int), 0 ≤ now → (hullS l f t first 0 old now).2 = 0 ∨ now ≤ (hullS l f t first 0 old now).1
  | [], _, f, t, first, old, now, h => .inl rfl
  | s :: l, hl, f, t, first, old, now, h => by
    have hn := hl.head.2.2
    have hk := kinds hl.head
    rw [hullS]
    by_cases c : s.kind = 0 ∧ max f old < min t (old + s.n)
    · rw [if_pos ⟨c, rfl⟩, if_pos c, if_neg (by omega), if_neg (by omega)]
      have := hull_keep hl.tail f t (now + max f old - old) (now + min t (old + s.n) - old) (old + s.n) (now + s.n) (by omega) (by omega)
      right; rw [this.1]; omega
    · rw [if_neg (fun e => c e.1), if_neg c]
      rcases hull_from hl.tail f t first (if s.kind = 1 then old else old + s.n) (if s.kind = 2 then now else now + s.n) (by split <;> omega) with q | q
      · exact .inl q
      · right
        refine Int.le_trans ?_ q
        split <;> omega
theorem hull_left : ∀ {l : List AxStep} (hl : Form l) (f t first old now p : Int), 0 ≤ now → old ≤ p → p < f → 0 ≤ placeS l p old now → (hullS l f t first 0 old now).2 = 0 ∨ placeS l p old now < (hullS l f t first 0 old now).1
  | [], _, f, t, first, old, now, p, h1, h2, h3, h0 => by simp [placeS] at h0
  | s :: l, hl, f, t, first, old, now, p, h1, h2, h3, h0 => by
    have hn := hl.head.2.2
    have hk := kinds hl.head
    rw [placeS] at h0 ⊢
    rw [hullS]
    by_cases k1 : s.kind = 1
    · rw [if_pos k1] at h0 ⊢
      rw [if_neg (by omega : ¬ ((s.kind = 0 ∧ max f old < min t (old + s.n)) ∧ (0 : Int) = 0)), if_neg (by omega : ¬ (s.kind = 0 ∧ max f old < min t (old + s.n))), if_pos k1, if_neg (by omega : ¬ s.kind = 2)]
      exact hull_left hl.tail f t first old _ p (by omega) h2 h3 h0
    · rw [if_neg k1] at h0 ⊢
      rw [if_neg k1]
      by_cases k0 : s.kind = 0
      · rw [if_pos k0] at h0 ⊢
        rw [if_neg (by omega : ¬ s.kind = 2)]
        by_cases c : p < old + s.n
        · rw [if_pos c] at h0 ⊢
          by_cases hc : s.kind = 0 ∧ max f old < min t (old + s.n)
          · rw [if_pos ⟨hc, rfl⟩, if_pos hc]
            have := hull_keep hl.tail f t (now + max f old - old) (now + min t (old + s.n) - old) (old + s.n) (now + s.n) (by omega) (by omega)
            right; rw [this.1]; omega
          · rw [if_neg (fun e => hc e.1), if_neg hc]
            rcases hull_from hl.tail f t first (old + s.n) (now + s.n) (by omega) with q | q
            · exact .inl q
            · right; omega
        · rw [if_neg c] at h0 ⊢
          rw [if_neg (by omega : ¬ ((s.kind = 0 ∧ max f old < min t (old + s.n)) ∧ (0 : Int) = 0)), if_neg (by omega : ¬ (s.kind = 0 ∧ max f old < min t (old + s.n)))]
          exact hull_left hl.tail f t first _ _ p (by omega) (by omega) h3 h0
      · rw [if_neg k0] at h0 ⊢
        rw [if_neg (by omega : ¬ ((s.kind = 0 ∧ max f old < min t (old + s.n)) ∧ (0 : Int) = 0)), if_neg (by omega : ¬ (s.kind = 0 ∧ max f old < min t (old + s.n))), if_pos (by omega : s.kind = 2)]
        by_cases c : p < old + s.n
        · rw [if_pos c] at h0; omega
        · rw [if_neg c] at h0 ⊢
          exact hull_left hl.tail f t first _ now p h1 (by omega) h3 h0
/-! ### What the drawn changes add -/
/-! ### The laws -/
/-- The letters that the laws number their elements with. -/
def abcL (n : Nat) : List Elem := (List.range n).map fun i : Nat => (⟨97 + (i : Int), 0, []⟩ : Elem)
def thrL (d : List DStep) (f t : Int) : List (Int × Int) := if (hullS (axD d) f t 0 0 0 0).1 < (hullS (axD d) f t 0 0 0 0).2 then [hullS (axD d) f t 0 0 0 0] else []
end Go.Ch
namespace Go.Ch
open Go Go.Ab
structure AxB (o : List AxStep) (i : Nat) : Prop where
  len : o.length ≤ i
  n : ∀ t ∈ o, 0 ≤ t.n ∧ t.n ≤ 2147483647 * (i : Int)
theorem AxB.start : AxB [] 0 := ⟨Nat.le_refl _, fun t ht => by cases ht⟩
theorem AxB.last {o : List AxStep} {i : Nat} (h : AxB o i) (hp : 0 < o.length) : 0 ≤ (o.getD (o.length - 1) default).n ∧ (o.getD (o.length - 1) default).n ≤ 2147483647 * (i : Int) :=
  h.n _ (getD_mem' (by omega))
theorem AxB.next {o : List AxStep} {i : Nat} {s : DStep} (h : AxB o i) (hz : 0 ≤ szD s ∧ szD s ≤ 2147483647) (hs : 0 ≤ s.n ∧ s.n ≤ 2147483647) : AxB (axPut o s) (i + 1) := by
  have hl := h.len
  unfold axPut
  split
  · rename_i c
    have hq := h.last c.2.1
    refine ⟨by rw [List.length_set]; omega, fun t ht => ?_⟩
    rcases List.mem_or_eq_of_mem_set ht with ht | rfl
    · have := h.n t ht; omega
    · simp only; omega
  · refine ⟨by rw [List.length_append]; simp; omega, fun t ht => ?_⟩
    rcases List.mem_append.1 ht with ht | ht
    · have := h.n t ht; omega
    · rw [List.mem_singleton] at ht; subst ht; simp only; omega
end Go.Ch
namespace Go.Ch
open Go Go.Ab
end Go.Ch
end
section
set_option linter.unusedVariables false
namespace Go.Ch
open Go Go.Ab

theorem putC_asc {c : Cell} {ns r : List Cell} (hns : ∀ y ∈ ns, ordC c y < 0) (hr : ∀ y ∈ r, ordC c y < 0) (h : Asc (putL ns r)) : Asc ((if emptyC c = true then [] else [c]) ++ putL ns r) := by
  cases he : emptyC c with
  | true => rw [if_pos rfl]; exact h
  | false =>
    rw [if_neg (by decide)]
    refine ⟨fun y hy => ?_, h⟩
    rcases put_mem ns r y hy with ⟨h1, _⟩ | h1
    · exact hns y h1
    · exact hr y h1
theorem put_asc : ∀ (ns l : List Cell), Asc ns → Asc l → Asc (putL ns l)
  | [], l, _, h => h
  | c :: ns, [], h1, h2 => by
    rw [putL, putC]
    exact putC_asc h1.1 (fun y hy => by cases hy) (put_asc ns [] h1.2 trivial)
  | c :: ns, x :: l, h1, h2 => by
    rw [putL, putC]
    by_cases o1 : ordC x c < 0
    · rw [if_pos o1]
      have ih := put_asc (c :: ns) l h1 h2.2
      rw [putL] at ih
      refine ⟨fun y hy => ?_, ih⟩
      rcases put_mem (c :: ns) l y hy with ⟨h, _⟩ | h
      · rcases List.mem_cons.1 h with rfl | h
        · exact o1
        · exact ordC_trans o1 (h1.1 y h)
      · exact h2.1 y h
    · rw [if_neg o1]
      by_cases o2 : ordC x c = 0
      · rw [if_pos o2]
        have e := ordC_eq.1 o2
        exact putC_asc h1.1 (fun y hy => ordC_le_trans (by rw [ordC_eq.2 ⟨e.1.symm, e.2.symm⟩]; decide) (h2.1 y hy)) (put_asc ns l h1.2 h2.2)
      · rw [if_neg o2]
        have hcx : ordC c x < 0 := ordC_flip.1 (by omega)
        exact putC_asc h1.1 (fun y hy => by
          rcases List.mem_cons.1 hy with rfl | hy
          · exact hcx
          · exact ordC_trans hcx (h2.1 y hy)) (put_asc ns (x :: l) h1.2 h2)
termination_by ns l => ns.length + l.length
theorem place_mono {l : List AxStep} (hl : Form l) {p q : Int} (h0 : 0 ≤ p) (h : p < q) (hp : 0 ≤ placeS l p 0 0) (hq : 0 ≤ placeS l q 0 0) : placeS l p 0 0 < placeS l q 0 0 := by
  have h1 := place_gap hl p q 0 0 h0 h hp
  have h2 := gap_mono hl q 0 0 0 (Int.le_refl _)
  have h3 := gap_place hl q 0 0 (by omega) hq
  omega
theorem mvR_mono {a : List AxStep} {p q : Int} (hp : PIn a p) (hq : PIn a q) (h : p < q) (h1 : ¬ (0 < a.length ∧ mvR a p < 0)) (h2 : ¬ (0 < a.length ∧ mvR a q < 0)) : mvR a p < mvR a q := by
  unfold mvR at *
  by_cases c : 0 < a.length
  · simp only [if_pos c] at *
    obtain ⟨v, p0, _⟩ := hp c
    exact place_mono v.1 p0 h (by omega) (by omega)
  · simp only [if_neg c] at *; exact h
theorem mvC_some {rows cols : List AxStep} {c d : Cell} (h : mvC rows cols c = some d) : ¬ (0 < rows.length ∧ mvR rows c.row < 0) ∧ ¬ (0 < cols.length ∧ mvR cols c.col < 0) ∧ d = { c with row := mvR rows c.row, col := mvR cols c.col } := by
  unfold mvC at h
  split at h
  · cases h
  · rename_i h1
    split at h
    · cases h
    · rename_i h2
      exact ⟨h1, h2, by cases h; rfl⟩
theorem mov_asc {rows cols : List AxStep} : ∀ {l : List Cell}, Asc l → (∀ c ∈ l, PIn rows c.row) → (∀ c ∈ l, PIn cols c.col) → Asc (movL l rows cols)
  | [], _, _, _ => trivial
  | c :: l, h, hr, hc => by
    have ih := mov_asc (l := l) h.2 (fun x hx => hr x (by simp [hx])) (fun x hx => hc x (by simp [hx]))
    unfold movL at *
    rw [List.filterMap_cons]
    cases hm : mvC rows cols c with
    | none => exact ih
    | some d =>
      refine ⟨fun y hy => ?_, ih⟩
      obtain ⟨x, hx, hxy⟩ := List.mem_filterMap.1 hy
      obtain ⟨a1, a2, rfl⟩ := mvC_some hm
      obtain ⟨b1, b2, rfl⟩ := mvC_some hxy
      have ho := h.1 x hx
      rw [ordC_lt] at ho ⊢
      rcases ho with ho | ⟨e, ho⟩
      · exact .inl (mvR_mono (hr c (by simp)) (hr x (by simp [hx])) ho a1 b1)
      · refine .inr ⟨by show mvR rows c.row = mvR rows x.row; rw [e], mvR_mono (hc c (by simp)) (hc x (by simp [hx])) ho a2 b2⟩
end Go.Ch
end
section
set_option linter.unusedVariables false
namespace Go.Ch
open Go Go.Ab

theorem mergE_all {l : List Rect} {m n : Int} : ∀ (k i : Nat), l.length - i = k →
    (mergE l m n i = 0 ↔ ∀ j, i ≤ j → j < l.length → insB (l.getD j default) m n = true ∧ ¬ ((l.getD j default).h = 1 ∧ (l.getD j default).w = 1) ∧ (0 < j → befB (l.getD (j - 1) default) (l.getD j default) = true) ∧ anyM (l.take j) (l.getD j default) = false)
  | 0, i, h => by
    rw [mergE, if_neg (by omega)]
    exact ⟨fun _ j h1 h2 => by omega, fun _ => rfl⟩
  | k + 1, i, h => by
    have ih := mergE_all (l := l) (m := m) (n := n) k (i + 1) (by omega)
    rw [mergE, if_pos (by omega)]
    by_cases c1 : insB (l.getD i default) m n = false
    · rw [if_pos c1]
      refine ⟨fun q => (by cases q), fun q => ?_⟩
      have := (q i (Nat.le_refl _) (by omega)).1
      rw [c1] at this; cases this
    · rw [if_neg c1]
      by_cases c2 : (l.getD i default).h = 1 ∧ (l.getD i default).w = 1
      · rw [if_pos c2]
        exact ⟨fun q => (by cases q), fun q => absurd c2 (q i (Nat.le_refl _) (by omega)).2.1⟩
      · rw [if_neg c2]
        by_cases c3 : 0 < i ∧ befB (l.getD (i - 1) default) (l.getD i default) = false
        · rw [if_pos c3]
          refine ⟨fun q => (by cases q), fun q => ?_⟩
          have := (q i (Nat.le_refl _) (by omega)).2.2.1 c3.1
          rw [c3.2] at this; cases this
        · rw [if_neg c3]
          by_cases c4 : anyM (l.take i) (l.getD i default) = true
          · rw [if_pos c4]
            refine ⟨fun q => (by cases q), fun q => ?_⟩
            have := (q i (Nat.le_refl _) (by omega)).2.2.2
            rw [c4] at this; cases this
          · rw [if_neg c4, ih]
            refine ⟨fun q j h1 h2 => ?_, fun q j h1 h2 => q j (by omega) h2⟩
            by_cases e : i = j
            · subst e
              refine ⟨by simpa using c1, c2, fun h0 => ?_, by simpa using c4⟩
              cases hb : befB (l.getD (i - 1) default) (l.getD i default) with
              | true => rfl
              | false => exact absurd ⟨h0, hb⟩ c3
            · exact q j (by omega) h2
theorem bef_trans {a b c : Rect} (h1 : befB a b = true) (h2 : befB b c = true) : befB a c = true := by
  rw [befB_iff] at *; omega
/-- A valid list of rectangles. -/
structure MV (l : List Rect) (m n : Int) : Prop where
  ins : ∀ r ∈ l, insB r m n = true
  big : ∀ r ∈ l, ¬ (r.h = 1 ∧ r.w = 1)
  pw : l.Pairwise (fun a b => befB a b = true ∧ meetB a b = false)
theorem mergE_iff {l : List Rect} {m n : Int} : mergE l m n 0 = 0 ↔ MV l m n := by
  rw [mergE_all _ 0 rfl]
  constructor
  · intro h
    refine ⟨fun r hr => ?_, fun r hr => ?_, ?_⟩
    · obtain ⟨j, hj, rfl⟩ := mem_getDX hr
      exact (h j (Nat.zero_le _) hj).1
    · obtain ⟨j, hj, rfl⟩ := mem_getDX hr
      exact (h j (Nat.zero_le _) hj).2.1
    · have hb : ∀ d p, p + d + 1 < l.length → befB (l.getD p default) (l.getD (p + d + 1) default) = true := by
        intro d
        induction d with
        | zero => intro p hp; exact (h (p + 0 + 1) (Nat.zero_le _) hp).2.2.1 (by omega)
        | succ d ih =>
          intro p hp
          have h1 := ih p (by omega)
          have h2 := (h (p + (d + 1) + 1) (Nat.zero_le _) hp).2.2.1 (by omega)
          rw [show p + (d + 1) + 1 - 1 = p + d + 1 by omega] at h2
          exact bef_trans h1 h2
      rw [List.pairwise_iff_getElem]
      intro p q hp hq hpq
      have e1 : l[p] = l.getD p default := by simp [List.getD, List.getElem?_eq_getElem hp]
      have e2 : l[q] = l.getD q default := by simp [List.getD, List.getElem?_eq_getElem hq]
      rw [e1, e2]
      refine ⟨?_, ?_⟩
      · have := hb (q - p - 1) p (by omega)
        rwa [show p + (q - p - 1) + 1 = q by omega] at this
      · have h3 := (h q (Nat.zero_le _) hq).2.2.2
        cases hm : meetB (l.getD p default) (l.getD q default) with
        | false => rfl
        | true =>
          have := anyM_take.2 ⟨p, hpq, hp, hm⟩
          rw [h3] at this; cases this
  · intro h j _ hj
    have hpw := List.pairwise_iff_getElem.1 h.pw
    have hg : ∀ p (hp : p < l.length), l[p] = l.getD p default := fun p hp => by simp [List.getD, List.getElem?_eq_getElem hp]
    refine ⟨h.ins _ (getDX_mem hj), h.big _ (getDX_mem hj), fun h0 => ?_, ?_⟩
    · have := (hpw (j - 1) j (by omega) hj (by omega)).1
      rwa [hg, hg] at this
    · cases ha : anyM (l.take j) (l.getD j default) with
      | false => rfl
      | true =>
        obtain ⟨p, p1, p2, p3⟩ := anyM_take.1 ha
        have := (hpw p j p2 hj p1).2
        rw [hg, hg, p3] at this; cases this
/-- Apart: no two of them meet. -/
def Apart (l : List Rect) : Prop := l.Pairwise (fun a b => meetB a b = false)
theorem addQ_apart {l : List Rect} {r : Rect} (h : Apart l) : Apart (addQ l r) := by
  unfold addQ Apart
  rw [List.pairwise_append]
  refine ⟨h.filter _, List.pairwise_singleton _ _, fun a ha b hb => ?_⟩
  rw [List.mem_singleton.1 hb]
  unfold delL at ha
  simpa using (List.mem_filter.1 ha).2
theorem foldl_apart : ∀ (ms l : List Rect), Apart l → Apart (ms.foldl addQ l)
  | [], l, h => h
  | r :: ms, l, h => foldl_apart ms (addQ l r) (addQ_apart h)
theorem addQ_all {P : Rect → Prop} {l : List Rect} {r : Rect} (h : ∀ q ∈ l, P q) (hr : P r) : ∀ q ∈ addQ l r, P q := fun q hq => by
  unfold addQ delL at hq
  rcases List.mem_append.1 hq with hq | hq
  · exact h q (List.mem_filter.1 hq).1
  · rw [List.mem_singleton.1 hq]; exact hr
theorem foldl_all {P : Rect → Prop} : ∀ (ms l : List Rect), (∀ q ∈ l, P q) → (∀ r ∈ ms, P r) → ∀ q ∈ ms.foldl addQ l, P q
  | [], l, h, _ => h
  | r :: ms, l, h, hm => foldl_all ms (addQ l r) (addQ_all h (hm r (by simp))) (fun x hx => hm x (by simp [hx]))
theorem meet_f {a b : Rect} (h : meetB a b = false) : ¬ (a.row < b.row + b.h ∧ b.row < a.row + a.h ∧ a.col < b.col + b.w ∧ b.col < a.col + a.w) := fun q => by
  rw [meetB_iff.2 q] at h; cases h
theorem bef_of_apart {a b : Rect} {m n : Int} (ha : insB a m n = true) (hb : insB b m n = true) (h1 : befB b a = false) (h2 : meetB a b = false) : befB a b = true := by
  have u := insB_iff.1 ha
  have v := insB_iff.1 hb
  have w := meet_f h2
  rw [bef_f] at h1
  rw [befB_iff]
  omega
theorem apart_perm {l k : List Rect} (h : l.Perm k) (ha : Apart k) : Apart l :=
  (List.Perm.pairwise_iff (fun {a b} (q : meetB a b = false) => by rw [meetB_comm]; exact q) h).2 ha
theorem sort_mv {l : List Rect} {m n : Int} (h1 : ∀ r ∈ l, insB r m n = true) (h2 : ∀ r ∈ l, ¬ (r.h = 1 ∧ r.w = 1)) (h3 : Apart l) : MV (sortQ l) m n := by
  have hp := sortQ_perm l
  have i1 : ∀ r ∈ sortQ l, insB r m n = true := fun r hr => h1 r (hp.mem_iff.1 hr)
  refine ⟨i1, fun r hr => h2 r (hp.mem_iff.1 hr), ?_⟩
  have ha := apart_perm hp h3
  rw [List.pairwise_iff_getElem]
  intro i j hi hj hij
  have ha' := List.pairwise_iff_getElem.1 ha i j hi hj hij
  refine ⟨?_, ha'⟩
  have hs := sortQ_sorted l i j hij (by rw [sortQ_len] at hj; exact hj)
  rw [show (sortQ l).getD j default = (sortQ l)[j] by simp [List.getD, List.getElem?_eq_getElem hj], show (sortQ l).getD i default = (sortQ l)[i] by simp [List.getD, List.getElem?_eq_getElem hi]] at hs
  exact bef_of_apart (i1 _ (List.getElem_mem hi)) (i1 _ (List.getElem_mem hj)) hs ha'
end Go.Ch
end
section
set_option linter.unusedVariables false
namespace Go.Ch
open Go Go.Ab

theorem hull_last : ∀ {l : List AxStep} (hl : Form l) (f t first last old now : Int), 0 ≤ now →
    (hullS l f t first last old now).2 = last ∨ ∃ p, old ≤ p ∧ f ≤ p ∧ p < t ∧ 0 ≤ placeS l p old now ∧ (hullS l f t first last old now).2 = placeS l p old now + 1
  | [], _, f, t, first, last, old, now, h0 => .inl rfl
  | s :: l, hl, f, t, first, last, old, now, h0 => by
    have hn := hl.head.2.2
    have hk := kinds hl.head
    rw [hullS]
    by_cases k1 : s.kind = 1
    · rw [if_neg (by omega : ¬ ((s.kind = 0 ∧ max f old < min t (old + s.n)) ∧ last = 0)), if_neg (by omega : ¬ (s.kind = 0 ∧ max f old < min t (old + s.n))), if_pos k1, if_neg (by omega : ¬ s.kind = 2)]
      rcases hull_last hl.tail f t first last old (now + s.n) (by omega) with h | ⟨p, p1, p2, p3, p4, p5⟩
      · exact .inl h
      · exact .inr ⟨p, p1, p2, p3, by rw [placeS, if_pos k1]; exact p4, by rw [placeS, if_pos k1]; exact p5⟩
    · by_cases k0 : s.kind = 0
      · rw [if_neg k1, if_neg (by omega : ¬ s.kind = 2)]
        have hpl : ∀ p, old + s.n ≤ p → placeS (s :: l) p old now = placeS l p (old + s.n) (now + s.n) := fun p hp => by rw [placeS, if_neg k1, if_pos k0, if_neg (by omega)]
        have hps : ∀ p, p < old + s.n → placeS (s :: l) p old now = now + p - old := fun p hp => by rw [placeS, if_neg k1, if_pos k0, if_pos hp]
        rcases hull_last hl.tail f t (if (s.kind = 0 ∧ max f old < min t (old + s.n)) ∧ last = 0 then now + max f old - old else first) (if s.kind = 0 ∧ max f old < min t (old + s.n) then now + min t (old + s.n) - old else last) (old + s.n) (now + s.n) (by omega) with h | ⟨p, p1, p2, p3, p4, p5⟩
        · by_cases c : s.kind = 0 ∧ max f old < min t (old + s.n)
          · have hp := hps (min t (old + s.n) - 1) (by omega)
            refine .inr ⟨min t (old + s.n) - 1, by omega, by omega, by omega, by omega, ?_⟩
            rw [h, hp, if_pos c]; omega
          · rw [h, if_neg c]; exact .inl rfl
        · exact .inr ⟨p, by omega, p2, p3, by rw [hpl p p1]; exact p4, by rw [hpl p p1]; exact p5⟩
      · have k2 : s.kind = 2 := by omega
        rw [if_neg (by omega : ¬ ((s.kind = 0 ∧ max f old < min t (old + s.n)) ∧ last = 0)), if_neg (by omega : ¬ (s.kind = 0 ∧ max f old < min t (old + s.n))), if_neg k1, if_pos k2]
        rcases hull_last hl.tail f t first last (old + s.n) now h0 with h | ⟨p, p1, p2, p3, p4, p5⟩
        · exact .inl h
        · have hpl : placeS (s :: l) p old now = placeS l p (old + s.n) now := by rw [placeS, if_neg k1, if_neg k0, if_neg (by omega)]
          exact .inr ⟨p, by omega, p2, p3, by rw [hpl]; exact p4, by rw [hpl]; exact p5⟩
/-- A kept row's place lies in what there is afterwards. -/
theorem place_lt : ∀ {l : List AxStep} (hl : Form l) (p fr tq : Int), fr ≤ p → 0 ≤ placeS l p fr tq → placeS l p fr tq < tq + newU (ex l)
  | [], _, p, fr, tq, h, h0 => by simp [placeS] at h0
  | s :: l, hl, p, fr, tq, h, h0 => by
    have hn := hl.head.2.2
    have hk := kinds hl.head
    have e : (newU (ex (s :: l)) : Int) = (if s.kind = 2 then 0 else s.n) + newU (ex l) := by
      rw [ex, new_rep, Int.toNat_of_nonneg (by omega)]
    rw [e]
    rw [placeS] at h0 ⊢
    by_cases k1 : s.kind = 1
    · rw [if_pos k1] at h0 ⊢
      rw [if_neg (show ¬ s.kind = 2 by omega)]
      have := place_lt hl.tail p fr (tq + s.n) h h0
      omega
    · rw [if_neg k1] at h0 ⊢
      by_cases k0 : s.kind = 0
      · rw [if_pos k0] at h0 ⊢
        rw [if_neg (show ¬ s.kind = 2 by omega)]
        by_cases c : p < fr + s.n
        · rw [if_pos c] at h0 ⊢
          have : (0 : Int) ≤ newU (ex l) := by omega
          omega
        · rw [if_neg c] at h0 ⊢
          have := place_lt hl.tail p (fr + s.n) (tq + s.n) (by omega) h0
          omega
      · rw [if_neg k0] at h0 ⊢
        by_cases c : p < fr + s.n
        · rw [if_pos c] at h0; omega
        · rw [if_neg c] at h0 ⊢
          rw [if_pos (show s.kind = 2 by omega)]
          have := place_lt hl.tail p (fr + s.n) tq (by omega) h0
          omega
/-- What one range leaves ends where the other's rest begins, or before. -/
theorem hull_apart {l : List AxStep} (hl : Form l) {f1 t1 f2 t2 : Int} (h0 : 0 ≤ f1) (h : t1 ≤ f2) (hn1 : (hullS l f1 t1 0 0 0 0).2 ≠ 0) (hn2 : (hullS l f2 t2 0 0 0 0).2 ≠ 0) : (hullS l f1 t1 0 0 0 0).2 ≤ (hullS l f2 t2 0 0 0 0).1 := by
  rcases hull_last hl f1 t1 0 0 0 0 (Int.le_refl _) with e | ⟨p, p1, p2, p3, p4, p5⟩
  · exact absurd e hn1
  · rcases hull_left hl f2 t2 0 0 0 p (Int.le_refl _) p1 (by omega) p4 with e | e
    · exact absurd e hn2
    · omega
theorem hull_new {l : List AxStep} (hl : Form l) (f t : Int) : (hullS l f t 0 0 0 0).2 ≤ newU (ex l) := by
  rcases hull_last hl f t 0 0 0 0 (Int.le_refl _) with e | ⟨p, p1, p2, p3, p4, p5⟩
  · rw [e]; omega
  · have := place_lt hl p 0 0 p1 p4
    omega
/-- Two rectangles that are apart stay so, where both are left. -/
theorem thr_apart {a b : Rect} {rows cols : List AxStep} (ha : QIn rows cols a) (hb : QIn rows cols b) (h : meetB a b = false) (h1 : 1 ≤ a.h) (h2 : 1 ≤ a.w) (h3 : 1 ≤ b.h) (h4 : 1 ≤ b.w)
    (va : thrB (thrR a rows cols) = true) (vb : thrB (thrR b rows cols) = true) : meetB (thrR a rows cols) (thrR b rows cols) = false := by
  have hm := meet_f h
  cases hc : meetB (thrR a rows cols) (thrR b rows cols) with
  | false => rfl
  | true =>
    exfalso
    rw [meetB_iff] at hc
    unfold thrB at va vb
    rw [decide_eq_true_eq] at va vb
    have hap : ∀ (l : List AxStep) (f1 t1 f2 t2 : Int), Form l → 0 ≤ f1 → t1 ≤ f2 → (hullS l f1 t1 0 0 0 0).1 < (hullS l f1 t1 0 0 0 0).2 → (hullS l f2 t2 0 0 0 0).1 < (hullS l f2 t2 0 0 0 0).2 → 0 ≤ (hullS l f1 t1 0 0 0 0).1 → 0 ≤ (hullS l f2 t2 0 0 0 0).1 → (hullS l f1 t1 0 0 0 0).2 ≤ (hullS l f2 t2 0 0 0 0).1 :=
      fun l f1 t1 f2 t2 hl h0 hle n1 n2 z1 z2 => hull_apart hl h0 hle (by omega) (by omega)
    unfold thrR at hc va vb
    obtain ⟨_, ra, ca⟩ := ha
    obtain ⟨_, rb, cb⟩ := hb
    by_cases c1 : 0 < rows.length <;> by_cases c2 : 0 < cols.length
    all_goals simp only [c1, c2, if_true, if_false] at hc va vb
    · obtain ⟨v1, w1⟩ := ra c1
      obtain ⟨_, w2⟩ := rb c1
      obtain ⟨v2, w3⟩ := ca c2
      obtain ⟨_, w4⟩ := cb c2
      have b1 := hull_bd v1 w1; have b2 := hull_bd v1 w2; have b3 := hull_bd v2 w3; have b4 := hull_bd v2 w4
      by_cases q1 : a.row + a.h ≤ b.row
      · have := hap rows a.row (a.row + a.h) b.row (b.row + b.h) v1.1 w1.1 q1 (by omega) (by omega) (by omega) (by omega); omega
      · by_cases q2 : b.row + b.h ≤ a.row
        · have := hap rows b.row (b.row + b.h) a.row (a.row + a.h) v1.1 w2.1 q2 (by omega) (by omega) (by omega) (by omega); omega
        · by_cases q3 : a.col + a.w ≤ b.col
          · have := hap cols a.col (a.col + a.w) b.col (b.col + b.w) v2.1 w3.1 q3 (by omega) (by omega) (by omega) (by omega); omega
          · have := hap cols b.col (b.col + b.w) a.col (a.col + a.w) v2.1 w4.1 (show b.col + b.w ≤ a.col by omega) (by omega) (by omega) (by omega) (by omega); omega
    · obtain ⟨v1, w1⟩ := ra c1
      obtain ⟨_, w2⟩ := rb c1
      have b1 := hull_bd v1 w1; have b2 := hull_bd v1 w2
      by_cases q1 : a.row + a.h ≤ b.row
      · have := hap rows a.row (a.row + a.h) b.row (b.row + b.h) v1.1 w1.1 q1 (by omega) (by omega) (by omega) (by omega); omega
      · have := hap rows b.row (b.row + b.h) a.row (a.row + a.h) v1.1 w2.1 (show b.row + b.h ≤ a.row by omega) (by omega) (by omega) (by omega) (by omega); omega
    · obtain ⟨v2, w3⟩ := ca c2
      obtain ⟨_, w4⟩ := cb c2
      have b3 := hull_bd v2 w3; have b4 := hull_bd v2 w4
      by_cases q3 : a.col + a.w ≤ b.col
      · have := hap cols a.col (a.col + a.w) b.col (b.col + b.w) v2.1 w3.1 q3 (by omega) (by omega) (by omega) (by omega); omega
      · have := hap cols b.col (b.col + b.w) a.col (a.col + a.w) v2.1 w4.1 (show b.col + b.w ≤ a.col by omega) (by omega) (by omega) (by omega) (by omega); omega
    · omega
theorem keepQ_apart {rows cols : List AxStep} {split : List Rect} : ∀ {l : List Rect}, Apart l → (∀ r ∈ l, QIn rows cols r ∧ 1 ≤ r.h ∧ 1 ≤ r.w) → Apart (keepQ l rows cols split)
  | [], _, _ => List.Pairwise.nil
  | a :: l, h, hq => by
    obtain ⟨p1, p2⟩ := List.pairwise_cons.1 h
    have ih := keepQ_apart (l := l) (split := split) p2 (fun r hr => hq r (by simp [hr]))
    unfold keepQ at *
    rw [List.filterMap_cons]
    unfold keepO at *
    by_cases c : thrB (thrR a rows cols) = true ∧ hasQ split (thrR a rows cols) = false
    · rw [if_pos c]
      refine List.pairwise_cons.2 ⟨fun y hy => ?_, ih⟩
      obtain ⟨b, hb, he⟩ := List.mem_filterMap.1 hy
      split at he
      · rename_i c2
        cases he
        obtain ⟨q1, q2, q3⟩ := hq a (by simp)
        obtain ⟨r1, r2, r3⟩ := hq b (by simp [hb])
        exact thr_apart q1 r1 (p1 b hb) q2 q3 r2 r3 c.1 c2.1
      · cases he
    · rw [if_neg c]; exact ih
theorem keepQ_ins {rows cols : List AxStep} {split l : List Rect} {m n : Int} (hl : ∀ r ∈ l, insB r m n = true ∧ QIn rows cols r) : ∀ q ∈ keepQ l rows cols split, insB q (nwS m rows) (nwS n cols) = true ∧ ¬ (q.h = 1 ∧ q.w = 1) := fun q hq => by
  unfold keepQ at hq
  obtain ⟨r, hr, he⟩ := List.mem_filterMap.1 hq
  unfold keepO at he
  split at he
  · rename_i c
    cases he
    obtain ⟨h1, _, ra, ca⟩ := hl r hr
    have u := insB_iff.1 h1
    have hb := c.1
    unfold thrB at hb
    rw [decide_eq_true_eq] at hb
    rw [insB_iff]
    unfold thrR nwS newI at *
    by_cases c1 : 0 < rows.length <;> by_cases c2 : 0 < cols.length
    all_goals simp only [c1, c2, if_true, if_false] at hb ⊢
    · obtain ⟨v1, w1⟩ := ra c1
      obtain ⟨v2, w2⟩ := ca c2
      have b1 := hull_bd v1 w1; have b2 := hull_bd v2 w2
      have n1 := hull_new v1.1 r.row (r.row + r.h); have n2 := hull_new v2.1 r.col (r.col + r.w)
      omega
    · obtain ⟨v1, w1⟩ := ra c1
      have b1 := hull_bd v1 w1
      have n1 := hull_new v1.1 r.row (r.row + r.h)
      omega
    · obtain ⟨v2, w2⟩ := ca c2
      have b2 := hull_bd v2 w2
      have n2 := hull_new v2.1 r.col (r.col + r.w)
      omega
    · omega
  · cases he
/-- The merged rectangles after an edit are valid. -/
theorem raw_mv {x : Grid} {e : GEd} (hm : MV x.merges x.rows x.cols) (hr : RawIn x e) (he : ∀ r ∈ e.merge, insB r (nwS x.rows e.rows) (nwS x.cols e.cols) = true ∧ ¬ (r.h = 1 ∧ r.w = 1)) : MV (rawGr x e).merges (rawGr x e).rows (rawGr x e).cols := by
  have hk := keepQ_ins (rows := e.rows) (cols := e.cols) (split := e.split) (l := x.merges) (m := x.rows) (n := x.cols) (fun r h => ⟨hm.ins r h, hr.q r h⟩)
  have ha : Apart x.merges := hm.pw.imp (fun h => h.2)
  have hka := keepQ_apart (rows := e.rows) (cols := e.cols) (split := e.split) ha (fun r h => ⟨hr.q r h, by have := insB_iff.1 (hm.ins r h); omega, by have := insB_iff.1 (hm.ins r h); omega⟩)
  have hall := foldl_all (P := fun q => insB q (nwS x.rows e.rows) (nwS x.cols e.cols) = true ∧ ¬ (q.h = 1 ∧ q.w = 1)) e.merge _ hk he
  exact sort_mv (fun r h => (hall r h).1) (fun r h => (hall r h).2) (foldl_apart _ _ hka)
end Go.Ch
end
section
set_option linter.unusedVariables false
namespace Go.Ch
open Go Go.Ab

theorem mvR_in {a : List AxStep} {p m : Int} (hp : PIn a p) (h0 : 0 ≤ p ∧ p < m) (hn : ¬ (0 < a.length ∧ mvR a p < 0)) : 0 ≤ mvR a p ∧ mvR a p < nwS m a := by
  unfold mvR at hn ⊢
  unfold nwS newI
  by_cases c : 0 < a.length
  · rw [if_pos c] at hn ⊢
    rw [if_pos c]
    obtain ⟨v, p0, _⟩ := hp c
    have h1 : 0 ≤ placeS a p 0 0 := by
      refine Classical.byContradiction fun q => hn ⟨c, by omega⟩
    have := place_lt v.1 p 0 0 p0 h1
    omega
  · rw [if_neg c, if_neg c]; exact h0
theorem mov_cell {rows cols : List AxStep} {c d : Cell} {m n : Int} (hr : PIn rows c.row) (hc : PIn cols c.col) (h : cellE c m n false = 0) (hd : mvC rows cols c = some d) : cellE d (nwS m rows) (nwS n cols) false = 0 := by
  obtain ⟨a1, a2, rfl⟩ := mvC_some hd
  obtain ⟨h1, h2, h3, h4, h5⟩ := cellE_iff.1 h
  have b1 := mvR_in (m := m) hr ⟨h1.1, h1.2.1⟩ a1
  have b2 := mvR_in (m := n) hc ⟨h1.2.2.1, h1.2.2.2⟩ a2
  exact cellE_iff.2 ⟨⟨b1.1, b1.2, b2.1, b2.2⟩, h2, h3, h4, h5⟩
/-- The cells after an edit are valid. -/
theorem raw_cells {x : Grid} {e : GEd} (h1 : cellsE x.cells x.rows x.cols false 0 = 0) (h2 : cellsE e.cells 2147483647 2147483647 true 0 = 0) (hr : RawIn x e) (hf : ∀ c ∈ e.cells, c.row < nwS x.rows e.rows ∧ c.col < nwS x.cols e.cols) :
    cellsE (rawGr x e).cells (rawGr x e).rows (rawGr x e).cols false 0 = 0 := by
  obtain ⟨a1, a2⟩ := cellsE_iff.1 h1
  obtain ⟨b1, b2⟩ := cellsE_iff.1 h2
  refine cellsE_iff.2 ⟨fun c hc => ?_, put_asc _ _ b2 (mov_asc a2 hr.p1 hr.p2)⟩
  rcases put_mem _ _ c hc with ⟨h, he⟩ | h
  · obtain ⟨q1, q2, q3, q4, _⟩ := cellE_iff.1 (b1 c h)
    have := hf c h
    exact cellE_iff.2 ⟨⟨q1.1, this.1, q1.2.2.1, this.2⟩, q2, q3, q4, fun _ => he⟩
  · obtain ⟨c0, hc0, hm⟩ := List.mem_filterMap.1 h
    exact mov_cell (hr.p1 c0 hc0) (hr.p2 c0 hc0) (a1 c0 hc0) hm
theorem gridE_iff {g : Grid} : gridE g = 0 ↔ (0 ≤ g.rows ∧ g.rows ≤ 2147483647 ∧ 0 ≤ g.cols ∧ g.cols ≤ 2147483647) ∧ cellsE g.cells g.rows g.cols false 0 = 0 ∧ MV g.merges g.rows g.cols := by
  unfold gridE
  by_cases c1 : g.rows < 0 ∨ 2147483647 < g.rows ∨ g.cols < 0 ∨ 2147483647 < g.cols
  · rw [if_pos c1]; exact ⟨fun q => (by cases q), fun q => by omega⟩
  · rw [if_neg c1]
    by_cases c2 : cellsE g.cells g.rows g.cols false 0 = 0
    · rw [if_neg (fun q => q c2), mergE_iff]
      exact ⟨fun q => ⟨by omega, c2, q⟩, fun q => q.2.2⟩
    · rw [if_pos c2]
      exact ⟨fun q => absurd q c2, fun q => q.2.1⟩
/-- A grid after an edit is valid. -/
theorem raw_valid {x : Grid} {e : GEd} (h : AppIn x e) : gridE (rawGr x e) = 0 := by
  obtain ⟨hg, he, hf, hr, _⟩ := h
  obtain ⟨g1, g2, g3⟩ := gridE_iff.1 hg
  have b1 := nwS_bd (n := x.rows) he.okr (by omega)
  have b2 := nwS_bd (n := x.cols) he.okc (by omega)
  exact gridE_iff.2 ⟨⟨b1.1, b1.2, b2.1, b2.2⟩, raw_cells g2 he.cells hr hf.cells, raw_mv g3 hr (fun r hm => ⟨hf.merge r hm, (he.merge r hm).2⟩)⟩
end Go.Ch
end
section
set_option linter.unusedVariables false
namespace Go.Ch
open Go Go.Ab

theorem hasQ_f {l : List Rect} {r : Rect} : hasQ l r = false ↔ r ∉ l := by unfold hasQ; rw [decide_eq_false_iff_not]
end Go.Ch
end
section
set_option linter.unusedVariables false
namespace Go.Ch
open Go Go.Ab

theorem sameC_self (c : Cell) : sameC c c = true := by
  unfold sameC
  simp only [Bool.and_eq_true, beq_iff_eq, true_and]
  exact ⟨⟨seq_iff.2 rfl, trivial⟩, sameL_self c.attrs⟩
theorem sameCells_self (a : List Cell) : ∀ (k i : Nat), a.length - i = k → sameCells a a i = true
  | 0, i, h => by rw [sameCells, if_neg (by omega)]
  | k + 1, i, h => by rw [sameCells, if_pos (by omega), if_pos (sameC_self _)]; exact sameCells_self a k (i + 1) (by omega)
theorem sameRects_self (a : List Rect) : ∀ (k i : Nat), a.length - i = k → sameRects a a i = true
  | 0, i, h => by rw [sameRects, if_neg (by omega)]
  | k + 1, i, h => by rw [sameRects, if_pos (by omega), if_pos rfl]; exact sameRects_self a k (i + 1) (by omega)
theorem sameG_self (g : Grid) : sameG g g = true := by
  unfold sameG sameCs sameQs
  rw [if_pos rfl, if_pos rfl, sameCells_self _ _ 0 rfl, sameRects_self _ _ 0 rfl]
  simp
end Go.Ch
end
section
set_option linter.unusedVariables false
namespace Go.Ch
open Go Go.Ab

/-- Lengths of a grid's lists. -/
structure LimG (k : Nat) (g : Grid) : Prop where
  c : g.cells.length ≤ k
  m : g.merges.length ≤ k
  a : CAN 1000000000000 g.cells
structure LimE (k : Nat) (e : GEd) : Prop where
  c : e.cells.length ≤ k
  s : e.split.length ≤ k
  m : e.merge.length ≤ k
  a : CAN 1000000000000 e.cells
theorem LimG.mono {k l : Nat} {g : Grid} (h : LimG k g) (hk : k ≤ l) : LimG l g := ⟨Nat.le_trans h.c hk, Nat.le_trans h.m hk, h.a⟩
theorem LimE.mono {k l : Nat} {g : GEd} (h : LimE k g) (hk : k ≤ l) : LimE l g := ⟨Nat.le_trans h.c hk, Nat.le_trans h.s hk, Nat.le_trans h.m hk, h.a⟩
theorem pin_of {a : List AxStep} {n p : Int} (v : Valid a) (f : 0 < a.length → oldI a = n) (h0 : 0 ≤ p) (h : p < n) : PIn a p := fun q => ⟨v, h0, by rw [f q]; exact h⟩
theorem app_in {k : Nat} {x : Grid} {e : GEd} (hk : k ≤ 10000000000) (hg : gridE x = 0) (he : EdOk e) (hf : FitOk x e) (lx : LimG k x) (le : LimE k e) : AppIn x e := by
  obtain ⟨g1, g2, g3⟩ := gridE_iff.1 hg
  obtain ⟨a1, a2⟩ := cellsE_iff.1 g2
  refine ⟨hg, he, hf, ⟨fun _ => he.okr, fun _ => he.okc, by have := lx.c; omega, by have := le.c; omega, by have := lx.m; omega, by have := le.m; omega, lx.a, le.a, fun c hc => ?_, fun c hc => ?_, fun r hr => ?_, fun r hr => ?_⟩, by have := le.s; omega⟩
  · have := (cellE_iff.1 (a1 c hc)).1
    exact pin_of he.okr hf.rows this.1 this.2.1
  · have := (cellE_iff.1 (a1 c hc)).1
    exact pin_of he.okc hf.cols this.2.2.1 this.2.2.2
  · have hi := g3.ins r hr
    have := insB_iff.1 hi
    exact ⟨RB_ins hi (by omega) (by omega), fun q => ⟨he.okr, by omega, by omega, by rw [hf.rows q]; omega⟩, fun q => ⟨he.okc, by omega, by omega, by rw [hf.cols q]; omega⟩⟩
  · exact RB_ins (he.merge r hr).1 (by decide) (by decide)
/-! ### Differences -/
theorem put_len : ∀ (g fr : List Cell), (putL g fr).length ≤ g.length + fr.length
  | [], fr => by rw [putL]; simp
  | c :: ns, [] => by
    have := put_len ns []
    rw [putL, putC, List.length_append, List.length_cons]
    split <;> simp only [List.length_cons, List.length_nil] at * <;> omega
  | c :: ns, x :: l => by
    have i1 := put_len (c :: ns) l
    have i2 := put_len ns l
    have i3 := put_len ns (x :: l)
    have hb : (if emptyC c = true then ([] : List Cell) else [c]).length ≤ 1 := by split <;> simp
    rw [putL] at i1
    rw [putL, putC]
    simp only [List.length_cons] at *
    by_cases o1 : ordC x c < 0
    · rw [if_pos o1, List.length_cons]; omega
    · rw [if_neg o1]
      by_cases o2 : ordC x c = 0
      · rw [if_pos o2, List.length_append]; omega
      · rw [if_neg o2, List.length_append]; omega
termination_by g fr => g.length + fr.length
theorem foldl_len : ∀ (ms l : List Rect), (ms.foldl addQ l).length ≤ l.length + ms.length
  | [], l => by simp
  | r :: ms, l => by
    have := foldl_len ms (addQ l r)
    have := addQ_len l r
    rw [List.foldl_cons, List.length_cons]; omega
theorem raw_mlen (x : Grid) (e : GEd) : (rawGr x e).merges.length ≤ x.merges.length + e.merge.length := by
  show (sortQ (e.merge.foldl addQ (keepQ x.merges e.rows e.cols e.split))).length ≤ _
  rw [(sortQ_perm _).length_eq]
  have := foldl_len e.merge (keepQ x.merges e.rows e.cols e.split)
  have := keepQ_len x.merges e.rows e.cols e.split
  omega
theorem raw_clen (x : Grid) (e : GEd) : (rawGr x e).cells.length ≤ x.cells.length + e.cells.length := by
  show (putL e.cells (movL x.cells e.rows e.cols)).length ≤ _
  have := put_len e.cells (movL x.cells e.rows e.cols)
  have := movL_len x.cells e.rows e.cols
  omega
/-- A property of a cell that its place has no part in. -/
theorem raw_call {P : ByteArray → List Attr → Prop} {x : Grid} {e : GEd} (h1 : ∀ c ∈ x.cells, P c.text c.attrs) (h2 : ∀ c ∈ e.cells, P c.text c.attrs) : ∀ c ∈ (rawGr x e).cells, P c.text c.attrs := fun c hc => by
  rcases put_mem _ _ c hc with ⟨h, _⟩ | h
  · exact h2 c h
  · obtain ⟨d, hd, hm⟩ := List.mem_filterMap.1 h
    obtain ⟨_, _, rfl⟩ := mvC_some hm
    exact h1 d hd
theorem raw_lim {k l : Nat} {x : Grid} {e : GEd} (hx : LimG k x) (he : LimE l e) : LimG (k + l) (rawGr x e) := by
  have := raw_clen x e; have := raw_mlen x e; have := hx.c; have := hx.m; have := he.c; have := he.m
  exact ⟨by omega, by omega, raw_call (P := fun _ a => a.length ≤ 1000000000000) hx.a he.a⟩
/-! ### The undone axes -/
theorem ins_mono {r : Rect} {m n m' n' : Int} (h : insB r m n = true) (h1 : m ≤ m') (h2 : n ≤ n') : insB r m' n' = true := by
  have := insB_iff.1 h
  exact insB_iff.2 (by omega)
theorem chkA_nil : chkA false [] 0 = 0 := by decide +kernel
theorem textG_nil : textG { data := #[] } = true := textG_end (by decide)
/-- What an edit and its undoing give. -/
structure UndOk (x : Grid) (e : GEd) : Prop where
  und : UndIn x e
  app : AppIn (rawGr x e) (undoE x e)
  back : rawGr (rawGr x e) (undoE x e) = x
end Go.Ch
end
section
set_option linter.unusedVariables false
namespace Go.Ch
open Go Go.Ab

theorem asc_app : ∀ {a b : List Cell}, Asc a → Asc b → (∀ x ∈ a, ∀ y ∈ b, ordC x y < 0) → Asc (a ++ b)
  | [], b, _, h, _ => h
  | x :: a, b, h1, h2, h3 => ⟨fun y hy => by
      rcases List.mem_append.1 hy with hy | hy
      · exact h1.1 y hy
      · exact h3 x (by simp) y hy, asc_app h1.2 h2 (fun z hz y hy => h3 z (by simp [hz]) y hy)⟩
theorem asc_one : ∀ {l : List Cell}, l.length ≤ 1 → Asc l
  | [], _ => trivial
  | [c], _ => ⟨fun x hx => (by cases hx), trivial⟩
  | a :: b :: l, h => by simp at h
theorem flat_succ {f : Nat → List Cell} (k : Nat) : (List.range (k + 1)).flatMap f = (List.range k).flatMap f ++ f k := by
  rw [List.range_succ, List.flatMap_append]; simp
theorem row_all (f : Nat → List Cell) (r : Nat) (P : Cell → Prop) (h1 : ∀ k, ∀ c ∈ f k, c.row = (r : Int) ∧ c.col = (k : Int) ∧ P c) (h2 : ∀ k, (f k).length ≤ 1) :
    ∀ k : Nat, (∀ c ∈ (List.range k).flatMap f, c.row = (r : Int) ∧ 0 ≤ c.col ∧ c.col < (k : Int) ∧ P c) ∧ Asc ((List.range k).flatMap f)
  | 0 => ⟨fun c hc => by simp at hc, trivial⟩
  | k + 1 => by
    obtain ⟨i1, i2⟩ := row_all f r P h1 h2 k
    rw [flat_succ]
    refine ⟨fun c hc => ?_, asc_app i2 (asc_one (h2 k)) (fun x hx y hy => ?_)⟩
    · rcases List.mem_append.1 hc with hc | hc
      · obtain ⟨q1, q2, q3, q4⟩ := i1 c hc
        exact ⟨q1, q2, by omega, q4⟩
      · obtain ⟨q1, q2, q4⟩ := h1 k c hc
        exact ⟨q1, by omega, by omega, q4⟩
    · obtain ⟨q1, q2, q3, q4⟩ := i1 x hx
      obtain ⟨p1, p2, p4⟩ := h1 k y hy
      rw [ordC_lt]; omega
theorem tab_all (f : Nat → Nat → List Cell) (n : Nat) (P : Cell → Prop) (h1 : ∀ r k, ∀ c ∈ f r k, c.row = (r : Int) ∧ c.col = (k : Int) ∧ P c) (h2 : ∀ r k, (f r k).length ≤ 1) :
    ∀ r : Nat, (∀ c ∈ (List.range r).flatMap (fun r => (List.range n).flatMap (f r)), 0 ≤ c.row ∧ c.row < (r : Int) ∧ 0 ≤ c.col ∧ c.col < (n : Int) ∧ P c) ∧ Asc ((List.range r).flatMap (fun r => (List.range n).flatMap (f r)))
  | 0 => ⟨fun c hc => by simp at hc, trivial⟩
  | r + 1 => by
    obtain ⟨i1, i2⟩ := tab_all f n P h1 h2 r
    obtain ⟨j1, j2⟩ := row_all (f r) r P (h1 r) (h2 r) n
    rw [flat_succ]
    refine ⟨fun c hc => ?_, asc_app i2 j2 (fun x hx y hy => ?_)⟩
    · rcases List.mem_append.1 hc with hc | hc
      · obtain ⟨q1, q2, q3, q4, q5⟩ := i1 c hc
        exact ⟨q1, by omega, q3, q4, q5⟩
      · obtain ⟨q1, q2, q3, q4⟩ := j1 c hc
        exact ⟨by omega, by omega, q2, q3, q4⟩
    · obtain ⟨q1, q2, q3, q4, q5⟩ := i1 x hx
      obtain ⟨p1, p2, p3, p4⟩ := j1 y hy
      rw [ordC_lt]; omega
/-- A cell with one of two texts alone. -/
def DrC (text : ByteArray) (c : Cell) : Prop := (c.text = text ∨ c.text = { data := #[] }) ∧ c.ref = 0 ∧ c.attrs = []
theorem edC_mem {raw : List Int} {text : ByteArray} {cols : Nat} (r k : Nat) (c : Cell) (h : c ∈ edC raw text cols r k) : c.row = (r : Int) ∧ c.col = (k : Int) ∧ DrC text c := by
  unfold edC at h
  split at h
  · cases h
  · split at h
    · rw [List.mem_singleton.1 h]; exact ⟨rfl, rfl, .inl rfl, rfl, rfl⟩
    · split at h
      · rw [List.mem_singleton.1 h]; exact ⟨rfl, rfl, .inr rfl, rfl, rfl⟩
      · cases h
theorem edA_all (raw : List Int) (text : ByteArray) (cols r : Nat) : (∀ c ∈ edA raw text cols r, 0 ≤ c.row ∧ c.row < (r : Int) ∧ 0 ≤ c.col ∧ c.col < (cols : Int) ∧ DrC text c) ∧ Asc (edA raw text cols r) :=
  tab_all (edC raw text cols) cols (DrC text) (fun r k c h => edC_mem r k c h) (fun r k => edC_len raw text cols r k) r
theorem newI_nil {l : List AxStep} (h : ¬ 0 < l.length) : newI l = 0 := by
  have : l = [] := List.length_eq_zero_iff.1 (by omega)
  subst this; rfl
theorem nwS_new {n p : Int} {l : List AxStep} (h0 : 0 ≤ p) (h : p < newI l) : nwS n l = newI l := by
  unfold nwS
  by_cases c : 0 < l.length
  · rw [if_pos c]
  · rw [newI_nil c] at h; omega
theorem edM_mem {raw : List Int} {rows cols : Int} {ms : Bool} {r : Rect} (h : r ∈ edM raw rows cols ms) : 1 < rows ∧ 1 < cols ∧ insB r rows cols = true ∧ r.h = 2 ∧ r.w = 2 := by
  unfold edM at h
  split at h
  · rename_i q
    have b1 := withinI_bd (raw.getD 0 default) (lo := 0) (hi := rows - 2) (by omega)
    have b2 := withinI_bd (raw.getD (raw.length - 1) default) (lo := 0) (hi := cols - 2) (by omega)
    rw [List.mem_singleton.1 h]
    exact ⟨q.2.1, q.2.2.1, insB_iff.2 (by simp only []; omega), rfl, rfl⟩
  · cases h
structure EdtOk (x : Grid) (e : GEd) : Prop where
  ed : EdOk e
  fit : FitOk x e
  lim : LimE 1000000 e
  split : e.split = []
  cells : ∀ c ∈ e.cells, c.attrs = []
  nr : newI e.rows ≤ 1000 ∧ newI e.cols ≤ 1000
  lr : oldI e.rows = x.rows ∧ oldI e.cols = x.cols
theorem edit_ok {x : Grid} (raw : List Int) {text : ByteArray} (ms : Bool) (hr : 0 ≤ x.rows ∧ x.rows ≤ 100) (hc : 0 ≤ x.cols ∧ x.cols ≤ 100) (ht : textG text = true) : EdtOk x (editE x raw text ms) := by
  obtain ⟨r1, r2, r3, r4⟩ := fit_ok (raw.take (raw.length / 2)) x.rows hr.1 (by omega)
  obtain ⟨c1, c2, c3, c4⟩ := fit_ok (raw.drop (raw.length / 2)) x.cols hc.1 (by omega)
  generalize hR : stepsL (fitU (raw.take (raw.length / 2)) x.rows.toNat) 0 [] = R at r1 r2 r3 r4
  generalize hC : stepsL (fitU (raw.drop (raw.length / 2)) x.cols.toNat) 0 [] = C at c1 c2 c3 c4
  have he : editE x raw text ms = ⟨R, C, edA raw text (newI C).toNat (newI R).toNat, [], edM raw (newI R) (newI C) ms⟩ := by
    unfold editE fitR; rw [hR, hC]
  rw [he]
  obtain ⟨a1, a2⟩ := edA_all raw text (newI C).toNat (newI R).toNat
  have hl := edA_len raw text (newI C).toNat (newI R).toNat
  have hm : (newI R).toNat * (newI C).toNat ≤ 302 * 302 := Nat.mul_le_mul (by omega) (by omega)
  have hml : (edM raw (newI R) (newI C) ms).length ≤ 1 := by unfold edM; split <;> simp
  have hcell : ∀ c ∈ edA raw text (newI C).toNat (newI R).toNat, 0 ≤ c.row ∧ c.row < newI R ∧ 0 ≤ c.col ∧ c.col < newI C ∧ DrC text c := fun c h => by
    obtain ⟨q1, q2, q3, q4, q5⟩ := a1 c h
    exact ⟨q1, by omega, q3, by omega, q5⟩
  refine ⟨⟨r1, c1, cellsE_iff.2 ⟨fun c h => ?_, a2⟩, fun r h => (by cases h), fun r h => ?_⟩, ⟨fun _ => r2, fun _ => c2, fun c h => ?_, fun r h => (by cases h), fun r h => ?_⟩, ⟨by show (edA raw text (newI C).toNat (newI R).toNat).length ≤ _; omega, Nat.zero_le _, by show (edM raw (newI R) (newI C) ms).length ≤ _; omega, fun c h => ?_⟩, rfl, fun c h => (hcell c h).2.2.2.2.2.2, ⟨by show newI R ≤ _; omega, by show newI C ≤ _; omega⟩, r2, c2⟩
  · obtain ⟨q1, q2, q3, q4, q5, q6, q7⟩ := hcell c h
    refine cellE_iff.2 ⟨by omega, by omega, ?_, ?_, fun q => by cases q⟩
    · rcases q5 with q5 | q5 <;> rw [q5]
      · exact ht
      · exact textG_nil
    · rw [q7]; exact chkA_nil
  · obtain ⟨q1, q2, q3, q4, q5⟩ := edM_mem h
    exact ⟨ins_mono q3 (by omega) (by omega), by omega⟩
  · obtain ⟨q1, q2, q3, q4, q5⟩ := hcell c h
    show c.row < nwS x.rows R ∧ c.col < nwS x.cols C
    rw [nwS_new q1 q2, nwS_new q3 q4]; exact ⟨q2, q4⟩
  · obtain ⟨q1, q2, q3, q4, q5⟩ := edM_mem h
    show insB r (nwS x.rows R) (nwS x.cols C) = true
    rw [nwS_new (p := 0) (by decide) (by omega), nwS_new (p := 0) (by decide) (by omega)]; exact q3
  · rw [(hcell c h).2.2.2.2.2.2]; exact Nat.zero_le _
/-! ### The board -/
theorem bdT_ok {v : Int} (h : 2 ≤ v ∧ v ≤ 4) : textG (bdT v) = true ∧ seq (bdT v) { data := #[] } = false := by
  have : v = 2 ∨ v = 3 ∨ v = 4 := by omega
  rcases this with rfl | rfl | rfl <;> exact ⟨by decide +kernel, by decide +kernel⟩
def BdC (c : Cell) : Prop := (∃ v : Int, (2 ≤ v ∧ v ≤ 4) ∧ c.text = bdT v) ∧ c.ref = 0 ∧ c.attrs = []
theorem drwI_bd (raw : List Int) (a i : Nat) {hi : Int} (h : 0 ≤ hi) : 0 ≤ drwI raw a i hi ∧ drwI raw a i hi ≤ hi := withinI_bd _ h
theorem bdC_mem {raw : List Int} {cols : Nat} (r k : Nat) (c : Cell) (h : c ∈ bdC raw cols r k) : c.row = (r : Int) ∧ c.col = (k : Int) ∧ BdC c := by
  unfold bdC at h
  split at h
  · split at h
    · rename_i q
      have := drwI_bd raw (r * cols + k) (r * cols + k) (hi := 4) (by decide)
      rw [List.mem_singleton.1 h]; exact ⟨rfl, rfl, ⟨_, ⟨by omega, by omega⟩, rfl⟩, rfl, rfl⟩
    · cases h
  · cases h
theorem bdA_all (raw : List Int) (cols r : Nat) : (∀ c ∈ bdA raw cols r, 0 ≤ c.row ∧ c.row < (r : Int) ∧ 0 ≤ c.col ∧ c.col < (cols : Int) ∧ BdC c) ∧ Asc (bdA raw cols r) :=
  tab_all (bdC raw cols) cols BdC (fun r k c h => bdC_mem r k c h) (fun r k => bdC_len raw cols r k) r
theorem board_ok (raw : List Int) {rows cols : Int} {ms : List Rect} (hr : 0 ≤ rows ∧ rows ≤ 100) (hc : 0 ≤ cols ∧ cols ≤ 100) (hm : MV ms rows cols) : gridE { boardG rows cols raw with merges := ms } = 0 ∧ (ms.length ≤ 1000000 → LimG 1000000 { boardG rows cols raw with merges := ms }) ∧ ∀ c ∈ (boardG rows cols raw).cells, c.attrs = [] := by
  obtain ⟨a1, a2⟩ := bdA_all raw cols.toNat rows.toNat
  have hl := bdA_len raw cols.toNat rows.toNat
  have hmm : rows.toNat * cols.toNat ≤ 100 * 100 := Nat.mul_le_mul (by omega) (by omega)
  refine ⟨gridE_iff.2 ⟨⟨hr.1, ?_, hc.1, ?_⟩, cellsE_iff.2 ⟨fun c h => ?_, a2⟩, hm⟩, fun hk => ⟨?_, hk, fun c h => ?_⟩, fun c h => (a1 c h).2.2.2.2.2.2⟩
  · show rows ≤ _; omega
  · show cols ≤ _; omega
  · obtain ⟨q1, q2, q3, q4, ⟨v, hv, q5⟩, q6, q7⟩ := a1 c h
    have ht := bdT_ok hv
    refine cellE_iff.2 ⟨by show 0 ≤ c.row ∧ c.row < rows ∧ 0 ≤ c.col ∧ c.col < cols; omega, by omega, by rw [q5]; exact ht.1, by rw [q7]; exact chkA_nil, fun _ => ?_⟩
    unfold emptyC
    rw [q5, ht.2]; rfl
  · show (bdA raw cols.toNat rows.toNat).length ≤ _; omega
  · rw [(a1 c h).2.2.2.2.2.2]; exact Nat.zero_le _
end Go.Ch
end
section
set_option linter.unusedVariables false
namespace Go.Ch
open Go Go.Ab

structure UndAll (x : Grid) (e : GEd) : Prop where
  app : AppIn x e
  und : UndIn x e
  app2 : AppIn (rawGr x e) (undoE x e)
  len : (rawGr x e).merges.length ≤ 100000000000
  sz : SzC (rawGr x e).cells
  back : rawGr (rawGr x e) (undoE x e) = x
  ok : gridE (rawGr x e) = 0
end Go.Ch
end
section
set_option linter.unusedVariables false
namespace Go.Ch
open Go Go.Ab

def sumTo (f : Nat → Int) : Nat → Int
  | 0 => 0
  | n + 1 => sumTo f n + f n
/-- The rectangle holds the position. -/
def inQ (q : Rect) (r c : Int) : Bool := decide ((q.row ≤ r ∧ r < q.row + q.h) ∧ (q.col ≤ c ∧ c < q.col + q.w))
/-- The rectangle of a position. -/
def covQ (l : List Rect) (r c : Int) (i : Nat) : Rect := if i < l.length then (if inQ (l.getD i default) r c = true then l.getD i default else covQ l r c (i + 1)) else ⟨r, c, 1, 1⟩
termination_by l.length - i
def anyQ (l : List Rect) (r c : Int) : Bool := l.any (fun q => inQ q r c)
/-- Ones and zeros: the position lies in one of the rectangles. -/
def cnt1 (l : List Rect) (r : Int) (c : Nat) : Int := if anyQ l r c = true then 1 else 0
def cntR (l : List Rect) (C : Nat) (r : Nat) : Int := sumTo (cnt1 l r) C
def cntA (l : List Rect) (R C : Nat) : Int := sumTo (cntR l C) R
def areaL (l : List Rect) : Int := (l.map fun q => q.h * q.w).sum
end Go.Ch
end
section
set_option linter.unusedVariables false
namespace Go.Ch
open Go Go.Ab

/-- A grid whose rectangles lie apart, of a size that can be counted. -/
structure ApIn (h : Grid) : Prop where
  mv : MV h.merges h.rows h.cols
  rb : 0 ≤ h.rows ∧ h.rows ≤ 1000
  cb : 0 ≤ h.cols ∧ h.cols ≤ 1000
  ml : h.merges.length ≤ 100000000
structure ApAll (x : Grid) (e : GEd) : Prop where
  app : AppIn x e
  app2 : AppIn x ⟨e.rows, e.cols, e.cells, e.split, []⟩
  same : sameCs (rawGr x e).cells (rawGr x ⟨e.rows, e.cols, e.cells, e.split, []⟩).cells = true
  rb : AllRB (rawGr x e).merges
  ap : ApIn (rawGr x e)
end Go.Ch
end
section
set_option linter.unusedVariables false
set_option linter.unusedSimpArgs false
set_option maxRecDepth 100000
set_option maxHeartbeats 4000000
open Go Go.Proofs Go.Ab
namespace Go.Ch
end Go.Ch
end
section
set_option linter.unusedVariables false
namespace Go.Ch
open Go Go.Ab

theorem placeU_ge : ∀ (u : List U) (p fr tq : Int), fr ≤ p → placeU u p fr tq = -1 ∨ tq ≤ placeU u p fr tq
  | [], p, fr, tq, _ => .inl rfl
  | .A :: u, p, fr, tq, h => by
    rw [placeU]
    have := placeU_ge u p fr (tq + 1) h
    omega
  | .K :: u, p, fr, tq, h => by
    rw [placeU]
    split
    · exact .inr (Int.le_refl _)
    · have := placeU_ge u p (fr + 1) (tq + 1) (by omega)
      omega
  | .C :: u, p, fr, tq, h => by
    rw [placeU]
    split
    · exact .inl rfl
    · exact placeU_ge u p (fr + 1) tq (by omega)
theorem placeU_sw {u v : List U} (h : Sw u v) : ∀ p fr tq : Int, placeU u p fr tq = placeU v p fr tq := by
  induction h with
  | refl u => intros; rfl
  | cons x h ih => intro p fr tq; cases x <;> simp only [placeU, ih]
  | swap u => intro p fr tq; simp only [placeU]
  | symm h ih => intro p fr tq; exact (ih p fr tq).symm
  | trans h k ih jh => intro p fr tq; exact (ih p fr tq).trans (jh p fr tq)
/-- One change, and then another one. -/
def cmpU (u v : List U) (p fr t1 t : Int) : Int := if placeU u p fr t1 < 0 then -1 else placeU v (placeU u p fr t1) t1 t
theorem cmpU_A {u v : List U} {p fr t1 t : Int} (h0 : 0 ≤ t1) (h : fr ≤ p) : cmpU (.A :: u) (.K :: v) p fr t1 t = cmpU u v p fr (t1 + 1) (t + 1) := by
  unfold cmpU
  have := placeU_ge u p fr (t1 + 1) h
  rw [placeU, placeU]
  split
  · rfl
  · rw [if_neg (by omega)]
theorem cmpU_B {u v : List U} {p fr t1 t : Int} : cmpU u (.A :: v) p fr t1 t = cmpU u v p fr t1 (t + 1) := by
  unfold cmpU; rw [placeU]
theorem cmpU_KK {u v : List U} {p fr t1 t : Int} (h0 : 0 ≤ t1) (h : fr ≤ p) : cmpU (.K :: u) (.K :: v) p fr t1 t = if p = fr then t else cmpU u v p (fr + 1) (t1 + 1) (t + 1) := by
  unfold cmpU
  by_cases c : p = fr
  · rw [if_pos c, placeU, if_pos c, if_neg (by omega), placeU, if_pos rfl]
  · have := placeU_ge u p (fr + 1) (t1 + 1) (by omega)
    rw [if_neg c, placeU, if_neg c]
    split
    · rfl
    · rw [placeU, if_neg (by omega)]
theorem cmpU_KC {u v : List U} {p fr t1 t : Int} (h0 : 0 ≤ t1) (h : fr ≤ p) : cmpU (.K :: u) (.C :: v) p fr t1 t = if p = fr then -1 else cmpU u v p (fr + 1) (t1 + 1) t := by
  unfold cmpU
  by_cases c : p = fr
  · rw [if_pos c, placeU, if_pos c, if_neg (by omega), placeU, if_pos rfl]
  · have := placeU_ge u p (fr + 1) (t1 + 1) (by omega)
    rw [if_neg c, placeU, if_neg c]
    split
    · rfl
    · rw [placeU, if_neg (by omega)]
theorem cmpU_C {u v : List U} {p fr t1 t : Int} : cmpU (.C :: u) v p fr t1 t = if p = fr then -1 else cmpU u v p (fr + 1) t1 t := by
  unfold cmpU
  by_cases c : p = fr
  · rw [if_pos c, placeU, if_pos c, if_pos (by decide)]
  · rw [if_neg c, placeU, if_neg c]
theorem pair_place (n : Nat) : ∀ (p q : List U) (x fr t1 t2 t : Int), p.length + q.length ≤ n → oldU p = oldU q → fr ≤ x → 0 ≤ t1 → 0 ≤ t2 →
    cmpU p (pairU p q).2 x fr t1 t = cmpU q (pairU p q).1 x fr t2 t := by
  induction n with
  | zero =>
    intro p q x fr t1 t2 t hn _ _ _ _
    have h1 : p = [] := List.length_eq_zero_iff.1 (by omega)
    have h2 : q = [] := List.length_eq_zero_iff.1 (by omega)
    subst h1; subst h2; rfl
  | succ n ih =>
    intro p q x fr t1 t2 t hn ho hx h1 h2
    match p, q with
    | .A :: p, q => rw [pairU, cmpU_A h1 hx, cmpU_B]; exact ih p q x fr _ _ _ (by simp at hn; omega) ho hx (by omega) h2
    | [], .A :: q => rw [pairU, cmpU_B, cmpU_A h2 hx]; exact ih [] q x fr _ _ _ (by simp at hn ⊢; omega) ho hx h1 (by omega); all_goals (intro p h; cases h)
    | .K :: p, .A :: q => rw [pairU, cmpU_B, cmpU_A h2 hx]; exact ih (.K :: p) q x fr _ _ _ (by simp at hn ⊢; omega) ho hx h1 (by omega); all_goals (intro p h; cases h)
    | .C :: p, .A :: q => rw [pairU, cmpU_B, cmpU_A h2 hx]; exact ih (.C :: p) q x fr _ _ _ (by simp at hn ⊢; omega) ho hx h1 (by omega); all_goals (intro p h; cases h)
    | .K :: p, .K :: q =>
      rw [pairU, cmpU_KK h1 hx, cmpU_KK h2 hx]
      split
      · rfl
      · exact ih p q x _ _ _ _ (by simp at hn; omega) (by simp only [oldU] at ho; omega) (by omega) (by omega) (by omega)
    | .K :: p, .C :: q =>
      rw [pairU, cmpU_KC h1 hx, cmpU_C]
      split
      · rfl
      · exact ih p q x _ _ _ _ (by simp at hn; omega) (by simp only [oldU] at ho; omega) (by omega) (by omega) (by omega)
    | .C :: p, .K :: q =>
      rw [pairU, cmpU_KC h2 hx, cmpU_C]
      split
      · rfl
      · exact ih p q x _ _ _ _ (by simp at hn; omega) (by simp only [oldU] at ho; omega) (by omega) (by omega) (by omega)
    | .C :: p, .C :: q =>
      rw [pairU, cmpU_C, cmpU_C]
      split
      · rfl
      · exact ih p q x _ _ _ _ (by simp at hn; omega) (by simp only [oldU] at ho; omega) (by omega) (by omega) (by omega)
    | [], [] => rfl
    | [], .K :: q => simp only [oldU] at ho; omega
    | [], .C :: q => simp only [oldU] at ho; omega
    | .K :: p, [] => simp only [oldU] at ho; omega
    | .C :: p, [] => simp only [oldU] at ho; omega
/-- The same for the numbers of lines. -/
def cmpR (u v : List AxStep) (p : Int) : Int := if mvR u p < 0 then -1 else mvR v (mvR u p)
theorem mvR_ge {a : List AxStep} {p : Int} (v : Valid a) (h : 0 ≤ p) : -1 ≤ mvR a p := by
  unfold mvR
  split
  · exact place_ge v.1 p 0 0 (Int.le_refl _) h
  · omega
theorem mvR_ex {a : List AxStep} {p : Int} (v : Valid a) (h : 0 ≤ p) (hl : 0 < a.length) : mvR a p = placeU (ex a) p 0 0 := by
  unfold mvR; rw [if_pos hl, placeS_ex v.1 p 0 0 h]
/-- What the two rebased changes of an axis are. -/
structure PabOk (n : Int) (a b : List AxStep) : Prop where
  v1 : Valid (pA a b)
  v2 : Valid (pB a b)
  o1 : 0 < (pA a b).length → oldI (pA a b) = nwS n b
  o2 : 0 < (pB a b).length → oldI (pB a b) = nwS n a
  nw : nwS (nwS n a) (pB a b) = nwS (nwS n b) (pA a b)
  way : ∀ p, 0 ≤ p → p < n → cmpR a (pB a b) p = cmpR b (pA a b) p
theorem nil_of {l : List AxStep} (h : ¬ 0 < l.length) : l = [] := List.length_eq_zero_iff.1 (by omega)
theorem mvR_nil (p : Int) : mvR [] p = p := rfl
theorem nwS_nil (n : Int) : nwS n [] = n := rfl
theorem nwS_of {n : Int} {l : List AxStep} (h : ¬ 0 < l.length → n = 0) : nwS n l = newI l := by
  unfold nwS
  by_cases c : 0 < l.length
  · rw [if_pos c]
  · rw [if_neg c, newI_nil c, h c]
theorem oldI_nil {l : List AxStep} (h : ¬ 0 < l.length) : oldI l = 0 := by rw [nil_of h]; rfl
theorem pab_ok {n : Int} {a b : List AxStep} (va : Valid a) (vb : Valid b) (fa : 0 < a.length → oldI a = n) (fb : 0 < b.length → oldI b = n) (hl : (ex a).length + (ex b).length ≤ 2147483647) : PabOk n a b := by
  by_cases ca : 0 < a.length
  · by_cases cb : 0 < b.length
    · have e1 : pA a b = pairX1 a b := by unfold pA; rw [if_neg (by omega)]
      have e2 : pB a b = pairX2 a b := by unfold pB; rw [if_neg (by omega)]
      have heq : oldI a = oldI b := by rw [fa ca, fb cb]
      obtain ⟨v1, v2, m1, m2, _⟩ := pairX_ok va vb heq hl
      have hn : newI (pairX1 a b) = newI (pairX2 a b) := by
        obtain ⟨_, _, _, k⟩ := pairU_meets _ (ex a) (ex b) (Nat.le_refl _) (by unfold oldI at heq; omega)
        have s1 := (sw_old (doneW_ok (pairU (ex a) (ex b)).1).2).2
        have s2 := (sw_old (doneW_ok (pairU (ex a) (ex b)).2).2).2
        unfold newI pairX1 pairX2; omega
      have na : nwS n a = newI a := by unfold nwS; rw [if_pos ca]
      have nb : nwS n b = newI b := by unfold nwS; rw [if_pos cb]
      have z1 : ¬ 0 < (pairX1 a b).length → newI b = 0 := fun q => by rw [m2, oldI_nil q]
      have z2 : ¬ 0 < (pairX2 a b).length → newI a = 0 := fun q => by rw [m1, oldI_nil q]
      refine ⟨by rw [e1]; exact v1, by rw [e2]; exact v2, fun q => by rw [e1, nb, m2], fun q => by rw [e2, na, m1], ?_, fun p h0 hp => ?_⟩
      · rw [e1, e2, na, nb, nwS_of z1, nwS_of z2, hn]
      · rw [e1, e2]
        have hu := pair_place _ (ex a) (ex b) p 0 0 0 0 (Nat.le_refl _) (by unfold oldI at heq; omega) h0 (Int.le_refl _) (Int.le_refl _)
        have key : ∀ {u v : List AxStep} {w : List U}, Valid u → Valid v → 0 < u.length → (¬ 0 < v.length → newI u = 0) → Sw (ex v) w → cmpR u v p = cmpU (ex u) w p 0 0 0 := by
          intro u v w vu vv cu zv sw
          unfold cmpR cmpU
          rw [mvR_ex vu h0 cu]
          by_cases cv : 0 < v.length
          · split
            · rfl
            · rw [mvR_ex vv (by omega) cv, placeU_sw sw]
          · have h1 := zv cv
            have h2 : placeU (ex u) p 0 0 < 0 := by
              refine Classical.byContradiction fun q => ?_
              rw [← placeS_ex vu.1 p 0 0 h0] at q
              have := place_lt vu.1 p 0 0 h0 (by omega)
              unfold newI at h1; omega
            rw [if_pos h2, if_pos h2]
        rw [key va v2 ca z2 (doneW_ok (pairU (ex a) (ex b)).2).2, key vb v1 cb z1 (doneW_ok (pairU (ex a) (ex b)).1).2]
        exact hu
    · have hb := nil_of cb
      subst hb
      have e1 : pA a [] = a := by unfold pA; rw [if_pos (.inr rfl)]
      have e2 : pB a [] = [] := by unfold pB; rw [if_pos (.inr rfl)]
      refine ⟨by rw [e1]; exact va, by rw [e2]; exact vb, fun q => by rw [e1, nwS_nil]; exact fa ca, fun q => (by rw [e2] at q; exact absurd q (by decide)), by rw [e1, e2, nwS_nil, nwS_nil], fun p h0 hp => ?_⟩
      have := mvR_ge va h0
      rw [e1, e2]
      unfold cmpR
      rw [mvR_nil, mvR_nil, if_neg (show ¬ p < 0 by omega)]
      split <;> omega
  · have ha := nil_of ca
    subst ha
    have e1 : pA [] b = [] := by unfold pA; rw [if_pos (.inl rfl)]
    have e2 : pB [] b = b := by unfold pB; rw [if_pos (.inl rfl)]
    refine ⟨by rw [e1]; exact va, by rw [e2]; exact vb, fun q => (by rw [e1] at q; exact absurd q (by decide)), fun q => (by rw [e2] at q ⊢; rw [nwS_nil]; exact fb q), by rw [e1, e2, nwS_nil, nwS_nil], fun p h0 hp => ?_⟩
    have := mvR_ge vb h0
    rw [e1, e2]
    unfold cmpR
    rw [mvR_nil, mvR_nil, if_neg (show ¬ p < 0 by omega)]
    split <;> omega
theorem mvC_of {rows cols : List AxStep} {c : Cell} (hr : 0 ≤ c.row) (hc : 0 ≤ c.col) : mvC rows cols c = if mvR rows c.row < 0 ∨ mvR cols c.col < 0 then none else some { c with row := mvR rows c.row, col := mvR cols c.col } := by
  have z : ∀ {a : List AxStep} {p : Int}, 0 ≤ p → mvR a p < 0 → 0 < a.length := fun {a p} h0 h => by
    refine Classical.byContradiction fun q => ?_
    rw [nil_of q, mvR_nil] at h; omega
  have z1 := z (a := rows) hr
  have z2 := z (a := cols) hc
  unfold mvC
  by_cases c1 : mvR rows c.row < 0
  · rw [if_pos ⟨z1 c1, c1⟩, if_pos (.inl c1)]
  · rw [if_neg (fun q => c1 q.2)]
    by_cases c2 : mvR cols c.col < 0
    · rw [if_pos ⟨z2 c2, c2⟩, if_pos (.inr c2)]
    · rw [if_neg (fun q => c2 q.2), if_neg (by omega)]
theorem mvC_bind {r1 c1 r2 c2 : List AxStep} {c : Cell} (hr : 0 ≤ c.row) (hc : 0 ≤ c.col) : (mvC r1 c1 c).bind (mvC r2 c2) = if cmpR r1 r2 c.row < 0 ∨ cmpR c1 c2 c.col < 0 then none else some { c with row := cmpR r1 r2 c.row, col := cmpR c1 c2 c.col } := by
  rw [mvC_of hr hc]
  unfold cmpR
  by_cases q1 : mvR r1 c.row < 0
  · rw [if_pos (.inl q1), if_pos q1, if_pos (.inl (by decide))]; rfl
  · by_cases q2 : mvR c1 c.col < 0
    · rw [if_pos (.inr q2), if_pos q2, if_pos (.inr (by decide))]; rfl
    · rw [if_neg (by omega), if_neg q1, if_neg q2, Option.bind_some, mvC_of (by show 0 ≤ mvR r1 c.row; omega) (by show 0 ≤ mvR c1 c.col; omega)]
theorem fmap_congr {α β : Type} {f g : α → Option β} : ∀ {l : List α}, (∀ c ∈ l, f c = g c) → l.filterMap f = l.filterMap g
  | [], _ => rfl
  | c :: l, h => by
    rw [List.filterMap_cons, List.filterMap_cons, h c (by simp), fmap_congr (l := l) (fun d hd => h d (by simp [hd]))]
theorem mov_mov {l : List Cell} {m n : Int} {r1 c1 r2 c2 r3 c3 r4 c4 : List AxStep} (hl : ∀ c ∈ l, 0 ≤ c.row ∧ c.row < m ∧ 0 ≤ c.col ∧ c.col < n) (hr : ∀ p, 0 ≤ p → p < m → cmpR r1 r2 p = cmpR r3 r4 p) (hc : ∀ p, 0 ≤ p → p < n → cmpR c1 c2 p = cmpR c3 c4 p) :
    movL (movL l r1 c1) r2 c2 = movL (movL l r3 c3) r4 c4 := by
  unfold movL
  rw [List.filterMap_filterMap, List.filterMap_filterMap]
  refine fmap_congr fun c h => ?_
  obtain ⟨q1, q2, q3, q4⟩ := hl c h
  rw [mvC_bind q1 q3, mvC_bind q1 q3, hr _ q1 q2, hc _ q3 q4]
end Go.Ch
end
section
set_option linter.unusedVariables false
namespace Go.Ch
open Go Go.Ab

theorem ordC_ne {a b : Cell} (h : ordC a b < 0) : ordC a b ≠ 0 := by omega
theorem ordC_eq_comm {a b : Cell} : ordC a b = 0 ↔ ordC b a = 0 := by rw [ordC_eq, ordC_eq]; exact ⟨fun h => ⟨h.1.symm, h.2.symm⟩, fun h => ⟨h.1.symm, h.2.symm⟩⟩
theorem ordC_pos_ne {a b : Cell} (h : ordC b a < 0) : ordC a b ≠ 0 := fun q => by rw [ordC_eq_comm] at q; omega
theorem ordC_eq_trans {a b c : Cell} (h1 : ordC a b = 0) (h2 : ordC b c = 0) : ordC a c = 0 := by rw [ordC_eq] at *; omega
theorem one_mem {c y : Cell} : y ∈ (if emptyC c = true then ([] : List Cell) else [c]) ↔ y = c ∧ emptyC y = false := by
  cases h : emptyC c with
  | true => rw [if_pos rfl]; exact ⟨fun q => (by cases q), fun q => (by have e := q.2; rw [q.1, h] at e; cases e)⟩
  | false => rw [if_neg (by decide), List.mem_singleton]; exact ⟨fun q => ⟨q, by rw [q, h]⟩, fun q => q.1⟩
/-- Members of what is put. -/
theorem put_iff : ∀ (ns l : List Cell), Asc ns → Asc l → ∀ y, (y ∈ putL ns l ↔ (y ∈ ns ∧ emptyC y = false) ∨ (y ∈ l ∧ ∀ c ∈ ns, ordC c y ≠ 0))
  | [], l, _, _, y => by rw [putL]; simp
  | c :: ns, [], h1, h2, y => by
    rw [putL, putC, List.mem_append, one_mem, put_iff ns [] h1.2 trivial y]
    simp only [List.mem_cons, List.not_mem_nil, false_and, or_false]
    constructor
    · rintro (⟨p, q⟩ | ⟨p, q⟩)
      · exact ⟨.inl p, q⟩
      · exact ⟨.inr p, q⟩
    · rintro ⟨p | p, q⟩
      · exact .inl ⟨p, q⟩
      · exact .inr ⟨p, q⟩
  | c :: ns, x :: l, h1, h2, y => by
    rw [putL, putC]
    by_cases o1 : ordC x c < 0
    · rw [if_pos o1]
      have ih := put_iff (c :: ns) l h1 h2.2 y
      rw [putL] at ih
      rw [List.mem_cons, ih]
      constructor
      · rintro (rfl | p | p)
        · refine .inr ⟨by simp, fun d hd => ?_⟩
          rcases List.mem_cons.1 hd with rfl | hd
          · exact ordC_pos_ne o1
          · exact ordC_pos_ne (ordC_trans o1 (h1.1 d hd))
        · exact .inl p
        · exact .inr ⟨List.mem_cons_of_mem _ p.1, p.2⟩
      · rintro (p | ⟨p, q⟩)
        · exact .inr (.inl p)
        · rcases List.mem_cons.1 p with p | p
          · exact .inl p
          · exact .inr (.inr ⟨p, q⟩)
    · rw [if_neg o1]
      by_cases o2 : ordC x c = 0
      · rw [if_pos o2, List.mem_append, one_mem, put_iff ns l h1.2 h2.2 y]
        have oc : ordC c x = 0 := ordC_eq_comm.1 o2
        constructor
        · rintro (⟨rfl, q⟩ | ⟨p, q⟩ | ⟨p, q⟩)
          · exact .inl ⟨by simp, q⟩
          · exact .inl ⟨List.mem_cons_of_mem _ p, q⟩
          · refine .inr ⟨List.mem_cons_of_mem _ p, fun d hd => ?_⟩
            rcases List.mem_cons.1 hd with rfl | hd
            · exact ordC_ne (ordC_le_trans (by omega) (h2.1 y p))
            · exact q d hd
        · rintro (⟨p, q⟩ | ⟨p, q⟩)
          · rcases List.mem_cons.1 p with p | p
            · exact .inl ⟨p, q⟩
            · exact .inr (.inl ⟨p, q⟩)
          · rcases List.mem_cons.1 p with rfl | p
            · exact absurd oc (q c (by simp))
            · exact .inr (.inr ⟨p, fun d hd => q d (by simp [hd])⟩)
      · rw [if_neg o2, List.mem_append, one_mem, put_iff ns (x :: l) h1.2 h2 y]
        have hcx : ordC c x < 0 := ordC_flip.1 (by omega)
        constructor
        · rintro (⟨rfl, q⟩ | ⟨p, q⟩ | ⟨p, q⟩)
          · exact .inl ⟨by simp, q⟩
          · exact .inl ⟨List.mem_cons_of_mem _ p, q⟩
          · refine .inr ⟨p, fun d hd => ?_⟩
            rcases List.mem_cons.1 hd with rfl | hd
            · rcases List.mem_cons.1 p with rfl | p
              · exact ordC_ne hcx
              · exact ordC_ne (ordC_trans hcx (h2.1 y p))
            · exact q d hd
        · rintro (⟨p, q⟩ | ⟨p, q⟩)
          · rcases List.mem_cons.1 p with p | p
            · exact .inl ⟨p, q⟩
            · exact .inr (.inl ⟨p, q⟩)
          · exact .inr (.inr ⟨p, fun d hd => q d (by simp [hd])⟩)
termination_by ns l => ns.length + l.length
theorem asc_ext : ∀ {l k : List Cell}, Asc l → Asc k → (∀ y, y ∈ l ↔ y ∈ k) → l = k
  | [], [], _, _, _ => rfl
  | [], b :: k, _, _, h => by have := (h b).2 (by simp); cases this
  | a :: l, [], _, _, h => by have := (h a).1 (by simp); cases this
  | a :: l, b :: k, h1, h2, h => by
    have e : a = b := by
      rcases List.mem_cons.1 ((h a).1 (by simp)) with e | e
      · exact e
      · rcases List.mem_cons.1 ((h b).2 (by simp)) with e' | e'
        · exact e'.symm
        · have p := ordC_trans (h1.1 b e') (h2.1 a e)
          rw [ordC_self] at p; omega
    subst e
    rw [asc_ext h1.2 h2.2 (fun y => ?_)]
    have irr : ∀ {m : List Cell}, (∀ x ∈ m, ordC a x < 0) → a ∉ m := fun hm q => by have := hm a q; rw [ordC_self] at this; omega
    constructor
    · intro hy
      rcases List.mem_cons.1 ((h y).1 (by simp [hy])) with e | e
      · rw [e] at hy; exact absurd hy (irr h1.1)
      · exact e
    · intro hy
      rcases List.mem_cons.1 ((h y).2 (by simp [hy])) with e | e
      · rw [e] at hy; exact absurd hy (irr h2.1)
      · exact e
theorem hasC_iff {l : List Cell} {t : Cell} (hs : SortC l) : hasC l t = true ↔ ∃ c ∈ l, ordC c t = 0 := by
  obtain ⟨h1, h2, h3⟩ := lobC_all l t
  unfold hasC
  rw [Bool.and_eq_true, decide_eq_true_eq, beq_iff_eq]
  constructor
  · rintro ⟨p, q⟩
    exact ⟨_, getDX_mem (by omega), q⟩
  · rintro ⟨c, hc, q⟩
    obtain ⟨m, hm, rfl⟩ := mem_getDX hc
    have hle := lobC_ge (l := l) (t := t) (m := m) (by omega)
    have e : lobC l t = m := by
      refine Classical.byContradiction fun ne => ?_
      have := hs (lobC l t) m (by omega) hm
      exact h3 (by omega) (by rw [ordC_lt] at *; rw [ordC_eq] at q; omega)
    rw [e]
    exact ⟨by omega, q⟩
theorem asc_filter {p : Cell → Bool} : ∀ {l : List Cell}, Asc l → Asc (l.filter p)
  | [], _ => trivial
  | c :: l, h => by
    rw [List.filter_cons]
    split
    · exact ⟨fun x hx => h.1 x (List.mem_filter.1 hx).1, asc_filter h.2⟩
    · exact asc_filter h.2
/-- Cells that move keep what they hold, and stay apart. -/
theorem mov_emp {rows cols : List AxStep} {c d : Cell} (h : mvC rows cols c = some d) : emptyC d = emptyC c := by
  obtain ⟨_, _, rfl⟩ := mvC_some h; rfl
theorem mvC_eq {rows cols : List AxStep} {c d c' d' : Cell} (hc : PIn rows c.row ∧ PIn cols c.col) (hd : PIn rows d.row ∧ PIn cols d.col) (h1 : mvC rows cols c = some c') (h2 : mvC rows cols d = some d') : ordC c' d' = 0 ↔ ordC c d = 0 := by
  obtain ⟨a1, a2, rfl⟩ := mvC_some h1
  obtain ⟨b1, b2, rfl⟩ := mvC_some h2
  have inj : ∀ {a : List AxStep} {p q : Int}, PIn a p → PIn a q → ¬ (0 < a.length ∧ mvR a p < 0) → ¬ (0 < a.length ∧ mvR a q < 0) → (mvR a p = mvR a q ↔ p = q) := fun {a p q} hp hq u v => by
    constructor
    · intro e
      refine Classical.byContradiction fun ne => ?_
      by_cases c : p < q
      · have := mvR_mono hp hq c u v; omega
      · have := mvR_mono hq hp (by omega) v u; omega
    · intro e; rw [e]
  rw [ordC_eq, ordC_eq]
  show (mvR rows c.row = mvR rows d.row ∧ mvR cols c.col = mvR cols d.col) ↔ _
  rw [inj hc.1 hd.1 a1 b1, inj hc.2 hd.2 a2 b2]
theorem mvC_at {rows cols : List AxStep} {c d d' : Cell} (h : mvC rows cols d = some d') (e : ordC c d = 0) : ∃ c', mvC rows cols c = some c' ∧ ordC c' d' = 0 := by
  obtain ⟨b1, b2, rfl⟩ := mvC_some h
  obtain ⟨e1, e2⟩ := ordC_eq.1 e
  refine ⟨{ c with row := mvR rows c.row, col := mvR cols c.col }, ?_, ?_⟩
  · unfold mvC
    rw [e1, e2, if_neg b1, if_neg b2]
  · rw [ordC_eq, e1, e2]; exact ⟨rfl, rfl⟩
/-- Moving what was put: what is put moves, and so does what stays. -/
theorem mov_put {ns l : List Cell} {rows cols : List AxStep} (hn : Asc ns) (hl : Asc l) (p1 : ∀ c ∈ ns, PIn rows c.row ∧ PIn cols c.col) (p2 : ∀ c ∈ l, PIn rows c.row ∧ PIn cols c.col) (y : Cell) :
    y ∈ movL (putL ns l) rows cols ↔ (y ∈ movL ns rows cols ∧ emptyC y = false) ∨ (y ∈ movL l rows cols ∧ ∀ c ∈ movL ns rows cols, ordC c y ≠ 0) := by
  unfold movL
  simp only [List.mem_filterMap]
  constructor
  · rintro ⟨d, hd, he⟩
    rcases (put_iff ns l hn hl d).1 hd with ⟨q1, q2⟩ | ⟨q1, q2⟩
    · exact .inl ⟨⟨d, q1, he⟩, by rw [mov_emp he]; exact q2⟩
    · refine .inr ⟨⟨d, q1, he⟩, ?_⟩
      rintro c' ⟨c, hc, hc'⟩ e
      exact q2 c hc ((mvC_eq (p1 c hc) (p2 d q1) hc' he).1 e)
  · rintro (⟨⟨d, q1, he⟩, q2⟩ | ⟨⟨d, q1, he⟩, q2⟩)
    · exact ⟨d, (put_iff ns l hn hl d).2 (.inl ⟨q1, by rw [← mov_emp he]; exact q2⟩), he⟩
    · refine ⟨d, (put_iff ns l hn hl d).2 (.inr ⟨q1, fun c hc e => ?_⟩), he⟩
      obtain ⟨c', h1, h2⟩ := mvC_at he e
      exact q2 c' ⟨c, hc, h1⟩ h2
/-- The cells that two orders give. -/
theorem meet_cells {x : Grid} {a b : GEd} {Ar Ac Br Bc : List AxStep} (gx : Asc x.cells) (ga : Asc a.cells) (gb : Asc b.cells)
    (r1 : ∀ c ∈ x.cells, PIn a.rows c.row) (r2 : ∀ c ∈ x.cells, PIn a.cols c.col) (r3 : ∀ c ∈ x.cells, PIn b.rows c.row) (r4 : ∀ c ∈ x.cells, PIn b.cols c.col)
    (a1 : ∀ c ∈ a.cells, PIn Br c.row ∧ PIn Bc c.col) (b1 : ∀ c ∈ b.cells, PIn Ar c.row ∧ PIn Ac c.col)
    (x1 : ∀ c ∈ movL x.cells a.rows a.cols, PIn Br c.row ∧ PIn Bc c.col) (x2 : ∀ c ∈ movL x.cells b.rows b.cols, PIn Ar c.row ∧ PIn Ac c.col)
    (hw : movL (movL x.cells a.rows a.cols) Br Bc = movL (movL x.cells b.rows b.cols) Ar Ac) :
    putL (movL b.cells Ar Ac) (movL (putL a.cells (movL x.cells a.rows a.cols)) Br Bc) =
    putL (delL (fun c => hasC (movL b.cells Ar Ac) ⟨c.row, c.col, { data := #[] }, 0, []⟩) (movL a.cells Br Bc)) (movL (putL b.cells (movL x.cells b.rows b.cols)) Ar Ac) := by
  have sa := mov_asc gx r1 r2
  have sb := mov_asc gx r3 r4
  have ma := mov_asc ga (fun c h => (a1 c h).1) (fun c h => (a1 c h).2)
  have mb := mov_asc gb (fun c h => (b1 c h).1) (fun c h => (b1 c h).2)
  have ga' := put_asc _ _ ga sa
  have gb' := put_asc _ _ gb sb
  have pa : ∀ c ∈ putL a.cells (movL x.cells a.rows a.cols), PIn Br c.row ∧ PIn Bc c.col := fun c h => by
    rcases put_mem _ _ c h with ⟨h, _⟩ | h
    · exact a1 c h
    · exact x1 c h
  have pb : ∀ c ∈ putL b.cells (movL x.cells b.rows b.cols), PIn Ar c.row ∧ PIn Ac c.col := fun c h => by
    rcases put_mem _ _ c h with ⟨h, _⟩ | h
    · exact b1 c h
    · exact x2 c h
  have na := mov_asc ga' (fun c h => (pa c h).1) (fun c h => (pa c h).2)
  have nb := mov_asc gb' (fun c h => (pb c h).1) (fun c h => (pb c h).2)
  have md : Asc (delL (fun c => hasC (movL b.cells Ar Ac) ⟨c.row, c.col, { data := #[] }, 0, []⟩) (movL a.cells Br Bc)) := asc_filter ma
  have hd : ∀ y, y ∈ delL (fun c => hasC (movL b.cells Ar Ac) ⟨c.row, c.col, { data := #[] }, 0, []⟩) (movL a.cells Br Bc) ↔ y ∈ movL a.cells Br Bc ∧ ∀ c ∈ movL b.cells Ar Ac, ordC c y ≠ 0 := fun y => by
    unfold delL
    rw [List.mem_filter, Bool.not_eq_true']
    refine and_congr Iff.rfl ?_
    rw [← Bool.not_eq_true, hasC_iff (asc_sort mb)]
    constructor
    · intro h c hc e; exact h ⟨c, hc, by rw [ordC_eq] at e ⊢; exact e⟩
    · rintro h ⟨c, hc, e⟩; exact h c hc (by rw [ordC_eq] at e ⊢; exact e)
  refine asc_ext (put_asc _ _ mb na) (put_asc _ _ md nb) (fun y => ?_)
  rw [put_iff _ _ mb na, put_iff _ _ md nb, mov_put ga sa a1 x1, mov_put gb sb b1 x2, hd y, hw]
  have hE : (∀ c ∈ delL (fun c => hasC (movL b.cells Ar Ac) ⟨c.row, c.col, { data := #[] }, 0, []⟩) (movL a.cells Br Bc), ordC c y ≠ 0) ∧ (∀ c ∈ movL b.cells Ar Ac, ordC c y ≠ 0) ↔ (∀ c ∈ movL a.cells Br Bc, ordC c y ≠ 0) ∧ (∀ c ∈ movL b.cells Ar Ac, ordC c y ≠ 0) := by
    constructor
    · rintro ⟨h1, h2⟩
      refine ⟨fun c hc e => ?_, h2⟩
      exact h1 c ((hd c).2 ⟨hc, fun d hd e2 => h2 d hd (ordC_eq_trans e2 e)⟩) e
    · rintro ⟨h1, h2⟩
      exact ⟨fun c hc => h1 c ((hd c).1 hc).1, h2⟩
  constructor
  · rintro (⟨p, q⟩ | ⟨⟨p, q⟩ | ⟨p, q⟩, r⟩)
    · refine .inr ⟨.inl ⟨p, q⟩, fun c hc e => ?_⟩
      exact ((hd c).1 hc).2 y p (ordC_eq_comm.1 e)
    · exact .inl ⟨⟨p, r⟩, q⟩
    · have := hE.2 ⟨q, r⟩
      exact .inr ⟨.inr ⟨p, this.2⟩, this.1⟩
  · rintro (⟨⟨p, r⟩, q⟩ | ⟨⟨p, q⟩ | ⟨p, q⟩, r⟩)
    · exact .inr ⟨.inl ⟨p, q⟩, r⟩
    · exact .inl ⟨p, q⟩
    · have := hE.1 ⟨r, q⟩
      exact .inr ⟨.inr ⟨p, this.1⟩, this.2⟩
end Go.Ch
end
section
set_option linter.unusedVariables false
namespace Go.Ch
open Go Go.Ab

theorem mov_cellO {rows cols : List AxStep} {c d : Cell} {m n : Int} {o : Bool} (hr : PIn rows c.row) (hc : PIn cols c.col) (h : cellE c m n o = 0) (hd : mvC rows cols c = some d) : cellE d (nwS m rows) (nwS n cols) o = 0 := by
  obtain ⟨a1, a2, rfl⟩ := mvC_some hd
  obtain ⟨h1, h2, h3, h4, h5⟩ := cellE_iff.1 h
  have b1 := mvR_in (m := m) hr ⟨h1.1, h1.2.1⟩ a1
  have b2 := mvR_in (m := n) hc ⟨h1.2.2.1, h1.2.2.2⟩ a2
  exact cellE_iff.2 ⟨⟨b1.1, b1.2, b2.1, b2.2⟩, h2, h3, h4, h5⟩
theorem rectL_keep (l : List Rect) (rows cols : List AxStep) : rectL l rows cols = keepQ l rows cols [] := by
  unfold rectL keepQ
  refine fmap_congr fun r _ => ?_
  unfold thrO keepO
  by_cases c : thrB (thrR r rows cols) = true
  · rw [if_pos c, if_pos ⟨c, hasQ_f.2 (by simp)⟩]
  · rw [if_neg c, if_neg (fun q => c q.1)]
/-- What one edit's parts ask of the other one's axes. -/
theorem thr_in {m n : Int} {e : GEd} {rows cols : List AxStep} (hm : 0 ≤ m ∧ m ≤ 2147483647) (hn : 0 ≤ n ∧ n ≤ 2147483647) (vr : Valid rows) (vc : Valid cols) (o1 : 0 < rows.length → oldI rows = m) (o2 : 0 < cols.length → oldI cols = n) (le : LimE 1000000 e)
    (hc : ∀ c ∈ e.cells, cellE c m n true = 0) (hs : ∀ r ∈ e.split, insB r m n = true) (hg : ∀ r ∈ e.merge, insB r m n = true) : ThrIn e rows cols := by
  have m1 : m ≤ mxS rows := by unfold mxS; split; (rename_i q; rw [o1 q]; exact Int.le_refl _); exact hm.2
  have m2 : n ≤ mxS cols := by unfold mxS; split; (rename_i q; rw [o2 q]; exact Int.le_refl _); exact hn.2
  have hq : ∀ r, insB r m n = true → QIn rows cols r := fun r hr => by
    have := insB_iff.1 hr
    exact ⟨RB_ins hr (by omega) (by omega), fun q => ⟨vr, by omega, by omega, by rw [o1 q]; omega⟩, fun q => ⟨vc, by omega, by omega, by rw [o2 q]; omega⟩⟩
  have := le.c; have := le.s; have := le.m
  refine ⟨fun _ => vr, fun _ => vc, by omega, by omega, by omega, ⟨fun c h => ?_, fun r h => ins_mono (hs r h) m1 m2, fun r h => ins_mono (hg r h) m1 m2⟩, le.a, fun c h => ?_, fun c h => ?_, fun r h => hq r (hs r h), fun r h => hq r (hg r h)⟩
  · have := (cellE_iff.1 (hc c h)).1; omega
  · have := (cellE_iff.1 (hc c h)).1; exact pin_of vr o1 this.1 this.2.1
  · have := (cellE_iff.1 (hc c h)).1; exact pin_of vc o2 this.2.2.1 this.2.2.2
theorem cells_at {x : Grid} {e : GEd} (he : EdOk e) (hf : FitOk x e) : ∀ c ∈ e.cells, cellE c (nwS x.rows e.rows) (nwS x.cols e.cols) true = 0 := fun c h => by
  obtain ⟨q1, q2, q3, q4, q5⟩ := cellE_iff.1 ((cellsE_iff.1 he.cells).1 c h)
  have := hf.cells c h
  exact cellE_iff.2 ⟨⟨q1.1, this.1, q1.2.2.1, this.2⟩, q2, q3, q4, q5⟩
/-- A rebased edit can be applied. -/
theorem app_pair {x : Grid} {e : GEd} {m n : Int} {es : GEd} (hg : gridE x = 0) (lx : LimG 2000000 x) (vr : Valid e.rows) (vc : Valid e.cols) (o1 : 0 < e.rows.length → oldI e.rows = x.rows) (o2 : 0 < e.cols.length → oldI e.cols = x.cols)
    {rows cols : List AxStep} (wr : Valid rows) (wc : Valid cols) (w1 : nwS x.rows e.rows = nwS m rows) (w2 : nwS x.cols e.cols = nwS n cols) (ti : ThrIn es rows cols) (les : LimE 1000000 es)
    (hc : ∀ c ∈ es.cells, cellE c m n true = 0) (hs : ∀ r ∈ es.split, insB r m n = true) (hm : ∀ r ∈ es.merge, insB r m n = true) (ec : ∀ c ∈ e.cells, c ∈ movL es.cells rows cols) (eca : Asc e.cells) (ecl : e.cells.length ≤ es.cells.length) (e1 : e.split = rectL es.split rows cols) (e2 : e.merge = rectL es.merge rows cols) : AppIn x e := by
  obtain ⟨g1, _, _⟩ := gridE_iff.1 hg
  have b1 := nwS_bd (n := x.rows) vr (by omega)
  have b2 := nwS_bd (n := x.cols) vc (by omega)
  have hcell : ∀ c ∈ e.cells, cellE c (nwS x.rows e.rows) (nwS x.cols e.cols) true = 0 := fun c h => by
    obtain ⟨d, hd, he⟩ := List.mem_filterMap.1 (ec c h)
    rw [w1, w2]
    exact mov_cellO (ti.p1 d hd) (ti.p2 d hd) (hc d hd) he
  have hsp : ∀ r ∈ e.split, insB r (nwS x.rows e.rows) (nwS x.cols e.cols) = true := fun r h => by
    rw [e1, rectL_keep] at h
    rw [w1, w2]
    exact (keepQ_ins (fun r hr => ⟨hs r hr, ti.q1 r hr⟩) r h).1
  have hmg : ∀ r ∈ e.merge, insB r (nwS x.rows e.rows) (nwS x.cols e.cols) = true ∧ ¬ (r.h = 1 ∧ r.w = 1) := fun r h => by
    rw [e2, rectL_keep] at h
    rw [w1, w2]
    exact keepQ_ins (fun r hr => ⟨hm r hr, ti.q2 r hr⟩) r h
  refine app_in (k := 10000000000) (Nat.le_refl _) hg ⟨vr, vc, cellsE_iff.2 ⟨fun c h => ?_, eca⟩, fun r h => ins_mono (hsp r h) (by omega) (by omega), fun r h => ⟨ins_mono (hmg r h).1 (by omega) (by omega), (hmg r h).2⟩⟩ ⟨o1, o2, fun c h => ?_, hsp, fun r h => (hmg r h).1⟩ (lx.mono (by omega)) ⟨by have := les.c; omega, ?_, ?_, fun c h => ?_⟩
  · obtain ⟨q1, q2, q3, q4, q5⟩ := cellE_iff.1 (hcell c h)
    exact cellE_iff.2 ⟨⟨q1.1, by omega, q1.2.2.1, by omega⟩, q2, q3, q4, q5⟩
  · have := (cellE_iff.1 (hcell c h)).1; exact ⟨this.2.1, this.2.2.2⟩
  · rw [e1]; have := rectL_len es.split rows cols; have := les.s; omega
  · rw [e2]; have := rectL_len es.merge rows cols; have := les.m; omega
  · obtain ⟨d, hd, he⟩ := List.mem_filterMap.1 (ec c h)
    obtain ⟨_, _, rfl⟩ := mvC_some he
    exact les.a d hd
structure PairOut (x : Grid) (a b : GEd) : Prop where
  pin : PairIn a b
  aa : AppIn x a
  ab : AppIn x b
  ay : AppIn (rawGr x a) (pairY a b)
  bx : AppIn (rawGr x b) (pairX a b)
  cells : (rawGr (rawGr x a) (pairY a b)).cells = (rawGr (rawGr x b) (pairX a b)).cells
  rows : (rawGr (rawGr x a) (pairY a b)).rows = (rawGr (rawGr x b) (pairX a b)).rows
  cols : (rawGr (rawGr x a) (pairY a b)).cols = (rawGr (rawGr x b) (pairX a b)).cols
theorem edt_ex {x : Grid} {e : GEd} (hs : 0 ≤ x.rows ∧ x.rows ≤ 1000 ∧ 0 ≤ x.cols ∧ x.cols ≤ 1000) (h : EdtOk x e) : (ex e.rows).length ≤ 2000 ∧ (ex e.cols).length ≤ 2000 := by
  have h1 := ex_le h.ed.okr (m := 1000) (by have := h.lr.1; omega) h.nr.1
  have h2 := ex_le h.ed.okc (m := 1000) (by have := h.lr.2; omega) h.nr.2
  omega
theorem pair_out {x : Grid} {a b : GEd} (hx : gridE x = 0) (lx : LimG 1000000 x) (hs : 0 ≤ x.rows ∧ x.rows ≤ 1000 ∧ 0 ≤ x.cols ∧ x.cols ≤ 1000) (ha : EdtOk x a) (hb : EdtOk x b) : PairOut x a b := by
  have aa := app_in (k := 1000000) (by decide) hx ha.ed ha.fit lx ha.lim
  have ab := app_in (k := 1000000) (by decide) hx hb.ed hb.fit lx hb.lim
  obtain ⟨x1, x2⟩ := edt_ex hs ha
  obtain ⟨y1, y2⟩ := edt_ex hs hb
  have R := pab_ok ha.ed.okr hb.ed.okr ha.fit.rows hb.fit.rows (by omega)
  have C := pab_ok ha.ed.okc hb.ed.okc ha.fit.cols hb.fit.cols (by omega)
  obtain ⟨g1, g2, g3⟩ := gridE_iff.1 hx
  have ca := cells_at ha.ed ha.fit
  have cb := cells_at hb.ed hb.fit
  have na := nwS_bd (n := x.rows) ha.ed.okr (by omega)
  have na' := nwS_bd (n := x.cols) ha.ed.okc (by omega)
  have nb := nwS_bd (n := x.rows) hb.ed.okr (by omega)
  have nb' := nwS_bd (n := x.cols) hb.ed.okc (by omega)
  have ta : ThrIn a (pB a.rows b.rows) (pB a.cols b.cols) := thr_in na na' R.v2 C.v2 R.o2 C.o2 ha.lim ca ha.fit.split ha.fit.merge
  have tb : ThrIn b (pA a.rows b.rows) (pA a.cols b.cols) := thr_in nb nb' R.v1 C.v1 R.o1 C.o1 hb.lim cb hb.fit.split hb.fit.merge
  have sa := (cellsE_iff.1 ha.ed.cells).2
  have sb := (cellsE_iff.1 hb.ed.cells).2
  have ma := mov_asc sa ta.p1 ta.p2
  have mb := mov_asc sb tb.p1 tb.p2
  have la := ex_len' ha.ed.okr.1; have la' := ex_len' ha.ed.okc.1; have lb := ex_len' hb.ed.okr.1; have lb' := ex_len' hb.ed.okc.1
  have po : ∀ {u v : List AxStep}, Valid u → Valid v → oldI u = oldI v → (ex u).length + (ex v).length ≤ 2147483647 → PairOk u v := fun {u v} vu vv e hl => by
    obtain ⟨v1, v2, _⟩ := pairX_ok vu vv e hl
    exact ⟨vu, vv, e, check_iff.2 v1, check_iff.2 v2⟩
  have pin : PairIn a b := ⟨ha.ed, hb.ed, fun _ _ => po ha.ed.okr hb.ed.okr (by rw [ha.lr.1, hb.lr.1]) (by omega), fun _ _ => po ha.ed.okc hb.ed.okc (by rw [ha.lr.2, hb.lr.2]) (by omega), ⟨by omega, by omega⟩, ⟨by omega, by omega⟩, ta, tb, asc_sort mb⟩
  obtain ⟨x3, x4⟩ := cellsE_iff.1 g2
  refine ⟨pin, aa, ab, ?_, ?_, ?_, R.nw, C.nw⟩
  · exact app_pair (es := b) (rows := pA a.rows b.rows) (cols := pA a.cols b.cols) (m := nwS x.rows b.rows) (n := nwS x.cols b.cols) (raw_valid aa) (raw_lim lx ha.lim) R.v2 C.v2 R.o2 C.o2 R.v1 C.v1 R.nw C.nw tb hb.lim cb hb.fit.split hb.fit.merge (fun c h => h) mb (movL_len _ _ _) rfl rfl
  · exact app_pair (es := a) (rows := pB a.rows b.rows) (cols := pB a.cols b.cols) (m := nwS x.rows a.rows) (n := nwS x.cols a.cols) (raw_valid ab) (raw_lim lx hb.lim) R.v1 C.v1 R.o1 C.o1 R.v2 C.v2 R.nw.symm C.nw.symm ta ha.lim ca ha.fit.split ha.fit.merge (fun c h => (List.mem_filter.1 h).1) (asc_filter ma) (Nat.le_trans (List.length_filter_le _ _) (movL_len _ _ _)) rfl rfl
  · have inx : ∀ {e : GEd} {rows cols : List AxStep}, AppIn x e → Valid rows → Valid cols → (0 < rows.length → oldI rows = nwS x.rows e.rows) → (0 < cols.length → oldI cols = nwS x.cols e.cols) → ∀ c ∈ movL x.cells e.rows e.cols, PIn rows c.row ∧ PIn cols c.col := fun {e rows cols} he vr vc o1 o2 c h => by
      obtain ⟨d, hd, hm⟩ := List.mem_filterMap.1 h
      have := (cellE_iff.1 (mov_cell (he.raw.p1 d hd) (he.raw.p2 d hd) (x3 d hd) hm)).1
      exact ⟨pin_of vr o1 this.1 this.2.1, pin_of vc o2 this.2.2.1 this.2.2.2⟩
    exact meet_cells x4 sa sb aa.raw.p1 aa.raw.p2 ab.raw.p1 ab.raw.p2 (fun c h => ⟨ta.p1 c h, ta.p2 c h⟩) (fun c h => ⟨tb.p1 c h, tb.p2 c h⟩) (inx aa R.v2 C.v2 R.o2 C.o2) (inx ab R.v1 C.v1 R.o1 C.o1)
      (mov_mov (fun c h => (cellE_iff.1 (x3 c h)).1) R.way C.way)
/-- Grids and edits without rectangles. -/
theorem meet_grid {x : Grid} {a b : GEd} (h : PairOut x a b) (hx : x.merges = []) (ha : a.merge = [] ∧ a.split = []) (hb : b.merge = [] ∧ b.split = []) : rawGr (rawGr x a) (pairY a b) = rawGr (rawGr x b) (pairX a b) := by
  have z : ∀ {y : Grid} {e : GEd}, y.merges = [] → e.merge = [] → (rawGr y e).merges = [] := fun {y e} h1 h2 => by
    have := raw_mlen y e
    rw [h1, h2] at this
    exact List.length_eq_zero_iff.1 (by simpa using this)
  have ra : ∀ rows cols, rectL a.merge rows cols = [] := fun _ _ => by rw [ha.1]; rfl
  have rb : ∀ rows cols, rectL b.merge rows cols = [] := fun _ _ => by rw [hb.1]; rfl
  have e1 : (rawGr (rawGr x a) (pairY a b)).merges = [] := z (z hx ha.1) (rb _ _)
  have e2 : (rawGr (rawGr x b) (pairX a b)).merges = [] := z (z hx hb.1) (ra _ _)
  have h1 := h.rows; have h2 := h.cols; have h3 := h.cells
  generalize rawGr (rawGr x a) (pairY a b) = u at *
  generalize rawGr (rawGr x b) (pairX a b) = v at *
  cases u; cases v; simp_all
end Go.Ch
end
section
set_option linter.unusedVariables false
namespace Go.Ch
open Go Go.Ab

structure FitsAll (x : Grid) (a b : GEd) : Prop where
  pin : PairIn a b
  aa : AppIn x a
  ab : AppIn x b
  ay : AppIn (rawGr x a) (pairY a b)
  bx : AppIn (rawGr x b) (pairX a b)
  l1 : (rawGr (rawGr x a) (pairY a b)).merges.length ≤ 100000000000
  l2 : (rawGr (rawGr x b) (pairX a b)).merges.length ≤ 100000000000
  z1 : SzC (rawGr (rawGr x a) (pairY a b)).cells
  z2 : SzC (rawGr (rawGr x b) (pairX a b)).cells
  v1 : gridE (rawGr (rawGr x a) (pairY a b)) = 0
  v2 : gridE (rawGr (rawGr x b) (pairX a b)) = 0
  cells : sameCs (rawGr (rawGr x a) (pairY a b)).cells (rawGr (rawGr x b) (pairX a b)).cells = true
theorem tx1 : textG { data := #[111, 110, 101] } = true := by decide +kernel
theorem tx2 : textG { data := #[116, 119, 111] } = true := by decide +kernel
/-- The same without merged cells: the two grids are one. -/
structure MeetsAll (x : Grid) (a b : GEd) : Prop where
  pin : PairIn a b
  aa : AppIn x a
  ab : AppIn x b
  ay : AppIn (rawGr x a) (pairY a b)
  bx : AppIn (rawGr x b) (pairX a b)
  same : sameG (rawGr (rawGr x a) (pairY a b)) (rawGr (rawGr x b) (pairX a b)) = true
theorem edM_none (raw : List Int) (rows cols : Int) : edM raw rows cols false = [] := by
  unfold edM; rw [if_neg (fun q => by cases q.1)]
theorem edit_none (x : Grid) (raw : List Int) (t : ByteArray) : (editE x raw t false).merge = [] ∧ (editE x raw t false).split = [] := by
  dsimp only [editE]
  exact ⟨edM_none _ _ _, rfl⟩
theorem law29 (m n : Int) (raw p q : List Int) : MeetsAll (boardG (withinI m 0 7) (withinI n 0 7) raw) (editE (boardG (withinI m 0 7) (withinI n 0 7) raw) p { data := #[111, 110, 101] } false) (editE (boardG (withinI m 0 7) (withinI n 0 7) raw) q { data := #[116, 119, 111] } false) := by
  have wm := withinI_bd m (lo := 0) (hi := 7) (by decide)
  have wn := withinI_bd n (lo := 0) (hi := 7) (by decide)
  obtain ⟨b1, b2, b3⟩ := board_ok raw (rows := withinI m 0 7) (cols := withinI n 0 7) (ms := []) (by omega) (by omega) ⟨fun r hr => (by cases hr), fun r hr => (by cases hr), .nil⟩
  have hx : gridE (boardG (withinI m 0 7) (withinI n 0 7) raw) = 0 := b1
  have lx : LimG 1000000 (boardG (withinI m 0 7) (withinI n 0 7) raw) := b2 (by decide)
  have ea := edit_ok (x := boardG (withinI m 0 7) (withinI n 0 7) raw) p (text := { data := #[111, 110, 101] }) false (by show 0 ≤ withinI m 0 7 ∧ withinI m 0 7 ≤ 100; omega) (by show 0 ≤ withinI n 0 7 ∧ withinI n 0 7 ≤ 100; omega) tx1
  have eb := edit_ok (x := boardG (withinI m 0 7) (withinI n 0 7) raw) q (text := { data := #[116, 119, 111] }) false (by show 0 ≤ withinI m 0 7 ∧ withinI m 0 7 ≤ 100; omega) (by show 0 ≤ withinI n 0 7 ∧ withinI n 0 7 ≤ 100; omega) tx2
  have po := pair_out hx lx (by show 0 ≤ withinI m 0 7 ∧ withinI m 0 7 ≤ 1000 ∧ 0 ≤ withinI n 0 7 ∧ withinI n 0 7 ≤ 1000; omega) ea eb
  refine ⟨po.pin, po.aa, po.ab, po.ay, po.bx, ?_⟩
  rw [meet_grid po rfl (edit_none _ _ _) (edit_none _ _ _)]
  exact sameG_self _
end Go.Ch
end
section
set_option linter.unusedVariables false
set_option linter.unusedSimpArgs false
set_option maxRecDepth 100000
set_option maxHeartbeats 4000000
open Go Go.Proofs Go.Ab
namespace Go.Ch
theorem fc_boardI (m n : Int) (raw : List Int) (hm : 0 ≤ m ∧ m ≤ 1000) (hn : 0 ≤ n ∧ n ≤ 1000) : FC Tryd.prog 12 [VI m, VI n, VL 1 intT raw] (app emp []) (.t (gridT (boardG m n raw))) (app emp []) := by
  obtain ⟨k, rfl⟩ := Int.eq_ofNat_of_zero_le hm.1
  obtain ⟨l, rfl⟩ := Int.eq_ofNat_of_zero_le hn.1
  exact fc_board k l raw (by omega) (by omega)
theorem fc_law29 (m n : Int) (raw p q : List Int) : FC Tryd.prog 4 [VI m, VI n, VL 1 intT raw, VL 1 intT p, VL 1 intT q] (app emp []) (VB true) (app emp []) := by
 refine .go Tryd.f4 ?_
 refine .len 2 (fun hl2 => ?_)
 refine .len 3 (fun hl3 => ?_)
 refine .len 4 (fun hl4 => ?_)
 have wm := withinI_bd m (lo := 0) (hi := 7) (by decide)
 have wn := withinI_bd n (lo := 0) (hi := 7) (by decide)
 obtain ⟨U1, U2, U3, U4, U5, U6⟩ := law29 m n raw p q
 have e1 : ((((true || false) || false) && (sameG ((rawGr ((rawGr ((boardG (withinI m 0 7) (withinI n 0 7) raw)) ((editE ((boardG (withinI m 0 7) (withinI n 0 7) raw)) p ({ data := #[111, 110, 101] }) false)))) ((pairY ((editE ((boardG (withinI m 0 7) (withinI n 0 7) raw)) p ({ data := #[111, 110, 101] }) false)) ((editE ((boardG (withinI m 0 7) (withinI n 0 7) raw)) q ({ data := #[116, 119, 111] }) false)))))) ((rawGr ((rawGr ((boardG (withinI m 0 7) (withinI n 0 7) raw)) ((editE ((boardG (withinI m 0 7) (withinI n 0 7) raw)) q ({ data := #[116, 119, 111] }) false)))) ((pairX ((editE ((boardG (withinI m 0 7) (withinI n 0 7) raw)) p ({ data := #[111, 110, 101] }) false)) ((editE ((boardG (withinI m 0 7) (withinI n 0 7) raw)) q ({ data := #[116, 119, 111] }) false)))))))) : Bool) = true := by
  rw [U6]; rfl
 exact .finE [.r [], .r [(0, X (Xc0 fc_grids X0))], .f, .r [(1, X (Xc0 (fc_within m 0 7 (by omega)) X0)), (3, X (Xc0 (fc_within n 0 7 (by omega)) X0)), (5, X (Xc1 64 (fc_boardI (withinI m 0 7) (withinI n 0 7) raw (by omega) (by omega)) X0))], .r [(2, X (Xc1 104 (fc_editing ((boardG (withinI m 0 7) (withinI n 0 7) raw)) p ({ data := #[111, 110, 101] }) false (by exact (⟨by omega, by omega⟩ : 0 ≤ withinI m 0 7 ∧ withinI m 0 7 ≤ 1000)) (by exact (⟨by omega, by omega⟩ : 0 ≤ withinI n 0 7 ∧ withinI n 0 7 ≤ 1000))) X0)), (5, X (Xc1 128 (fc_editing ((boardG (withinI m 0 7) (withinI n 0 7) raw)) q ({ data := #[116, 119, 111] }) false (by exact (⟨by omega, by omega⟩ : 0 ≤ withinI m 0 7 ∧ withinI m 0 7 ≤ 1000)) (by exact (⟨by omega, by omega⟩ : 0 ≤ withinI n 0 7 ∧ withinI n 0 7 ≤ 1000))) X0))], .r [(2, X (Xc1 184 (fc_gpair ((editE ((boardG (withinI m 0 7) (withinI n 0 7) raw)) p ({ data := #[111, 110, 101] }) false)) ((editE ((boardG (withinI m 0 7) (withinI n 0 7) raw)) q ({ data := #[116, 119, 111] }) false)) (by assumption)) X0))], .r [(2, X (Xc1 280 (fc_gapply ((boardG (withinI m 0 7) (withinI n 0 7) raw)) ((editE ((boardG (withinI m 0 7) (withinI n 0 7) raw)) p ({ data := #[111, 110, 101] }) false)) (by assumption)) X0))], .r [(2, X (Xc1 352 (fc_gapply ((boardG (withinI m 0 7) (withinI n 0 7) raw)) ((editE ((boardG (withinI m 0 7) (withinI n 0 7) raw)) q ({ data := #[116, 119, 111] }) false)) (by assumption)) X0))], .r [(2, X (Xc1 424 (fc_gapply ((rawGr ((boardG (withinI m 0 7) (withinI n 0 7) raw)) ((editE ((boardG (withinI m 0 7) (withinI n 0 7) raw)) p ({ data := #[111, 110, 101] }) false)))) ((pairY ((editE ((boardG (withinI m 0 7) (withinI n 0 7) raw)) p ({ data := #[111, 110, 101] }) false)) ((editE ((boardG (withinI m 0 7) (withinI n 0 7) raw)) q ({ data := #[116, 119, 111] }) false)))) (by assumption)) X0))], .r [(2, X (Xc1 496 (fc_gapply ((rawGr ((boardG (withinI m 0 7) (withinI n 0 7) raw)) ((editE ((boardG (withinI m 0 7) (withinI n 0 7) raw)) q ({ data := #[116, 119, 111] }) false)))) ((pairX ((editE ((boardG (withinI m 0 7) (withinI n 0 7) raw)) p ({ data := #[111, 110, 101] }) false)) ((editE ((boardG (withinI m 0 7) (withinI n 0 7) raw)) q ({ data := #[116, 119, 111] }) false)))) (by assumption)) X0))], .r [(4, Xv 1 true X0), (5, X (Xk true)), (8, Xv 1 (true || false) X0), (9, X (Xk (true || false))), (13, Xv 2 ((true || false) || false) (Xc0 (fc_sameGrid ((rawGr ((rawGr ((boardG (withinI m 0 7) (withinI n 0 7) raw)) ((editE ((boardG (withinI m 0 7) (withinI n 0 7) raw)) p ({ data := #[111, 110, 101] }) false)))) ((pairY ((editE ((boardG (withinI m 0 7) (withinI n 0 7) raw)) p ({ data := #[111, 110, 101] }) false)) ((editE ((boardG (withinI m 0 7) (withinI n 0 7) raw)) q ({ data := #[116, 119, 111] }) false)))))) ((rawGr ((rawGr ((boardG (withinI m 0 7) (withinI n 0 7) raw)) ((editE ((boardG (withinI m 0 7) (withinI n 0 7) raw)) q ({ data := #[116, 119, 111] }) false)))) ((pairX ((editE ((boardG (withinI m 0 7) (withinI n 0 7) raw)) p ({ data := #[111, 110, 101] }) false)) ((editE ((boardG (withinI m 0 7) (withinI n 0 7) raw)) q ({ data := #[116, 119, 111] }) false))))))) X0)), (14, X (Xk ((true || false) || false)))]] [] (fun z0 => (VB z0, [])) ((((true || false) || false) && (sameG ((rawGr ((rawGr ((boardG (withinI m 0 7) (withinI n 0 7) raw)) ((editE ((boardG (withinI m 0 7) (withinI n 0 7) raw)) p ({ data := #[111, 110, 101] }) false)))) ((pairY ((editE ((boardG (withinI m 0 7) (withinI n 0 7) raw)) p ({ data := #[111, 110, 101] }) false)) ((editE ((boardG (withinI m 0 7) (withinI n 0 7) raw)) q ({ data := #[116, 119, 111] }) false)))))) ((rawGr ((rawGr ((boardG (withinI m 0 7) (withinI n 0 7) raw)) ((editE ((boardG (withinI m 0 7) (withinI n 0 7) raw)) q ({ data := #[116, 119, 111] }) false)))) ((pairX ((editE ((boardG (withinI m 0 7) (withinI n 0 7) raw)) p ({ data := #[111, 110, 101] }) false)) ((editE ((boardG (withinI m 0 7) (withinI n 0 7) raw)) q ({ data := #[116, 119, 111] }) false)))))))) : Bool) (true : Bool) e1.symm
end Go.Ch
end
section
set_option linter.unusedVariables false
namespace Go.Ab
open Go Go.Proofs.YthpcjddcgdlilaaDoor
variable {P : Program} {W : World}

def RdM (P : Program) (t : TypeId) (k : Nat) {α : Type} (f : α → Tree) (μ : α → Nat) : Prop :=
  (∀ a, Elt k (f a)) ∧ P.cellsOf t = k ∧ ∀ (H : Type) (enc : TypeId × Value → H) (W : World) (fuel : Nat) (cs : List Value) (x : DataW H × List MemPlace),
    DataW.trod enc P W 0 (fun _ => true) true fuel t cs = some x → ∃ a : α, CellsR W (f a).cells cs ∧ μ a ≤ Rows.uptoBulk x.1

theorem bulk_pos {H : Type} (d : DataW H) : 1 ≤ Rows.uptoBulk d := by
  cases d with
  | lit l => cases l <;> simp [Rows.uptoBulk]
  | _ => simp [Rows.uptoBulk]

theorem RdM.int {t : TypeId} {k : IntKind} (ht : P.underlying t = some (.int k)) (hc : P.cellsOf t = 1) : RdM P t 1 (fun z : Int => .sc (.int k z)) (fun _ => 1) := by
  refine ⟨fun _ => elt1, hc, fun H enc W fuel cs x h => ?_⟩
  obtain ⟨n, rfl, _, _⟩ := DataW.trod_int ht h
  exact ⟨n, cells1 rfl (.sc _ rfl), bulk_pos _⟩
/-- An integer with its bounds. -/
theorem RdM.i64 {t : TypeId} (ht : P.underlying t = some (.int .i64)) (hc : P.cellsOf t = 1) : RdM P t 1 (fun z : { z : Int // -9223372036854775808 ≤ z ∧ z ≤ 9223372036854775807 } => .sc (.int .i64 z.1)) (fun _ => 1) := by
  refine ⟨fun _ => elt1, hc, fun H enc W fuel cs x h => ?_⟩
  obtain ⟨n, rfl, _, hw⟩ := DataW.trod_int ht h
  exact ⟨⟨n, by simpa [Lit.wf, IntKind.min, IntKind.max, IntKind.signed, IntKind.bits] using hw⟩, cells1 rfl (.sc _ rfl), bulk_pos _⟩
theorem RdM.bool {t : TypeId} (ht : P.underlying t = some .bool) (hc : P.cellsOf t = 1) : RdM P t 1 (fun b : Bool => .sc (.bool b)) (fun _ => 1) := by
  refine ⟨fun _ => elt1, hc, fun H enc W fuel cs x h => ?_⟩
  obtain ⟨n, rfl, _⟩ := DataW.trod_bool ht h
  exact ⟨n, cells1 rfl (.sc _ rfl), bulk_pos _⟩
theorem sum_le {α H : Type} {μ : α → Nat} : ∀ {l : List α} {es : List (DataW H)}, l.length = es.length → (∀ (i : Nat) (a : α) (d : DataW H), l[i]? = some a → es[i]? = some d → μ a ≤ Rows.uptoBulk d) → (l.map μ).sum ≤ Rows.uptoBulkAll es
  | [], es, _, _ => by simp
  | a :: l, [], h, _ => by simp at h
  | a :: l, d :: es, h, hi => by
    have h0 := hi 0 a d rfl rfl
    have ih := sum_le (l := l) (es := es) (by simpa using h) (fun i a' d' h1 h2 => hi (i + 1) a' d' (by simpa using h1) (by simpa using h2))
    simp only [List.map_cons, List.sum_cons, Rows.uptoBulkAll]
    omega

theorem RdM.slice {t e : TypeId} {k : Nat} {α : Type} {f : α → Tree} {μ : α → Nat} (ht : P.underlying t = some (.slice e)) (hk : 0 < k) (hc : P.cellsOf t = 1) (he : RdM P e k f μ) : RdM P t 1 (fun l : List α => .lst k (l.map f)) (fun l => (l.map μ).sum + 1) := by
  obtain ⟨h1, h2, h3⟩ := he
  refine ⟨fun l => ⟨rfl, fun T hT => by simp [Tree.cells] at hT; subst hT; rfl⟩, hc, fun H enc W fuel cs x h => ?_⟩
  have hx : ∀ l : List α, ∀ x ∈ l.map f, Elt k x := fun l x hx => by
    obtain ⟨a, _, rfl⟩ := List.mem_map.1 hx
    exact h1 a
  rcases DataW.trod_slice ht h with ⟨rfl, hx0⟩ | ⟨a, len, cap, elems, rest, n, _, rfl, hxe, hb, hl, hm, hlen, hel, _, _⟩
  · refine ⟨[], cells1 rfl (.lst k [] none 0 [] hk (fun x hx => by simp at hx) (Nat.le_refl _) (by simp [maxLen]) (fun h => absurd rfl h) (by simp) (fun j T u hT => by simp [flat] at hT)), ?_⟩
    exact bulk_pos _
  · have key : ∀ i, i < len → ∃ y : α, (∃ cs', cs'.length = k ∧ (∀ r, r < k → W.cell? (a.add (i * k + r)) = cs'[r]?) ∧ CellsR W (f y).cells cs') ∧ ∀ d, (elems.map (·.1))[i]? = some d → μ y ≤ Rows.uptoBulk d := by
      intro i hi
      have h4 := hel i hi
      have h5 : elems[i]? = some elems[i] := by rw [List.getElem?_eq_getElem (by omega)]
      rw [h5, h2] at h4
      obtain ⟨cs', h6, h7⟩ := Option.bind_eq_some_iff.1 h4
      obtain ⟨q1, q2, q3⟩ := World.cells?_some h6
      obtain ⟨y, hy, hμ⟩ := h3 H enc W n cs' _ h7
      refine ⟨y, ⟨cs', q2, fun r hr => ?_, hy⟩, fun d hd => ?_⟩
      · rw [← q3 r hr]
        rw [Addr.add_add]
      · rw [List.getElem?_map, h5] at hd
        simp only [Option.map_some, Option.some.injEq] at hd
        subst hd; exact hμ
    obtain ⟨l, hl1, hl2'⟩ := list_of len _ key
    have hl2 := fun i a h => (hl2' i a h).1
    have hspot : l ≠ [] → ∃ u, W.cell? a = some u := by
      intro hne
      have h0 : 0 < len := by rw [← hl1]; exact List.length_pos_iff.2 hne
      obtain ⟨cs', c1, c2, c3⟩ := hl2 0 l[0] (by rw [List.getElem?_eq_getElem (by omega)])
      have := c2 0 hk
      simp only [Nat.zero_mul, Nat.add_zero] at this
      rw [List.getElem?_eq_getElem (by omega)] at this
      have e : a.add 0 = a := by simp [Addr.add]
      rw [e] at this
      exact ⟨_, this⟩
    refine ⟨l, cells1 rfl ?_, ?_⟩
    rotate_left
    · rw [hxe]
      simp only [Rows.uptoBulk]
      have := sum_le (μ := μ) (l := l) (es := elems.map (·.1)) (by simp [hl1, hlen]) (fun i y d h1 h2 => (hl2' i y h1).2 d h2)
      omega
    have hget : ∀ j, j < len * k → ∃ u, W.cell? (a.add j) = some u ∧ ∀ T, (flat (l.map f))[j]? = some T → TRep W (fun b => b < W.heap.size) T u := by
      intro j hj
      have hi : j / k < len := Nat.div_lt_of_lt_mul (by rw [Nat.mul_comm]; exact hj)
      have hr : j % k < k := Nat.mod_lt _ hk
      have hji : j = j / k * k + j % k := by rw [Nat.mul_comm]; exact (Nat.div_add_mod j k).symm
      obtain ⟨cs', c1, c2, c3⟩ := hl2 (j / k) l[j / k] (by rw [List.getElem?_eq_getElem (by omega)])
      have c4 := c2 (j % k) hr
      rw [← hji, List.getElem?_eq_getElem (by omega)] at c4
      refine ⟨_, c4, fun T hT => ?_⟩
      rw [hji, flat_get (hx l) (i := j / k) (X := f l[j / k]) (by simp [List.getElem?_eq_getElem (show j / k < l.length by omega)]) hr] at hT
      exact c3.2 (j % k) T _ hT (by rw [List.getElem?_eq_getElem (by omega)])
    obtain ⟨us, hu1, hu2⟩ := list_of (len * k) _ hget
    have hlm : (l.map f).length = len := by simp [hl1]
    have := TRep.lst (w := W) (ok := fun b => b < W.heap.size) k (l.map f) (some a) cap us hk (hx l) (by omega) hm (fun hne => ?_) (by rw [hlm]; exact hu1) (fun j T u hT hu => (hu2 j u hu).2 T hT)
    · rw [hlm] at this; exact this
    · obtain ⟨u, hu⟩ := hspot (fun e => hne (by rw [e]; rfl))
      have hs := World.cell?_spot hu
      obtain ⟨b, o, sp⟩ := a
      simp only at hs
      subst hs
      refine ⟨b, o, rfl, ?_, fun j u hj => ?_⟩
      · simp only [World.cell?] at hu
        by_cases hb : b < W.heap.size
        · exact hb
        · rw [Array.getElem?_eq_none (by omega)] at hu; simp at hu
      · have := (hu2 j u hj).1
        rw [add_lit'] at this
        exact this

theorem RdM.map {t : TypeId} {k : Nat} {α β : Type} {f : α → Tree} {μ : α → Nat} {f' : β → Tree} {μ' : β → Nat} (h : RdM P t k f μ) (g : α → β) (hf : ∀ a, f' (g a) = f a) (hm : ∀ a, μ' (g a) ≤ μ a) (he : ∀ b, Elt k (f' b)) : RdM P t k f' μ' := by
  obtain ⟨h1, h2, h3⟩ := h
  refine ⟨he, h2, fun H enc W fuel cs x hx => ?_⟩
  obtain ⟨a, ha, hb⟩ := h3 H enc W fuel cs x hx
  exact ⟨g a, by rw [hf]; exact ha, Nat.le_trans (hm a) hb⟩

/-- The fields of a struct, from a cell on. -/
def RdFM (P : Program) (off : Nat) (fs : List Field) (k : Nat) {β : Type} (g : β → List Tree) (μ : β → Nat) : Prop :=
  (∀ b, (g b).length = k ∧ ∀ T ∈ g b, T.isCell = true) ∧ ∀ (H : Type) (enc : TypeId × Value → H) (W : World) (n : Nat) (cs : List Value) (ys : List (DataW H × List MemPlace)),
    ys.length = fs.length → (∀ (i : Nat) (f : Field), fs[i]? = some f → DataW.trod enc P W 0 (fun _ => true) true n f.type ((cs.drop f.offset).take (P.cellsOf f.type)) = ys[i]?) →
    ∃ b : β, (∀ (j : Nat) (T : Tree) (u : Value), (g b)[j]? = some T → cs[off + j]? = some u → TRep W (fun b => b < W.heap.size) T u) ∧ μ b ≤ Rows.uptoBulkAll (ys.map (·.1))
theorem RdFM.nil {off : Nat} : RdFM P off [] 0 (fun _ : Unit => []) (fun _ => 0) :=
  ⟨fun _ => ⟨rfl, fun T hT => by simp at hT⟩, fun H enc W n cs ys h1 h2 => ⟨(), fun j T u hT => by simp at hT, Nat.zero_le _⟩⟩
theorem RdFM.cons {off : Nat} {f : Field} {fs : List Field} {k1 k2 : Nat} {α β : Type} {f1 : α → Tree} {μ1 : α → Nat} {g2 : β → List Tree} {μ2 : β → Nat} (ho : f.offset = off) (h : RdM P f.type k1 f1 μ1) (hs : RdFM P (off + k1) fs k2 g2 μ2) : RdFM P off (f :: fs) (k1 + k2) (fun p : α × β => (f1 p.1).cells ++ g2 p.2) (fun p => μ1 p.1 + μ2 p.2) := by
  obtain ⟨h1, h2, h3⟩ := h
  obtain ⟨s1, s2⟩ := hs
  refine ⟨fun p => ⟨by rw [List.length_append, (h1 p.1).1, (s1 p.2).1], fun T hT => ?_⟩, fun H enc W n cs ys hl hy => ?_⟩
  · rcases List.mem_append.1 hT with hT | hT
    · exact (h1 p.1).2 T hT
    · exact (s1 p.2).2 T hT
  · cases ys with
    | nil => simp at hl
    | cons y ys =>
      have e0 := hy 0 f rfl
      simp only [List.getElem?_cons_zero, ho, h2] at e0
      obtain ⟨a, ⟨ha1, ha2⟩, ha3⟩ := h3 H enc W n _ _ e0
      obtain ⟨b, hb, hb3⟩ := s2 H enc W n cs ys (by simpa using hl) (fun i f' hf => by simpa using hy (i + 1) f' (by simpa using hf))
      refine ⟨(a, b), fun j T u hT hu => ?_, by simp only [List.map_cons, Rows.uptoBulkAll]; omega⟩
      by_cases hj : j < (f1 a).cells.length
      · rw [List.getElem?_append_left hj] at hT
        have hk : j < k1 := by rw [(h1 a).1] at hj; exact hj
        refine ha2 j T u hT ?_
        rw [List.getElem?_take, if_pos hk, List.getElem?_drop]
        exact hu
      · rw [List.getElem?_append_right (by show (f1 a).cells.length ≤ j; omega)] at hT
        rw [(h1 a).1] at hj hT
        refine hb (j - k1) T u hT ?_
        rw [← hu]; congr 1; omega
theorem RdM.struct {t : TypeId} {fs : Array Field} {k : Nat} {β : Type} {g : β → List Tree} {μ : β → Nat} (ht : P.underlying t = some (.struct fs)) (hc : P.cellsOf t = k) (h : RdFM P 0 fs.toList k g μ) : RdM P t k (fun b => .agg (g b)) (fun b => μ b + 1) := by
  obtain ⟨s1, s2⟩ := h
  refine ⟨fun b => s1 b, hc, fun H enc W fuel cs x hx => ?_⟩
  obtain ⟨xs, n, _, hxe, hl, hlen, hf⟩ := DataW.trod_struct ht hx
  obtain ⟨b, hb, hμ⟩ := s2 H enc W n cs xs (by simpa using hlen) (fun i f hi => hf i f (by simpa using hi))
  refine ⟨b, ⟨by rw [hl, hc]; exact (s1 b).1.symm, fun j T u hT hu => hb j T u hT (by simpa using hu)⟩, ?_⟩
  rw [hxe]; simp only [Rows.uptoBulk]; omega

/-- A one-cell argument. -/
theorem RdM.arg {t : TypeId} {α : Type} {f : α → Tree} {μ : α → Nat} (h : RdM P t 1 f μ) (h1 : ∀ a, (f a).isCell = true) {H : Type} {enc : TypeId × Value → H} {v : Value} {d : DataW H} {ps : List MemPlace} (hd : DataW.Trod enc P W 0 (fun _ => true) true t v d ps) (hv : v.cells.toList = [v]) :
    ∃ a, TRep W (fun b => b < W.heap.size) (f a) v ∧ μ a ≤ Rows.uptoBulk d := by
  obtain ⟨fuel, hf⟩ := hd
  obtain ⟨a, ⟨c1, c2⟩, c3⟩ := h.2.2 H enc W fuel _ _ hf
  refine ⟨a, c2 0 _ _ ?_ (by rw [hv]; rfl), c3⟩
  cases hfa : f a with
  | agg cs => have := h1 a; rw [hfa] at this; cases this
  | sc v => rfl
  | lst k xs => rfl
theorem bulk_bound {H : Type} {l : List (DataW H)} (hk : Rows.uptoSmall H l = true) : Rows.uptoBulkAll l ≤ 1048576 := of_decide_eq_true hk
end Go.Ab
end
