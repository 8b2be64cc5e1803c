/- Plain law of changes of an axis: units, their exchange, joining and rebasing, the writer. -/
import Derived.Test.YtbdbibmbfmlobaaAbGen
set_option linter.unusedVariables false
set_option linter.unusedSimpArgs false
namespace Go.Ch
open Go Go.Ab

inductive U where
  | K
  | A
  | C
/-- Adds and cuts at one gap may be exchanged. -/
inductive Sw : List U → List U → Prop
  | refl (u : List U) : Sw u u
  | cons (x : U) {u v : List U} (h : Sw u v) : Sw (x :: u) (x :: v)
  | swap (u : List U) : Sw (.A :: .C :: u) (.C :: .A :: u)
  | symm {u v : List U} (h : Sw u v) : Sw v u
  | trans {u v w : List U} (h : Sw u v) (k : Sw v w) : Sw u w
theorem Sw.of_eq {u v : List U} (h : u = v) : Sw u v := h ▸ .refl u
theorem Sw.left (w : List U) {u v : List U} (h : Sw u v) : Sw (w ++ u) (w ++ v) := by
  induction w with
  | nil => exact h
  | cons x w ih => exact .cons x ih
theorem Sw.right (w : List U) {u v : List U} (h : Sw u v) : Sw (u ++ w) (v ++ w) := by
  induction h with
  | refl u => exact .refl _
  | cons x _ ih => exact .cons x ih
  | swap u => exact .swap _
  | symm _ ih => exact .symm ih
  | trans _ _ a b => exact .trans a b
abbrev rep (n : Nat) (x : U) : List U := List.replicate n x
theorem rep_succ (n : Nat) (x : U) : rep (n + 1) x = x :: rep n x := rfl
theorem sw_C_As (a : Nat) (u : List U) : Sw (.C :: (rep a .A ++ u)) (rep a .A ++ .C :: u) := by
  induction a with
  | zero => exact .refl _
  | succ a ih => exact .trans (.symm (.swap _)) (.cons _ ih)
theorem sw_Cs_As (c a : Nat) (u : List U) : Sw (rep c .C ++ (rep a .A ++ u)) (rep a .A ++ (rep c .C ++ u)) := by
  induction c with
  | zero => exact .refl _
  | succ c ih => exact .trans (.cons _ ih) (sw_C_As a _)

def bumpA : List (Nat × Nat) → List (Nat × Nat)
  | [] => []
  | (a, c) :: r => (a + 1, c) :: r
def bumpC : List (Nat × Nat) → List (Nat × Nat)
  | [] => []
  | (a, c) :: r => (a, c + 1) :: r
def beta : List U → List (Nat × Nat)
  | [] => [(0, 0)]
  | .K :: u => (0, 0) :: beta u
  | .A :: u => bumpA (beta u)
  | .C :: u => bumpC (beta u)
theorem beta_ne (u : List U) : ∃ a c r, beta u = (a, c) :: r := by
  induction u with
  | nil => exact ⟨0, 0, [], rfl⟩
  | cons x u ih =>
    obtain ⟨a, c, r, h⟩ := ih
    cases x <;> simp [beta, bumpA, bumpC, h]
theorem beta_sw {u v : List U} (h : Sw u v) : beta u = beta v := by
  induction h with
  | refl u => rfl
  | cons x _ ih => cases x <;> simp [beta, ih]
  | swap u => obtain ⟨a, c, r, h⟩ := beta_ne u; simp [beta, h, bumpA, bumpC]
  | symm _ ih => exact ih.symm
  | trans _ _ a b => exact a.trans b
def unb : List (Nat × Nat) → List U
  | [] => []
  | [(a, c)] => rep a .A ++ rep c .C
  | (a, c) :: s :: r => rep a .A ++ (rep c .C ++ .K :: unb (s :: r))
theorem unb_cons (a c : Nat) (r : List (Nat × Nat)) : ∃ t, ∀ a c, unb ((a, c) :: r) = rep a .A ++ (rep c .C ++ t) := by
  cases r with
  | nil => exact ⟨[], fun a c => by simp [unb]⟩
  | cons s r => exact ⟨.K :: unb (s :: r), fun a c => rfl⟩
theorem sw_unb (u : List U) : Sw u (unb (beta u)) := by
  induction u with
  | nil => exact .refl _
  | cons x u ih =>
    obtain ⟨a, c, r, h⟩ := beta_ne u
    rw [h] at ih
    obtain ⟨t, ht⟩ := unb_cons a c r
    cases x with
    | K => simp only [beta, h]; exact .cons _ ih
    | A =>
      simp only [beta, h, bumpA]
      rw [ht] at ih ⊢
      exact .cons _ ih
    | C =>
      simp only [beta, h, bumpC]
      rw [ht] at ih ⊢
      exact .trans (.cons _ ih) (sw_C_As a _)
theorem sw_of_beta {u v : List U} (h : beta u = beta v) : Sw u v := .trans (h ▸ sw_unb u) (.symm (sw_unb v))

/-! ### Joining -/
def joinU : List U → List U → List U
  | .C :: p, q => .C :: joinU p q
  | [], q => q
  | .K :: p, [] => .K :: joinU p []
  | .A :: p, [] => .A :: joinU p []
  | .K :: p, .A :: q => .A :: joinU (.K :: p) q
  | .A :: p, .A :: q => .A :: joinU (.A :: p) q
  | .K :: p, .K :: q => .K :: joinU p q
  | .K :: p, .C :: q => .C :: joinU p q
  | .A :: p, .K :: q => .A :: joinU p q
  | .A :: p, .C :: q => joinU p q
termination_by p q => p.length + q.length
theorem joinU_A (p q : List U) : Sw (joinU p (.A :: q)) (.A :: joinU p q) := by
  induction p with
  | nil => simp only [joinU]; exact .refl _
  | cons x p ih =>
    cases x with
    | C => simp only [joinU]; exact .trans (.cons _ ih) (.symm (.swap _))
    | K => simp only [joinU]; exact .refl _
    | A => simp only [joinU]; exact .refl _
theorem joinU_left {p p' : List U} (h : Sw p p') : ∀ q, Sw (joinU p q) (joinU p' q) := by
  induction h with
  | refl u => exact fun q => .refl _
  | cons x _ ih =>
    intro q
    cases x with
    | C => simp only [joinU]; exact .cons _ (ih q)
    | K =>
      induction q with
      | nil => simp only [joinU]; exact .cons _ (ih _)
      | cons y q ihq =>
        cases y with
        | A => simp only [joinU]; exact .cons _ ihq
        | K => simp only [joinU]; exact .cons _ (ih _)
        | C => simp only [joinU]; exact .cons _ (ih _)
    | A =>
      induction q with
      | nil => simp only [joinU]; exact .cons _ (ih _)
      | cons y q ihq =>
        cases y with
        | A => simp only [joinU]; exact .cons _ ihq
        | K => simp only [joinU]; exact .cons _ (ih _)
        | C => simp only [joinU]; exact ih _
  | swap u =>
    intro q
    induction q with
    | nil => simp only [joinU]; exact .swap _
    | cons y q ihq =>
      cases y with
      | A =>
        simp only [joinU] at ihq ⊢
        exact .trans (.cons _ ihq) (.swap _)
      | K => simp only [joinU]; exact .swap _
      | C => simp only [joinU]; exact .refl _
  | symm _ ih => exact fun q => .symm (ih q)
  | trans _ _ a b => exact fun q => .trans (a q) (b q)
theorem joinU_right {q q' : List U} (h : Sw q q') : ∀ p, Sw (joinU p q) (joinU p q') := by
  induction h with
  | refl u => exact fun q => .refl _
  | @cons x u v _ ih =>
    intro p
    induction p with
    | nil => have := ih []; simp only [joinU] at this ⊢; exact .cons _ this
    | cons y p ihp =>
      cases y with
      | C => simp only [joinU]; exact .cons _ ihp
      | K =>
        cases x with
        | A => simp only [joinU]; exact .cons _ (ih _)
        | K => simp only [joinU]; exact .cons _ (ih _)
        | C => simp only [joinU]; exact .cons _ (ih _)
      | A =>
        cases x with
        | A => simp only [joinU]; exact .cons _ (ih _)
        | K => simp only [joinU]; exact .cons _ (ih _)
        | C => simp only [joinU]; exact ih _
  | swap u =>
    intro p
    induction p with
    | nil => simp only [joinU]; exact .swap _
    | cons y p ihp =>
      cases y with
      | C => simp only [joinU]; exact .cons _ ihp
      | K => simp only [joinU]; exact .trans (.swap _) (.cons _ (.symm (joinU_A _ _)))
      | A => simp only [joinU]; exact .symm (joinU_A _ _)
  | symm _ ih => exact fun q => .symm (ih q)
  | trans _ _ a b => exact fun q => .trans (a q) (b q)
def oldU : List U → Nat
  | [] => 0
  | .A :: u => oldU u
  | .K :: u => oldU u + 1
  | .C :: u => oldU u + 1
def newU : List U → Nat
  | [] => 0
  | .C :: u => newU u
  | .K :: u => newU u + 1
  | .A :: u => newU u + 1
theorem sw_old {u v : List U} (h : Sw u v) : oldU u = oldU v ∧ newU u = newU v := by
  induction h with
  | refl u => exact ⟨rfl, rfl⟩
  | cons x _ ih => cases x <;> simp [oldU, newU, ih.1, ih.2]
  | swap u => exact ⟨rfl, rfl⟩
  | symm _ ih => exact ⟨ih.1.symm, ih.2.symm⟩
  | trans _ _ a b => exact ⟨a.1.trans b.1, a.2.trans b.2⟩
theorem joinU_len : ∀ p q : List U, newU p = oldU q → oldU (joinU p q) = oldU p ∧ newU (joinU p q) = newU q := by
  intro p q
  induction p, q using joinU.induct with
  | case1 p q ih => intro h; simp only [joinU, oldU, newU] at h ⊢; have := ih h; omega
  | case2 q =>
    intro h
    have h0 : oldU q = 0 := by rw [← h]; rfl
    exact ⟨by simp only [joinU]; rw [h0]; rfl, by simp only [joinU]⟩
  | case3 p ih => intro h; simp [newU, oldU] at h
  | case4 p ih => intro h; simp [newU, oldU] at h
  | case5 p q ih => intro h; have := ih (by simpa [newU, oldU] using h); simp only [joinU, oldU, newU] at this ⊢; omega
  | case6 p q ih => intro h; have := ih (by simpa [newU, oldU] using h); simp only [joinU, oldU, newU] at this ⊢; omega
  | case7 p q ih => intro h; have := ih (by simpa [newU, oldU] using h); simp only [joinU, oldU, newU] at this ⊢; omega
  | case8 p q ih => intro h; have := ih (by simpa [newU, oldU] using h); simp only [joinU, oldU, newU] at this ⊢; omega
  | case9 p q ih => intro h; have := ih (by simpa [newU, oldU] using h); simp only [joinU, oldU, newU] at this ⊢; omega
  | case10 p q ih => intro h; have := ih (by simpa [newU, oldU] using h); simp only [joinU, oldU, newU] at this ⊢; omega
theorem joinU_nil (p : List U) : joinU p [] = p := by
  induction p with
  | nil => simp [joinU]
  | cons x p ih => cases x <;> simp [joinU, ih]
theorem joinU_assoc : ∀ (n : Nat) (p q r : List U), p.length + q.length + r.length ≤ n → newU p = oldU q → newU q = oldU r → joinU (joinU p q) r = joinU p (joinU q r) := by
  intro n
  induction n with
  | zero =>
    intro p q r hn _ _
    have h1 : p = [] := List.length_eq_zero_iff.1 (by omega)
    have h2 : q = [] := List.length_eq_zero_iff.1 (by omega)
    have h3 : r = [] := List.length_eq_zero_iff.1 (by omega)
    subst h1; subst h2; subst h3
    simp [joinU]
  | succ n ih =>
    intro p q r hn h1 h2
    match p, q, r with
    | .C :: p, q, r => simp only [joinU]; rw [ih p q r (by simp at hn; omega) (by simpa [newU] using h1) h2]
    | [], q, r => simp only [joinU]
    | .K :: p, [], r => simp [newU, oldU] at h1
    | .A :: p, [], r => simp [newU, oldU] at h1
    | .K :: p, .C :: q, r => simp only [joinU]; rw [ih p q r (by simp at hn; omega) (by simpa [newU, oldU] using h1) (by simpa [newU, oldU] using h2)]
    | .A :: p, .C :: q, r => simp only [joinU]; rw [ih p q r (by simp at hn; omega) (by simpa [newU, oldU] using h1) (by simpa [newU, oldU] using h2)]
    | .K :: p, .K :: q, [] => simp [newU, oldU] at h2
    | .K :: p, .A :: q, [] => simp [newU, oldU] at h2
    | .A :: p, .K :: q, [] => simp [newU, oldU] at h2
    | .A :: p, .A :: q, [] => simp [newU, oldU] at h2
    | .K :: p, .K :: q, .A :: r =>
      have e := ih (.K :: p) (.K :: q) r (by simp at hn ⊢; omega) h1 (by simpa [newU, oldU] using h2)
      simp only [joinU] at e ⊢; rw [e]
    | .K :: p, .A :: q, .A :: r =>
      have e := ih (.K :: p) (.A :: q) r (by simp at hn ⊢; omega) h1 (by simpa [newU, oldU] using h2)
      simp only [joinU] at e ⊢; rw [e]
    | .A :: p, .K :: q, .A :: r =>
      have e := ih (.A :: p) (.K :: q) r (by simp at hn ⊢; omega) h1 (by simpa [newU, oldU] using h2)
      simp only [joinU] at e ⊢; rw [e]
    | .A :: p, .A :: q, .A :: r =>
      have e := ih (.A :: p) (.A :: q) r (by simp at hn ⊢; omega) h1 (by simpa [newU, oldU] using h2)
      simp only [joinU] at e ⊢; rw [e]
    | .K :: p, .K :: q, .K :: r => simp only [joinU]; rw [ih p q r (by simp at hn; omega) (by simpa [newU, oldU] using h1) (by simpa [newU, oldU] using h2)]
    | .K :: p, .K :: q, .C :: r => simp only [joinU]; rw [ih p q r (by simp at hn; omega) (by simpa [newU, oldU] using h1) (by simpa [newU, oldU] using h2)]
    | .A :: p, .K :: q, .K :: r => simp only [joinU]; rw [ih p q r (by simp at hn; omega) (by simpa [newU, oldU] using h1) (by simpa [newU, oldU] using h2)]
    | .A :: p, .K :: q, .C :: r => simp only [joinU]; rw [ih p q r (by simp at hn; omega) (by simpa [newU, oldU] using h1) (by simpa [newU, oldU] using h2)]
    | .K :: p, .A :: q, .K :: r => simp only [joinU]; rw [ih (.K :: p) q r (by simp at hn ⊢; omega) (by simpa [newU, oldU] using h1) (by simpa [newU, oldU] using h2)]
    | .K :: p, .A :: q, .C :: r => simp only [joinU]; rw [ih (.K :: p) q r (by simp at hn ⊢; omega) (by simpa [newU, oldU] using h1) (by simpa [newU, oldU] using h2)]
    | .A :: p, .A :: q, .K :: r => simp only [joinU]; rw [ih (.A :: p) q r (by simp at hn ⊢; omega) (by simpa [newU, oldU] using h1) (by simpa [newU, oldU] using h2)]
    | .A :: p, .A :: q, .C :: r => simp only [joinU]; rw [ih (.A :: p) q r (by simp at hn ⊢; omega) (by simpa [newU, oldU] using h1) (by simpa [newU, oldU] using h2)]

/-! ### Rebasing -/
def pairU : List U → List U → List U × List U
  | .A :: p, q => (.A :: (pairU p q).1, .K :: (pairU p q).2)
  | p, .A :: q => (.K :: (pairU p q).1, .A :: (pairU p q).2)
  | .K :: p, .K :: q => (.K :: (pairU p q).1, .K :: (pairU p q).2)
  | .K :: p, .C :: q => ((pairU p q).1, .C :: (pairU p q).2)
  | .C :: p, .K :: q => (.C :: (pairU p q).1, (pairU p q).2)
  | .C :: p, .C :: q => pairU p q
  | _, _ => ([], [])
termination_by p q => p.length + q.length
theorem pairU_meets (n : Nat) : ∀ (p q : List U), p.length + q.length ≤ n → oldU p = oldU q →
    Sw (joinU p (pairU p q).2) (joinU q (pairU p q).1) ∧ oldU (pairU p q).2 = newU p ∧ oldU (pairU p q).1 = newU q ∧ newU (pairU p q).1 = newU (pairU p q).2 := by
  induction n with
  | zero =>
    intro p q hn _
    have h1 : p = [] := List.length_eq_zero_iff.1 (by omega)
    have h2 : q = [] := List.length_eq_zero_iff.1 (by omega)
    subst h1; subst h2
    simp [pairU, joinU, oldU, newU]
    exact .refl _
  | succ n ih =>
    intro p q hn h
    match p, q with
    | .A :: p, q =>
      obtain ⟨i1, i2, i3, i4⟩ := ih p q (by simp at hn; omega) (by simpa [oldU] using h)
      simp only [pairU, joinU, oldU, newU]
      exact ⟨.trans (.cons _ i1) (.symm (joinU_A _ _)), by omega, by omega, by omega⟩
    | [], .A :: q =>
      obtain ⟨i1, i2, i3, i4⟩ := ih [] q (by simp at hn; simp; omega) (by simpa [oldU] using h)
      simp only [pairU, joinU, oldU, newU] at i1 i2 i3 i4 ⊢
      exact ⟨.cons _ i1, by omega, by omega, by omega⟩
    | .K :: p, .A :: q =>
      obtain ⟨i1, i2, i3, i4⟩ := ih (.K :: p) q (by simp at hn ⊢; omega) (by simpa [oldU] using h)
      simp only [pairU, oldU, newU] at i1 i2 i3 i4 ⊢
      refine ⟨.trans (joinU_A _ _) ?_, by omega, by omega, by omega⟩
      simp only [joinU]
      exact .cons _ i1
    | .C :: p, .A :: q =>
      obtain ⟨i1, i2, i3, i4⟩ := ih (.C :: p) q (by simp at hn ⊢; omega) (by simpa [oldU] using h)
      simp only [pairU, oldU, newU] at i1 i2 i3 i4 ⊢
      refine ⟨.trans (joinU_A _ _) ?_, by omega, by omega, by omega⟩
      simp only [joinU] at i1 ⊢
      exact .cons _ i1
    | .K :: p, .K :: q =>
      obtain ⟨i1, i2, i3, i4⟩ := ih p q (by simp at hn; omega) (by simpa [oldU] using h)
      simp only [pairU, joinU, oldU, newU]
      exact ⟨.cons _ i1, by omega, by omega, by omega⟩
    | .K :: p, .C :: q =>
      obtain ⟨i1, i2, i3, i4⟩ := ih p q (by simp at hn; omega) (by simpa [oldU] using h)
      simp only [pairU, joinU, oldU, newU]
      exact ⟨.cons _ i1, by omega, by omega, by omega⟩
    | .C :: p, .K :: q =>
      obtain ⟨i1, i2, i3, i4⟩ := ih p q (by simp at hn; omega) (by simpa [oldU] using h)
      simp only [pairU, joinU, oldU, newU]
      exact ⟨.cons _ i1, by omega, by omega, by omega⟩
    | .C :: p, .C :: q =>
      obtain ⟨i1, i2, i3, i4⟩ := ih p q (by simp at hn; omega) (by simpa [oldU] using h)
      simp only [pairU, joinU, oldU, newU]
      exact ⟨.cons _ i1, by omega, by omega, by omega⟩
    | [], [] => simp [pairU, joinU, oldU, newU]; exact .refl _
    | [], .K :: q => simp [oldU] at h
    | [], .C :: q => simp [oldU] at h
    | .K :: p, [] => simp [oldU] at h
    | .C :: p, [] => simp [oldU] at h
end Go.Ch
