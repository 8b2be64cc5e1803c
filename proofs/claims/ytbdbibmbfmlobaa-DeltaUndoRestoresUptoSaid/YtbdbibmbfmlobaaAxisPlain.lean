/- Plain law of changes of an axis: units, their exchange, joining and rebasing, the writer. -/
import Derived.Test.YtbdbibmbfmlobaaAbGen
set_option linter.unusedVariables false
set_option linter.unusedSimpArgs false
namespace Go.Ch
open Go Go.Ab

inductive U where
  | K
  | A
  | C
/-- Adds and cuts at one gap may be exchanged. -/
inductive Sw : List U → List U → Prop
  | refl (u : List U) : Sw u u
  | cons (x : U) {u v : List U} (h : Sw u v) : Sw (x :: u) (x :: v)
  | swap (u : List U) : Sw (.A :: .C :: u) (.C :: .A :: u)
  | symm {u v : List U} (h : Sw u v) : Sw v u
  | trans {u v w : List U} (h : Sw u v) (k : Sw v w) : Sw u w
theorem Sw.of_eq {u v : List U} (h : u = v) : Sw u v := h ▸ .refl u
theorem Sw.left (w : List U) {u v : List U} (h : Sw u v) : Sw (w ++ u) (w ++ v) := by
  induction w with
  | nil => exact h
  | cons x w ih => exact .cons x ih
theorem Sw.right (w : List U) {u v : List U} (h : Sw u v) : Sw (u ++ w) (v ++ w) := by
  induction h with
  | refl u => exact .refl _
  | cons x _ ih => exact .cons x ih
  | swap u => exact .swap _
  | symm _ ih => exact .symm ih
  | trans _ _ a b => exact .trans a b
abbrev rep (n : Nat) (x : U) : List U := List.replicate n x
def bumpA : List (Nat × Nat) → List (Nat × Nat)
  | [] => []
  | (a, c) :: r => (a + 1, c) :: r
def bumpC : List (Nat × Nat) → List (Nat × Nat)
  | [] => []
  | (a, c) :: r => (a, c + 1) :: r
def beta : List U → List (Nat × Nat)
  | [] => [(0, 0)]
  | .K :: u => (0, 0) :: beta u
  | .A :: u => bumpA (beta u)
  | .C :: u => bumpC (beta u)
def unb : List (Nat × Nat) → List U
  | [] => []
  | [(a, c)] => rep a .A ++ rep c .C
  | (a, c) :: s :: r => rep a .A ++ (rep c .C ++ .K :: unb (s :: r))
/-! ### Joining -/
def joinU : List U → List U → List U
  | .C :: p, q => .C :: joinU p q
  | [], q => q
  | .K :: p, [] => .K :: joinU p []
  | .A :: p, [] => .A :: joinU p []
  | .K :: p, .A :: q => .A :: joinU (.K :: p) q
  | .A :: p, .A :: q => .A :: joinU (.A :: p) q
  | .K :: p, .K :: q => .K :: joinU p q
  | .K :: p, .C :: q => .C :: joinU p q
  | .A :: p, .K :: q => .A :: joinU p q
  | .A :: p, .C :: q => joinU p q
termination_by p q => p.length + q.length
def oldU : List U → Nat
  | [] => 0
  | .A :: u => oldU u
  | .K :: u => oldU u + 1
  | .C :: u => oldU u + 1
def newU : List U → Nat
  | [] => 0
  | .C :: u => newU u
  | .K :: u => newU u + 1
  | .A :: u => newU u + 1
/-! ### Rebasing -/
def pairU : List U → List U → List U × List U
  | .A :: p, q => (.A :: (pairU p q).1, .K :: (pairU p q).2)
  | p, .A :: q => (.K :: (pairU p q).1, .A :: (pairU p q).2)
  | .K :: p, .K :: q => (.K :: (pairU p q).1, .K :: (pairU p q).2)
  | .K :: p, .C :: q => ((pairU p q).1, .C :: (pairU p q).2)
  | .C :: p, .K :: q => (.C :: (pairU p q).1, (pairU p q).2)
  | .C :: p, .C :: q => pairU p q
  | _, _ => ([], [])
termination_by p q => p.length + q.length
end Go.Ch
