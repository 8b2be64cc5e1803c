/- Readers of steps, the check of a change, joining and rebasing run by run. -/
import Derived.Test.YtbdbibmbfmlobaaAxisSteps
set_option linter.unusedVariables false
set_option linter.unusedSimpArgs false
namespace Go.Ch
open Go Go.Ab

/-! ### The check -/
def chkX (l : List AxStep) (i : Nat) (b a : Int) : Int :=
  if i < l.length then
    if (l.getD i default).kind < 0 ∨ 2 < (l.getD i default).kind then 8
    else if (l.getD i default).n < 1 ∨ 2147483647 < (l.getD i default).n then 2
    else if 0 < i ∧ ((l.getD (i - 1) default).kind = (l.getD i default).kind ∨ ((l.getD (i - 1) default).kind = 2 ∧ (l.getD i default).kind = 1)) then 5
    else chkX l (i + 1) (if (l.getD i default).kind ≠ 1 then min (b + (l.getD i default).n) 2147483648 else b) (if (l.getD i default).kind ≠ 2 then min (a + (l.getD i default).n) 2147483648 else a)
  else if 2147483647 < b ∨ 2147483647 < a then 3 else 0
termination_by l.length - i
def checkX (l : List AxStep) : Int := chkX l 0 0 0
def FormAt (l : List AxStep) (i : Nat) : Prop := ∀ k, i ≤ k → k < l.length → Ok1 (l.getD k default) ∧ (0 < k → Nx (l.getD (k - 1) default) (l.getD k default))
theorem at_of_form : ∀ {l : List AxStep}, Form l → FormAt l 0
  | [], _ => fun k _ hk => by simp at hk
  | s :: l, h => by
    have ih := at_of_form h.tail
    intro k _ hk
    cases k with
    | zero => exact ⟨h.head, fun h => absurd h (by decide)⟩
    | succ k =>
      have := ih k (by omega) (by simpa using hk)
      refine ⟨by simpa using this.1, fun _ => ?_⟩
      cases k with
      | zero =>
        cases l with
        | nil => simp at hk
        | cons t l => exact h.2.1
      | succ k => simpa using this.2 (by omega)
def Valid (l : List AxStep) : Prop := Form l ∧ oldU (ex l) ≤ 2147483647 ∧ newU (ex l) ≤ 2147483647
/-! ### Readers -/
def ru (l : List AxStep) (u : Int) : List U := (ex l).drop u.toNat
structure GoodR (l : List AxStep) (u : Int) : Prop where
  form : Form l
  pos : 0 ≤ u
  nil : l.length = 0 → u = 0
  lt : 0 < l.length → u < (l.getD 0 default).n
theorem good_r {l : List AxStep} (h : Form l) : GoodR l 0 := ⟨h, Int.le_refl _, fun _ => rfl, fun h0 => by
  have := (at_of_form h) 0 (Nat.le_refl _) h0
  have := this.1.2.2
  omega⟩
theorem ru0 (l : List AxStep) : ru l 0 = ex l := rfl
theorem ru_cons {l : List AxStep} {u : Int} (h : GoodR l u) (h0 : 0 < l.length) :
    ru l u = rep ((l.getD 0 default).n - u).toNat (uOf (l.getD 0 default).kind) ++ ex (l.drop 1) := by
  have h1 := h.lt h0
  have h2 := h.pos
  cases l with
  | nil => simp at h0
  | cons s l =>
    simp only [List.getD_cons_zero] at h1 ⊢
    unfold ru
    rw [ex, List.drop_append_of_le_length (by simp; omega), List.drop_replicate]
    congr 2
    omega
theorem GoodR.ok {l : List AxStep} {u : Int} (h : GoodR l u) (h0 : 0 < l.length) : Ok1 (l.getD 0 default) := ((at_of_form h.form) 0 (Nat.le_refl _) h0).1
theorem GoodR.take {l : List AxStep} {u n : Int} (h : GoodR l u) (h0 : 0 < l.length) (hn : 0 ≤ n) (hl : n ≤ (l.getD 0 default).n - u) :
    (u + n = (l.getD 0 default).n → GoodR (l.drop 1) 0 ∧ rep n.toNat (uOf (l.getD 0 default).kind) ++ ru (l.drop 1) 0 = ru l u) ∧
    (u + n ≠ (l.getD 0 default).n → GoodR l (u + n) ∧ rep n.toNat (uOf (l.getD 0 default).kind) ++ ru l (u + n) = ru l u) := by
  have h1 := h.lt h0
  have h2 := h.pos
  constructor
  · intro e
    refine ⟨good_r ?_, ?_⟩
    · cases l with
      | nil => trivial
      | cons s l => exact h.form.tail
    · rw [ru_cons h h0, ru0]
      congr 2
      omega
  · intro e
    have g : GoodR l (u + n) := ⟨h.form, by omega, fun hh => by omega, fun _ => by omega⟩
    refine ⟨g, ?_⟩
    rw [ru_cons h h0, ru_cons g h0, ← List.append_assoc, ← rep_add]
    congr 2
    omega
/-! ### Run by run -/
/-- Nothing, or not a cut first. -/
def NoC : List U → Prop
  | .C :: _ => False
  | _ => True
def NoA : List U → Prop
  | .A :: _ => False
  | _ => True
end Go.Ch
