/- Elements of flows: their encoding, their checks, equality. -/
import Derived.Test.YtbdbibmbfmlobaaAttrFacts
set_option linter.unusedVariables false
set_option linter.unusedSimpArgs false
namespace Go.Ch
open Go Go.Ab

structure Elem where
  char : Int
  ref : Int
  attrs : List Attr
instance : Inhabited Elem := ⟨⟨0, 0, []⟩⟩
def elemT (e : Elem) : Tree := .agg [.sc (.int .i64 e.char), .sc (.int .i64 e.ref), .lst 2 (e.attrs.map attrT)]
def CharP (c : Int) : Prop := c = 9 ∨ c = 10 ∨ (32 ≤ c ∧ c < 127) ∨ (160 ≤ c ∧ c < 55296) ∨ (57343 < c ∧ c ≤ 1114111)
instance (c : Int) : Decidable (CharP c) := by unfold CharP; infer_instance
def elemE (x : Elem) : Int :=
  if x.char = 0 ↔ x.ref = 0 then 4
  else if (x.ref = 0 ∧ ¬ CharP x.char) ∨ (x.ref ≠ 0 ∧ (x.ref < 1 ∨ 1073741824 < x.ref)) then 2
  else chkA false x.attrs 0
theorem elemE_4 {x : Elem} (h : x.char = 0 ↔ x.ref = 0) : elemE x = 4 := by unfold elemE; rw [if_pos h]
theorem elemE_2 {x : Elem} (h : ¬ (x.char = 0 ↔ x.ref = 0)) (h2 : (x.ref = 0 ∧ ¬ CharP x.char) ∨ (x.ref ≠ 0 ∧ (x.ref < 1 ∨ 1073741824 < x.ref))) : elemE x = 2 := by unfold elemE; rw [if_neg h, if_pos h2]
theorem elemE_c {x : Elem} (h : ¬ (x.char = 0 ↔ x.ref = 0)) (h3 : ¬ x.ref = 0 ∨ CharP x.char) (h4 : x.ref = 0 ∨ (1 ≤ x.ref ∧ x.ref ≤ 1073741824)) : elemE x = chkA false x.attrs 0 := by
  unfold elemE
  rw [if_neg h, if_neg]
  rintro (⟨a, b⟩ | ⟨a, b⟩)
  · rcases h3 with h3 | h3
    · exact h3 a
    · exact b h3
  · rcases h4 with h4 | h4
    · exact a h4
    · omega
def partE (l : List Elem) (i : Nat) : Int := if i < l.length then (if elemE (l.getD i default) = 0 then partE l (i + 1) else elemE (l.getD i default)) else 0
termination_by l.length - i
def SzE (l : List Elem) : Prop := ∀ x ∈ l, Szd x.attrs
theorem getDE_mem {l : List Elem} {k : Nat} (h : k < l.length) : l.getD k default ∈ l := by
  rw [show l.getD k default = l[k] by simp [List.getD, List.getElem?_eq_getElem h]]
  exact List.getElem_mem h
def sameE (x y : Elem) : Bool := (x.char == y.char && x.ref == y.ref) && sameL x.attrs y.attrs
def sameFi (a b : List Elem) (i : Nat) : Bool := if i < a.length then (if sameE (a.getD i default) (b.getD i default) = true then sameFi a b (i + 1) else false) else true
termination_by a.length - i
def sameF (a b : List Elem) : Bool := decide (a.length = b.length) && sameFi a b 0
theorem sameE_self (x : Elem) : sameE x x = true := by unfold sameE; rw [sameL_self]; simp
theorem sameFi_self (a : List Elem) : ∀ (n i : Nat), a.length - i = n → sameFi a a i = true
  | 0, i, h => by rw [sameFi, if_neg (by omega)]
  | n + 1, i, h => by
    have hi : i < a.length := by omega
    rw [sameFi, if_pos hi, if_pos (sameE_self _), sameFi_self a n (i + 1) (by omega)]
theorem sameF_self (a : List Elem) : sameF a a = true := by unfold sameF; rw [sameFi_self a _ 0 rfl]; simp
theorem sameA_all (a b : List Attr) : ∀ (n i : Nat), a.length - i = n → sameA a b i = true → ∀ k, i ≤ k → k < a.length → a.getD k default = b.getD k default
  | 0, i, h, _ => fun k h1 h2 => by omega
  | n + 1, i, h, hs => by
    have hi : i < a.length := by omega
    rw [sameA, if_pos hi] at hs
    split at hs
    · rename_i he
      intro k h1 h2
      by_cases e : k = i
      · subst e
        generalize a.getD k default = x at *
        generalize b.getD k default = y at *
        cases x; cases y; simp_all
      · exact sameA_all a b n (i + 1) (by omega) hs k (by omega) h2
    · cases hs
theorem sameL_eq {a b : List Attr} : sameL a b = true ↔ a = b := by
  constructor
  · intro h
    unfold sameL at h
    simp only [Bool.and_eq_true, decide_eq_true_eq] at h
    refine List.ext_getElem h.1 (fun k h1 h2 => ?_)
    have := sameA_all a b _ 0 rfl h.2 k (by omega) h1
    simpa [List.getD, List.getElem?_eq_getElem h1, List.getElem?_eq_getElem h2] using this
  · intro h; subst h; exact sameL_self _
theorem partE_all (l : List Elem) : ∀ (n i : Nat), l.length - i = n → (partE l i = 0 ↔ ∀ k, i ≤ k → k < l.length → elemE (l.getD k default) = 0)
  | 0, i, h => by rw [partE, if_neg (by omega)]; exact ⟨fun _ k h1 h2 => by omega, fun _ => rfl⟩
  | n + 1, i, h => by
    have hi : i < l.length := by omega
    have ih := partE_all l n (i + 1) (by omega)
    rw [partE, if_pos hi]
    by_cases e : elemE (l.getD i default) = 0
    · rw [if_pos e, ih]
      constructor
      · intro h k h1 h2
        by_cases ek : k = i
        · subst ek; exact e
        · exact h k (by omega) h2
      · exact fun h k h1 h2 => h k (by omega) h2
    · rw [if_neg e]
      exact ⟨fun h => absurd h e, fun h => h i (Nat.le_refl _) hi⟩
theorem part_iff {l : List Elem} : partE l 0 = 0 ↔ ∀ x ∈ l, elemE x = 0 := by
  rw [partE_all l _ 0 rfl]
  constructor
  · intro h x hx
    obtain ⟨k, hk, e⟩ := List.mem_iff_getElem.1 hx
    have := h k (by omega) hk
    rw [← e]
    simpa [List.getD, List.getElem?_eq_getElem hk] using this
  · exact fun h k _ hk => h _ (getDE_mem hk)
theorem elem_ok {x : Elem} (h : elemE x = 0) : VG false x.attrs := by
  unfold elemE at h
  split at h
  · omega
  · split at h
    · omega
    · exact chk_iff.1 h
end Go.Ch
