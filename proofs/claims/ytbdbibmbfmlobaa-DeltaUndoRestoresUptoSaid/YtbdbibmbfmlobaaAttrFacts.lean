/- Attributes: the checks of the code are the form of the plain law; what the three laws need. -/
import Derived.Test.YtbdbibmbfmlobaaChAttr3
set_option linter.unusedVariables false
set_option linter.unusedSimpArgs false
namespace Go.Ch
open Go Go.Ab

def NPg (s : ByteArray) : Prop := nameGo s = true
def VPg (s : ByteArray) : Prop := valGo s = true
theorem np_mt : ¬ NPg mt := by
  unfold NPg nameGo
  rw [decide_eq_false (by intro h; have := h.1; simp [ByteArray.size] at this)]
  decide
theorem vp_mt : ¬ VPg mt := by
  unfold VPg valGo
  rw [decide_eq_false (by intro h; have := h.1; simp [ByteArray.size] at this)]
  decide
abbrev VG := V NPg VPg
theorem getD_cons_succ' {a : Attr} {l : List Attr} {k : Nat} : (a :: l).getD (k + 1) default = l.getD k default := by simp [List.getD]
theorem getD_zero' {a : Attr} {l : List Attr} : (a :: l).getD 0 default = a := rfl
theorem sorted_of_adj : ∀ {l : List Attr}, (∀ k, k + 1 < l.length → slt (l.getD k default).name (l.getD (k + 1) default).name = true) → Sorted l
  | [], _ => trivial
  | [a], _ => ⟨fun b hb => (by cases hb), trivial⟩
  | a :: b :: l, h => by
    have ih := sorted_of_adj (l := b :: l) (fun k hk => by have := h (k + 1) (by simp at hk ⊢; omega); simpa using this)
    have h0 := h 0 (by simp)
    simp only [getD_zero', getD_cons_succ'] at h0
    refine ⟨fun c hc => ?_, ih⟩
    rcases List.mem_cons.1 hc with rfl | hc
    · exact h0
    · exact slt_trans h0 (ih.1 c hc)
theorem adj_of_sorted : ∀ {l : List Attr}, Sorted l → ∀ k, k + 1 < l.length → slt (l.getD k default).name (l.getD (k + 1) default).name = true
  | [], _, k, hk => by simp at hk
  | a :: l, h, 0, hk => by
    cases l with
    | nil => simp at hk
    | cons b l => exact h.1 b (by simp)
  | a :: l, h, k + 1, hk => by
    have := adj_of_sorted h.2 k (by simp at hk; omega)
    rw [getD_cons_succ', getD_cons_succ']; exact this
theorem getD_mem {l : List Attr} {k : Nat} (h : k < l.length) : l.getD k default ∈ l := by
  rw [show l.getD k default = l[k] by simp [List.getD, List.getElem?_eq_getElem h]]
  exact List.getElem_mem h
theorem mem_getD {l : List Attr} {a : Attr} (h : a ∈ l) : ∃ k, k < l.length ∧ l.getD k default = a := by
  obtain ⟨k, hk, e⟩ := List.mem_iff_getElem.1 h
  exact ⟨k, hk, by rw [← e]; simp [List.getD, List.getElem?_eq_getElem hk]⟩

theorem chkA_all (e : Bool) (l : List Attr) : ∀ (n i : Nat), l.length - i = n → (chkA e l i = 0 ↔ ∀ k, i ≤ k → k < l.length → Q NPg VPg e (l.getD k default).name (l.getD k default).val ∧ (0 < k → slt (l.getD (k - 1) default).name (l.getD k default).name = true))
  | 0, i, h => by
    rw [chkA, if_neg (by omega)]
    exact ⟨fun _ k h1 h2 => by omega, fun _ => rfl⟩
  | n + 1, i, h => by
    have hi : i < l.length := by omega
    have ih := chkA_all e l n (i + 1) (by omega)
    rw [chkA, if_pos hi]
    have step : (∀ k, i ≤ k → k < l.length → Q NPg VPg e (l.getD k default).name (l.getD k default).val ∧ (0 < k → slt (l.getD (k - 1) default).name (l.getD k default).name = true)) ↔
        (Q NPg VPg e (l.getD i default).name (l.getD i default).val ∧ (0 < i → slt (l.getD (i - 1) default).name (l.getD i default).name = true)) ∧ chkA e l (i + 1) = 0 := by
      rw [ih]
      constructor
      · exact fun h => ⟨h i (Nat.le_refl _) hi, fun k h1 h2 => h k (by omega) h2⟩
      · rintro ⟨h1, h2⟩ k h3 h4
        by_cases e : k = i
        · subst e; exact h1
        · exact h2 k (by omega) h4
    rw [step]
    generalize (l.getD i default) = x
    generalize (l.getD (i - 1) default) = y
    unfold Q NPg VPg
    have hm : seq x.val { data := #[] } = true ↔ x.val = mt := seq_iff
    have hm2 : seq x.val { data := #[] } = false ↔ x.val ≠ mt := seq_no
    simp only [slt_or, hm2]
    cases h1 : nameGo x.name with
    | false => simp
    | true =>
      rw [if_neg (by decide)]
      cases h2 : valGo x.val with
      | false =>
        by_cases h3 : e = false ∨ x.val ≠ mt
        · rw [if_pos ⟨rfl, h3⟩]
          constructor
          · intro h; cases h
          · rintro ⟨⟨⟨_, h | ⟨h, h'⟩⟩, _⟩, _⟩
            · cases h
            · rcases h3 with h3 | h3
              · rw [h3] at h; cases h
              · exact absurd h' h3
        · rw [if_neg (fun h => h3 h.2)]
          have he : e = true := by cases e with | true => rfl | false => exact absurd (.inl rfl) h3
          have hx : x.val = mt := Classical.byContradiction fun h => h3 (.inr h)
          by_cases h4 : 0 < i ∧ slt y.name x.name = false
          · rw [if_pos h4]
            constructor
            · intro h; cases h
            · rintro ⟨⟨_, h⟩, _⟩; rw [h h4.1] at h4; cases h4.2
          · rw [if_neg h4]
            refine ⟨fun h => ⟨⟨⟨rfl, .inr ⟨he, hx⟩⟩, fun h0 => ?_⟩, h⟩, fun h => h.2⟩
            cases h5 : slt y.name x.name with
            | true => rfl
            | false => exact absurd ⟨h0, h5⟩ h4
      | true =>
        rw [if_neg (fun h => by cases h.1)]
        by_cases h4 : 0 < i ∧ slt y.name x.name = false
        · rw [if_pos h4]
          constructor
          · intro h; cases h
          · rintro ⟨⟨_, h⟩, _⟩; rw [h h4.1] at h4; cases h4.2
        · rw [if_neg h4]
          refine ⟨fun h => ⟨⟨⟨rfl, .inl rfl⟩, fun h0 => ?_⟩, h⟩, fun h => h.2⟩
          cases h5 : slt y.name x.name with
          | true => rfl
          | false => exact absurd ⟨h0, h5⟩ h4
theorem chk_iff {e : Bool} {l : List Attr} : chkA e l 0 = 0 ↔ VG e l := by
  rw [chkA_all e l l.length 0 (by omega)]
  constructor
  · intro h
    refine ⟨sorted_of_adj (fun k hk => (h (k + 1) (by omega) hk).2 (by omega)), fun a ha => ?_⟩
    obtain ⟨k, hk, rfl⟩ := mem_getD ha
    exact (h k (by omega) hk).1
  · intro h k _ hk
    refine ⟨h.2 _ (getD_mem hk), fun h0 => ?_⟩
    have := adj_of_sorted h.1 (k - 1) (by omega)
    rw [show k - 1 + 1 = k by omega] at this
    exact this
theorem sameA_self (a : List Attr) : ∀ (n i : Nat), a.length - i = n → sameA a a i = true
  | 0, i, h => by rw [sameA, if_neg (by omega)]
  | n + 1, i, h => by
    have hi : i < a.length := by omega
    rw [sameA, if_pos hi, if_pos ⟨rfl, rfl⟩, sameA_self a n (i + 1) (by omega)]
theorem sameL_self (a : List Attr) : sameL a a = true := by unfold sameL; rw [sameA_self a _ 0 rfl]; simp
end Go.Ch
