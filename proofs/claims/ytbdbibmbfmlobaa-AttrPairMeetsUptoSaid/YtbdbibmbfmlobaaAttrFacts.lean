/- Attributes: the checks of the code are the form of the plain law; what the three laws need. -/
import Derived.Test.YtbdbibmbfmlobaaChAttr3
set_option linter.unusedVariables false
set_option linter.unusedSimpArgs false
namespace Go.Ch
open Go Go.Ab

def NPg (s : ByteArray) : Prop := nameGo s = true
def VPg (s : ByteArray) : Prop := valGo s = true
theorem np_mt : ¬ NPg mt := by
  unfold NPg nameGo
  rw [decide_eq_false (by intro h; have := h.1; simp [ByteArray.size] at this)]
  decide
theorem vp_mt : ¬ VPg mt := by
  unfold VPg valGo
  rw [decide_eq_false (by intro h; have := h.1; simp [ByteArray.size] at this)]
  decide
abbrev VG := V NPg VPg
theorem getD_cons_succ' {a : Attr} {l : List Attr} {k : Nat} : (a :: l).getD (k + 1) default = l.getD k default := by simp [List.getD]
theorem getD_zero' {a : Attr} {l : List Attr} : (a :: l).getD 0 default = a := rfl
theorem sorted_of_adj : ∀ {l : List Attr}, (∀ k, k + 1 < l.length → slt (l.getD k default).name (l.getD (k + 1) default).name = true) → Sorted l
  | [], _ => trivial
  | [a], _ => ⟨fun b hb => (by cases hb), trivial⟩
  | a :: b :: l, h => by
    have ih := sorted_of_adj (l := b :: l) (fun k hk => by have := h (k + 1) (by simp at hk ⊢; omega); simpa using this)
    have h0 := h 0 (by simp)
    simp only [getD_zero', getD_cons_succ'] at h0
    refine ⟨fun c hc => ?_, ih⟩
    rcases List.mem_cons.1 hc with rfl | hc
    · exact h0
    · exact slt_trans h0 (ih.1 c hc)
theorem adj_of_sorted : ∀ {l : List Attr}, Sorted l → ∀ k, k + 1 < l.length → slt (l.getD k default).name (l.getD (k + 1) default).name = true
  | [], _, k, hk => by simp at hk
  | a :: l, h, 0, hk => by
    cases l with
    | nil => simp at hk
    | cons b l => exact h.1 b (by simp)
  | a :: l, h, k + 1, hk => by
    have := adj_of_sorted h.2 k (by simp at hk; omega)
    rw [getD_cons_succ', getD_cons_succ']; exact this
theorem getD_mem {l : List Attr} {k : Nat} (h : k < l.length) : l.getD k default ∈ l := by
  rw [show l.getD k default = l[k] by simp [List.getD, List.getElem?_eq_getElem h]]
  exact List.getElem_mem h
theorem mem_getD {l : List Attr} {a : Attr} (h : a ∈ l) : ∃ k, k < l.length ∧ l.getD k default = a := by
  obtain ⟨k, hk, e⟩ := List.mem_iff_getElem.1 h
  exact ⟨k, hk, by rw [← e]; simp [List.getD, List.getElem?_eq_getElem hk]⟩

theorem chkA_all (e : Bool) (l : List Attr) : ∀ (n i : Nat), l.length - i = n → (chkA e l i = 0 ↔ ∀ k, i ≤ k → k < l.length → Q NPg VPg e (l.getD k default).name (l.getD k default).val ∧ (0 < k → slt (l.getD (k - 1) default).name (l.getD k default).name = true))
  | 0, i, h => by
    rw [chkA, if_neg (by omega)]
    exact ⟨fun _ k h1 h2 => by omega, fun _ => rfl⟩
  | n + 1, i, h => by
    have hi : i < l.length := by omega
    have ih := chkA_all e l n (i + 1) (by omega)
    rw [chkA, if_pos hi]
    have step : (∀ k, i ≤ k → k < l.length → Q NPg VPg e (l.getD k default).name (l.getD k default).val ∧ (0 < k → slt (l.getD (k - 1) default).name (l.getD k default).name = true)) ↔
        (Q NPg VPg e (l.getD i default).name (l.getD i default).val ∧ (0 < i → slt (l.getD (i - 1) default).name (l.getD i default).name = true)) ∧ chkA e l (i + 1) = 0 := by
      rw [ih]
      constructor
      · exact fun h => ⟨h i (Nat.le_refl _) hi, fun k h1 h2 => h k (by omega) h2⟩
      · rintro ⟨h1, h2⟩ k h3 h4
        by_cases e : k = i
        · subst e; exact h1
        · exact h2 k (by omega) h4
    rw [step]
    generalize (l.getD i default) = x
    generalize (l.getD (i - 1) default) = y
    unfold Q NPg VPg
    have hm : seq x.val { data := #[] } = true ↔ x.val = mt := seq_iff
    have hm2 : seq x.val { data := #[] } = false ↔ x.val ≠ mt := seq_no
    simp only [slt_or, hm2]
    cases h1 : nameGo x.name with
    | false => simp
    | true =>
      rw [if_neg (by decide)]
      cases h2 : valGo x.val with
      | false =>
        by_cases h3 : e = false ∨ x.val ≠ mt
        · rw [if_pos ⟨rfl, h3⟩]
          constructor
          · intro h; cases h
          · rintro ⟨⟨⟨_, h | ⟨h, h'⟩⟩, _⟩, _⟩
            · cases h
            · rcases h3 with h3 | h3
              · rw [h3] at h; cases h
              · exact absurd h' h3
        · rw [if_neg (fun h => h3 h.2)]
          have he : e = true := by cases e with | true => rfl | false => exact absurd (.inl rfl) h3
          have hx : x.val = mt := Classical.byContradiction fun h => h3 (.inr h)
          by_cases h4 : 0 < i ∧ slt y.name x.name = false
          · rw [if_pos h4]
            constructor
            · intro h; cases h
            · rintro ⟨⟨_, h⟩, _⟩; rw [h h4.1] at h4; cases h4.2
          · rw [if_neg h4]
            refine ⟨fun h => ⟨⟨⟨rfl, .inr ⟨he, hx⟩⟩, fun h0 => ?_⟩, h⟩, fun h => h.2⟩
            cases h5 : slt y.name x.name with
            | true => rfl
            | false => exact absurd ⟨h0, h5⟩ h4
      | true =>
        rw [if_neg (fun h => by cases h.1)]
        by_cases h4 : 0 < i ∧ slt y.name x.name = false
        · rw [if_pos h4]
          constructor
          · intro h; cases h
          · rintro ⟨⟨_, h⟩, _⟩; rw [h h4.1] at h4; cases h4.2
        · rw [if_neg h4]
          refine ⟨fun h => ⟨⟨⟨rfl, .inl rfl⟩, fun h0 => ?_⟩, h⟩, fun h => h.2⟩
          cases h5 : slt y.name x.name with
          | true => rfl
          | false => exact absurd ⟨h0, h5⟩ h4
theorem chk_iff {e : Bool} {l : List Attr} : chkA e l 0 = 0 ↔ VG e l := by
  rw [chkA_all e l l.length 0 (by omega)]
  constructor
  · intro h
    refine ⟨sorted_of_adj (fun k hk => (h (k + 1) (by omega) hk).2 (by omega)), fun a ha => ?_⟩
    obtain ⟨k, hk, rfl⟩ := mem_getD ha
    exact (h k (by omega) hk).1
  · intro h k _ hk
    refine ⟨h.2 _ (getD_mem hk), fun h0 => ?_⟩
    have := adj_of_sorted h.1 (k - 1) (by omega)
    rw [show k - 1 + 1 = k by omega] at this
    exact this
theorem err_iff {e : Bool} {l : List Attr} : errA e l 0 = 0 ↔ VG e l := by rw [errA_eq e l _ 0 rfl]; exact chk_iff

theorem sameA_self (a : List Attr) : ∀ (n i : Nat), a.length - i = n → sameA a a i = true
  | 0, i, h => by rw [sameA, if_neg (by omega)]
  | n + 1, i, h => by
    have hi : i < a.length := by omega
    rw [sameA, if_pos hi, if_pos ⟨rfl, rfl⟩, sameA_self a n (i + 1) (by omega)]
theorem sameL_self (a : List Attr) : sameL a a = true := by unfold sameL; rw [sameA_self a _ 0 rfl]; simp
theorem getA_look (l : List Attr) (x : ByteArray) : ∀ (n i : Nat), l.length - i = n → getA l x i = (look (l.drop i) x).getD mt
  | 0, i, h => by rw [getA, if_neg (by omega), drop_end (by omega)]; rfl
  | n + 1, i, h => by
    have hi : i < l.length := by omega
    rw [getA, if_pos hi, drop_at hi, look]
    split
    · rfl
    · exact getA_look l x n (i + 1) (by omega)
theorem getA_eq (l : List Attr) (x : ByteArray) : getA l x 0 = (look l x).getD mt := getA_look l x _ 0 rfl

theorem apply_ok {l c : List Attr} (hl : VG false l) (hc : VG true c) : applyL l c = fm rawG l c ∧ applyE l c = 0 := by
  unfold applyL applyE
  rw [if_pos ⟨chk_iff.2 hl, chk_iff.2 hc⟩, if_pos (chk_iff.2 hl)]
  exact ⟨rfl, chk_iff.2 hc⟩
theorem law2_facts {l c : List Attr} (h1 : errA false l 0 = 0) (h2 : errA true c 0 = 0) :
    applyE l c = 0 ∧ applyE (applyL l c) (undoL l c) = 0 ∧ sameL (applyL (applyL l c) (undoL l c)) l = true := by
  have hl := err_iff.1 h1
  have hc := err_iff.1 h2
  obtain ⟨a1, a2⟩ := apply_ok hl hc
  have hm := raw_V np_mt hl hc
  have hu := chg_V np_mt hm hl
  have u1 : undoL l c = fm chgG (fm rawG l c) l := by unfold undoL; rw [if_pos a2, a1]
  obtain ⟨b1, b2⟩ := apply_ok hm hu
  rw [a1, u1]
  exact ⟨a2, b2, by rw [b1, undo_back np_mt vp_mt hl hc]; exact sameL_self _⟩
theorem law3_facts {a b : List Attr} (h1 : errA false a 0 = 0) (h2 : errA false b 0 = 0) :
    betE a b = 0 ∧ applyE a (betL a b) = 0 ∧ sameL (applyL a (betL a b)) b = true ∧ ∀ i, i < (betL a b).length → getA a ((betL a b).getD i default).name 0 ≠ getA b ((betL a b).getD i default).name 0 := by
  have ha := err_iff.1 h1
  have hb := err_iff.1 h2
  have e1 : betL a b = fm chgG a b := by unfold betL; rw [if_pos ⟨chk_iff.2 ha, chk_iff.2 hb⟩]
  have e2 : betE a b = 0 := by unfold betE; rw [if_pos (chk_iff.2 ha)]; exact chk_iff.2 hb
  have hc := chg_V np_mt ha hb
  obtain ⟨b1, b2⟩ := apply_ok ha hc
  rw [e1]
  refine ⟨e2, b2, by rw [b1, between_leads np_mt vp_mt ha hb]; exact sameL_self _, fun i hi => ?_⟩
  rw [getA_eq, getA_eq]
  exact between_differs np_mt vp_mt ha hb (getD_mem hi)
theorem law4_facts {l a b : List Attr} (h1 : errA false l 0 = 0) (h2 : errA true a 0 = 0) (h3 : errA true b 0 = 0) :
    joinE a b = 0 ∧ sameL (applyL (applyL l a) (pairR a b)) (applyL (applyL l b) (pairL a b)) = true ∧ sameL (applyL l (joinL a b)) (applyL (applyL l a) b) = true := by
  have hl := err_iff.1 h1
  have ha := err_iff.1 h2
  have hb := err_iff.1 h3
  have c1 := chk_iff.2 ha
  have c2 := chk_iff.2 hb
  have e1 : joinE a b = 0 := by unfold joinE; rw [if_pos c1]; exact c2
  have e2 : joinL a b = fm botG a b := by unfold joinL; rw [if_pos ⟨c1, c2⟩]
  have e3 : pairL a b = fm wioG a b := by unfold pairL; rw [if_pos ⟨c1, c2⟩]
  have e4 : pairR a b = b := by unfold pairR; rw [if_pos ⟨c1, c2⟩]
  have v1 := raw_V np_mt hl ha
  have v2 := raw_V np_mt hl hb
  have v3 := wio_V np_mt ha hb
  have v4 := bot_V np_mt ha hb
  rw [e2, e3, e4, (apply_ok hl ha).1, (apply_ok hl hb).1, (apply_ok hl v4).1, (apply_ok v1 hb).1, (apply_ok v2 v3).1]
  refine ⟨e1, ?_, ?_⟩
  · rw [pair_meets np_mt hl ha hb]; exact sameL_self _
  · rw [join_acts np_mt hl ha hb]; exact sameL_self _
/-- The probe: one attribute goes, another one comes. -/
theorem probe : applyL [⟨{ data := #[97] }, { data := #[49] }⟩] [⟨{ data := #[97] }, { data := #[] }⟩, ⟨{ data := #[99] }, { data := #[51] }⟩] = [⟨{ data := #[99] }, { data := #[51] }⟩] ∧
    applyE [⟨{ data := #[97] }, { data := #[49] }⟩] [⟨{ data := #[97] }, { data := #[] }⟩, ⟨{ data := #[99] }, { data := #[51] }⟩] = 0 := by
  have one : ∀ b : UInt8, 97 ≤ b.toNat → b.toNat ≤ 122 → NPg { data := #[b] } := by
    intro b h1 h2
    have e : byt { data := #[b] } 0 = b.toNat := rfl
    have z : ({ data := #[b] } : ByteArray).size = 1 := rfl
    unfold NPg nameGo
    rw [nmS, nmS, e, z, decide_eq_true (by omega), if_pos (by omega), if_neg (by unfold badC; omega), if_neg (by omega)]
    rfl
  have dig : ∀ b : UInt8, 32 ≤ b.toNat → b.toNat ≤ 126 → VPg { data := #[b] } := by
    intro b h1 h2
    have e : byt { data := #[b] } 0 = b.toNat := rfl
    have z : ({ data := #[b] } : ByteArray).size = 1 := rfl
    unfold VPg valGo
    rw [vlS, vlS, e, z, decide_eq_true (by omega), if_pos (by omega), if_neg (by omega), if_neg (by omega)]
    rfl
  have n1 : NPg { data := #[97] } := one 97 (by decide) (by decide)
  have n2 : NPg { data := #[99] } := one 99 (by decide) (by decide)
  have v1 : VPg { data := #[49] } := dig 49 (by decide) (by decide)
  have v2 : VPg { data := #[51] } := dig 51 (by decide) (by decide)
  have s1 : slt { data := #[97] } { data := #[99] } = true := by unfold slt; rw [ByteArray.toList_eq, ByteArray.toList_eq]; decide
  have hl : VG false [⟨{ data := #[97] }, { data := #[49] }⟩] := ⟨⟨fun a h => (by cases h), trivial⟩, fun a h => by rw [List.mem_singleton] at h; subst h; exact ⟨n1, .inl v1⟩⟩
  have hc : VG true [⟨{ data := #[97] }, { data := #[] }⟩, ⟨{ data := #[99] }, { data := #[51] }⟩] := by
    refine ⟨⟨fun a h => ?_, fun a h => (by cases h), trivial⟩, fun a h => ?_⟩
    · rw [List.mem_singleton] at h; subst h; exact s1
    · simp only [List.mem_cons, List.not_mem_nil, or_false] at h
      rcases h with rfl | rfl
      · exact ⟨n1, .inr ⟨rfl, rfl⟩⟩
      · exact ⟨n2, .inl v2⟩
  obtain ⟨a1, a2⟩ := apply_ok hl hc
  refine ⟨a1.trans ?_, a2⟩
  have ne : ({ data := #[97] } : ByteArray) ≠ mt := fun e => np_mt (e ▸ n1)
  have ne2 : ({ data := #[99] } : ByteArray) ≠ mt := fun e => np_mt (e ▸ n2)
  have ne3 : ({ data := #[51] } : ByteArray) ≠ mt := fun e => vp_mt (e ▸ v2)
  unfold fm
  rw [bothL, if_neg (by rw [slt_irr]; decide), if_neg (by rw [slt_irr]; decide), bothL, bothL]
  simp [rawG, ne, ne2, ne3]
end Go.Ch
