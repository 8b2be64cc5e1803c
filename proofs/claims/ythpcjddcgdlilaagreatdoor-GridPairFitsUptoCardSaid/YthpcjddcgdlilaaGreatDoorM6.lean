/- What the axis laws need of fitting changes, joining, rebasing, undoing. -/
import Derived.Test.YthpcjddcgdlilaaGreatDoorM1
import Derived.Test.YthpcjddcgdlilaaGreatDoorM2
import Derived.Test.YthpcjddcgdlilaaGreatDoorM3
import Derived.Test.YthpcjddcgdlilaaGreatDoorM4
import Derived.Test.YthpcjddcgdlilaaGreatDoorM5
section
set_option linter.unusedVariables false
set_option linter.unusedSimpArgs false
namespace Go.Ch
open Go Go.Ab

/-! ### Steps of units -/
theorem segE_cls (u : List Int) (i k : Nat) (hik : i ≤ k) (h : ∀ j, i ≤ j → j < k → (u.getD j default = 0 ↔ u.getD i default = 0)) : (∀ j, i ≤ j → j < segE u i k → (u.getD j default = 0 ↔ u.getD i default = 0)) ∧
    (segE u i k < u.length → ¬ (u.getD (segE u i k) default = 0 ↔ u.getD i default = 0)) := by
  induction k using segE.induct (u := u) (i := i) with
  | case1 k hc ih =>
    rw [segE, if_pos hc]
    refine ih (by omega) (fun j h1 h2 => ?_)
    by_cases e : j = k
    · subst e; exact hc.2
    · exact h j h1 (by omega)
  | case2 k hc =>
    rw [segE, if_neg hc]
    exact ⟨h, fun hk hh => hc ⟨hk, hh⟩⟩
def segL (u : List Int) (i k : Nat) : List Int := (u.drop i).take (k - i)
theorem segL_mem {u : List Int} {i k : Nat} (hk : k ≤ u.length) {x : Int} (h : x ∈ segL u i k) : ∃ j, i ≤ j ∧ j < k ∧ u.getD j default = x := by
  unfold segL at h
  obtain ⟨m, hm, e⟩ := List.mem_iff_getElem.1 h
  simp only [List.length_take, List.length_drop] at hm
  refine ⟨i + m, by omega, by omega, ?_⟩
  rw [← e]
  simp [List.getD, List.getElem?_eq_getElem (show i + m < u.length by omega)]
theorem take_seg {u : List Int} {i k : Nat} (h : i ≤ k) : u.take k = u.take i ++ segL u i k := by
  unfold segL
  rw [show k = i + (k - i) by omega, List.take_add]
  simp
theorem sw_seg : ∀ {l : List Int}, (∀ x ∈ l, x = 1 ∨ x = 2) → Sw (l.map uOf) (rep (l.countP fun y => decide (y = 1)) .A ++ rep (l.countP fun y => decide (y = 2)) .C)
  | [], _ => .refl _
  | x :: l, h => by
    have ih := sw_seg (l := l) (fun y hy => h y (by simp [hy]))
    rcases h x (by simp) with rfl | rfl
    · simp only [List.map_cons, List.countP_cons]
      exact .cons _ ih
    · simp only [List.map_cons, List.countP_cons]
      refine .trans (.cons _ ih) ?_
      have := sw_C_As (l.countP fun y => decide (y = 1)) (rep (l.countP fun y => decide (y = 2)) .C)
      exact this
theorem seg_zero : ∀ {l : List Int}, (∀ x ∈ l, x = 0) → l.map uOf = rep l.length .K ∧ (l.countP fun y => decide (y = 0)) = l.length ∧ (l.countP fun y => decide (y = 1)) = 0 ∧ (l.countP fun y => decide (y = 2)) = 0
  | [], _ => ⟨rfl, rfl, rfl, rfl⟩
  | x :: l, h => by
    obtain ⟨a, b, c, d⟩ := seg_zero (l := l) (fun y hy => h y (by simp [hy]))
    have := h x (by simp)
    subst this
    refine ⟨by rw [List.map_cons, a]; rfl, by simp [List.countP_cons, b], by simp [List.countP_cons, c], by simp [List.countP_cons, d]⟩
theorem seg_nz : ∀ {l : List Int}, (∀ x ∈ l, x = 1 ∨ x = 2) → (l.countP fun y => decide (y = 0)) = 0 ∧ (l.countP fun y => decide (y = 1)) + (l.countP fun y => decide (y = 2)) = l.length
  | [], _ => ⟨rfl, rfl⟩
  | x :: l, h => by
    obtain ⟨a, b⟩ := seg_nz (l := l) (fun y hy => h y (by simp [hy]))
    rcases h x (by simp) with rfl | rfl
    · exact ⟨by simp [List.countP_cons, a], by simp [List.countP_cons]; omega⟩
    · exact ⟨by simp [List.countP_cons, a], by simp [List.countP_cons]; omega⟩
theorem ex_o1 (k : Int) (n : Nat) : ex (o1 k n) = rep n (uOf k) := by
  unfold o1
  split
  · simp [ex]
  · rw [show n = 0 by omega]; rfl
structure StI (u : List Int) (i : Nat) (out : List AxStep) : Prop where
  form : Form out
  sw : Sw (ex out) ((u.take i).map uOf)
  link : i < u.length → ∀ t, out.getLast? = some t → (t.kind = 0 ↔ u.getD i default ≠ 0)
theorem stepsL_ok {u : List Int} (hu : U3 u) : ∀ (m i : Nat) (out : List AxStep), u.length - i = m → i ≤ u.length → StI u i out → Form (stepsL u i out) ∧ Sw (ex (stepsL u i out)) (u.map uOf) := by
  intro m
  induction m using Nat.strongRecOn with
  | _ m ih =>
    intro i out hm hi h
    rw [stepsL]
    by_cases hlt : i < u.length
    rotate_left
    · rw [dif_neg hlt]
      have : u.take i = u := List.take_of_length_le (by omega)
      exact ⟨h.form, this ▸ h.sw⟩
    rw [dif_pos hlt]
    have hg := segE_gt u i hlt
    have hle := segE_le u i i hi
    obtain ⟨c1, c2⟩ := segE_cls u i i (Nat.le_refl _) (fun j h1 h2 => by omega)
    generalize segE u i i = k at *
    refine ih (u.length - k) (by omega) k _ rfl hle ?_
    have hu3 := hu3_of hu hlt
    have hmem : ∀ x ∈ segL u i k, (x = 0 ↔ u.getD i default = 0) ∧ (x = 0 ∨ x = 1 ∨ x = 2) := by
      intro x hx
      obtain ⟨j, j1, j2, e⟩ := segL_mem hle hx
      rw [← e]
      exact ⟨c1 j j1 j2, hu3_of hu (by omega)⟩
    have hsl : (segL u i k).length = k - i := by unfold segL; simp; omega
    have hc : ∀ x, cntX u i k x = (segL u i k).countP fun y => decide (y = x) := fun x => rfl
    rw [hc, hc, hc]
    have htk := take_seg (u := u) (Nat.le_of_lt hg)
    by_cases h0 : u.getD i default = 0
    · obtain ⟨s1, s2, s3, s4⟩ := seg_zero (l := segL u i k) (fun x hx => (hmem x hx).1.2 h0)
      rw [s2, s3, s4]
      have eo : o3 (segL u i k).length 0 0 = [⟨0, ((segL u i k).length : Int)⟩] := by
        unfold o3 o1; rw [if_pos (by omega)]; rfl
      rw [eo]
      refine ⟨form_snoc h.form (ok1_mk (by decide) (by omega)) (fun t ht => ?_), ?_, fun hk t ht => ?_⟩
      · have := h.link hlt t ht
        exact nx_mk (fun e => this.1 e h0) (by omega)
      · rw [htk, List.map_append, s1, ex_app]
        refine .trans (.right _ h.sw) (.of_eq ?_)
        simp [ex, uOf]
      · rw [List.getLast?_concat] at ht
        cases ht
        refine ⟨fun _ e => c2 hk ⟨fun _ => h0, fun _ => e⟩, fun _ => rfl⟩
    · have hnz : ∀ x ∈ segL u i k, x = 1 ∨ x = 2 := fun x hx => by
        obtain ⟨q1, q2⟩ := hmem x hx
        rcases q2 with q | q | q
        · exact absurd (q1.1 q) h0
        · exact .inl q
        · exact .inr q
      obtain ⟨z1, z2⟩ := seg_nz hnz
      have sw := sw_seg hnz
      rw [z1]
      generalize ((segL u i k).countP fun y => decide (y = 1)) = p at *
      generalize ((segL u i k).countP fun y => decide (y = 2)) = q at *
      have hlast : ∀ t, out.getLast? = some t → t.kind = 0 := fun t ht => (h.link hlt t ht).2 h0
      have f1 : Form (out ++ o1 1 p) := by
        unfold o1
        split
        · exact form_snoc h.form (ok1_mk (by decide) (by omega)) (fun t ht => nx_mk (by rw [hlast t ht]; decide) (by rw [hlast t ht]; decide))
        · rw [List.append_nil]; exact h.form
      have l1 : ∀ t, (out ++ o1 1 p).getLast? = some t → t.kind = 0 ∨ t.kind = 1 := by
        intro t ht
        unfold o1 at ht
        split at ht
        · rw [List.getLast?_concat] at ht; cases ht; exact .inr rfl
        · rw [List.append_nil] at ht; exact .inl (hlast t ht)
      have f2 : Form (out ++ o1 1 p ++ o1 2 q) := by
        unfold o1 at f1 l1 ⊢
        by_cases hq : 0 < q
        · rw [if_pos hq]
          exact form_snoc f1 (ok1_mk (by decide) (by omega)) (fun t ht => nx_mk (by rcases l1 t ht with e | e <;> rw [e] <;> decide) (by rcases l1 t ht with e | e <;> rw [e] <;> decide))
        · rw [if_neg hq, List.append_nil]; exact f1
      have eo : out ++ o3 0 p q = out ++ o1 1 p ++ o1 2 q := by unfold o3; simp [o1]
      rw [eo]
      refine ⟨f2, ?_, fun hk t ht => ?_⟩
      · rw [htk, List.map_append, ex_app, ex_app, ex_o1, ex_o1, List.append_assoc]
        exact .trans (.left _ (.symm sw)) (.right _ h.sw)
      · have hk2 : u.getD k default = 0 := by
          refine Classical.byContradiction fun e => c2 hk ⟨fun e' => absurd e' e, fun e' => absurd e' h0⟩
        have : t.kind ≠ 0 := by
          unfold o1 at ht
          by_cases hq : 0 < q
          · rw [if_pos hq, List.getLast?_concat] at ht; cases ht; simp only; decide
          · rw [if_neg hq, List.append_nil] at ht
            rw [if_pos (by omega), List.getLast?_concat] at ht; cases ht; simp only; decide
        exact ⟨fun e => absurd e this, fun e => absurd hk2 e⟩

/-! ### Fitting changes -/
theorem old_app (a b : List U) : oldU (a ++ b) = oldU a + oldU b := by
  induction a with
  | nil => simp [oldU]
  | cons x a ih => cases x <;> simp only [List.cons_append, oldU, ih] <;> omega
theorem new_len (u : List U) : newU u ≤ u.length := by
  induction u with
  | nil => simp [newU]
  | cons x u ih => cases x <;> simp only [newU, List.length_cons] <;> omega
theorem fitA_ok {u : List Int} {v : Int} (h : U3 u) (hv : v ≤ 5) : U3 (fitA u v) ∧ oldU ((fitA u v).map uOf) = oldU (u.map uOf) ∧ (fitA u v).length ≤ u.length + 2 := by
  unfold fitA
  refine ⟨h.app (U3.reps _), ?_, by simp; omega⟩
  rw [List.map_append, old_app, List.map_replicate]
  have := old_A (max 0 (v - 3)).toNat []
  simp only [List.append_nil, oldU] at this
  show _ + oldU (rep _ (uOf 1)) = _
  rw [uOf1, this]; rfl
theorem fitL_ok (raw : List Int) : ∀ (r : Nat) (used : Int) (u : List Int), U3 u → U3 (fitL raw r used u).1 ∧ oldU ((fitL raw r used u).1.map uOf) = oldU (u.map uOf) + r ∧ (fitL raw r used u).1.length ≤ u.length + 3 * r
  | 0, used, u, h => ⟨h, rfl, by simp [fitL]⟩
  | r + 1, used, u, h => by
    rw [fitL]
    have v1 := rollV_bd raw used (n := 6) (by decide)
    obtain ⟨a1, a2, a3⟩ := fitA_ok (v := rollV raw used 6) h (by omega)
    have hx : U3 [if rollV raw (rollU raw used) 6 = 0 then (2 : Int) else 0] := U3.one (by split <;> decide)
    obtain ⟨b1, b2, b3⟩ := fitL_ok raw r (rollU raw (rollU raw used)) _ (a1.app hx)
    refine ⟨b1, ?_, ?_⟩
    · rw [b2, List.map_append, old_app, a2]
      have : oldU ([if rollV raw (rollU raw used) 6 = 0 then (2 : Int) else 0].map uOf) = 1 := by
        split <;> rfl
      rw [this]; omega
    · simp only [List.length_append, List.length_cons, List.length_nil] at b3
      omega
theorem fit_ok (raw : List Int) (n : Int) (h0 : 0 ≤ n) (h1 : n ≤ 100000000) : Valid (stepsL (fitU raw n.toNat) 0 []) ∧ oldI (stepsL (fitU raw n.toNat) 0 []) = n ∧ 0 ≤ newI (stepsL (fitU raw n.toNat) 0 []) ∧ newI (stepsL (fitU raw n.toNat) 0 []) ≤ 3 * n + 2 := by
  obtain ⟨a1, a2, a3⟩ := fitL_ok raw n.toNat 0 [] (fun x hx => (by cases hx))
  have v1 := rollV_bd raw (fitL raw n.toNat 0 []).2 (n := 6) (by decide)
  obtain ⟨b1, b2, b3⟩ := fitA_ok (v := rollV raw (fitL raw n.toNat 0 []).2 6) a1 (by omega)
  have e : fitU raw n.toNat = fitA (fitL raw n.toNat 0 []).1 (rollV raw (fitL raw n.toNat 0 []).2 6) := rfl
  rw [← e] at b1 b2 b3
  obtain ⟨f, s⟩ := stepsL_ok b1 _ 0 [] rfl (by omega) ⟨trivial, .refl _, fun _ t ht => (by cases ht)⟩
  obtain ⟨o1, o2⟩ := sw_old s
  have hl := new_len ((fitU raw n.toNat).map uOf)
  simp only [List.length_map] at hl
  simp only [List.length_nil, List.map_nil, oldU] at a2 a3
  unfold Valid oldI newI
  refine ⟨⟨f, by omega, by omega⟩, by omega, by omega, by omega⟩

/-! ### The laws -/
theorem pairU_len (n : Nat) : ∀ (p q : List U), p.length + q.length ≤ n → (pairU p q).1.length ≤ p.length + q.length ∧ (pairU p q).2.length ≤ p.length + q.length := by
  induction n with
  | zero =>
    intro p q hn
    have h1 : p = [] := List.length_eq_zero_iff.1 (by omega)
    have h2 : q = [] := List.length_eq_zero_iff.1 (by omega)
    subst h1; subst h2; simp [pairU]
  | succ n ih =>
    intro p q hn
    match p, q with
    | .A :: p, q => have := ih p q (by simp at hn; omega); simp only [pairU, List.length_cons]; omega
    | [], .A :: q => have := ih [] q (by simp at hn; simp; omega); simp only [pairU, List.length_cons, List.length_nil] at this ⊢; omega
    | .K :: p, .A :: q => have := ih (.K :: p) q (by simp at hn ⊢; omega); simp only [pairU, List.length_cons] at this ⊢; omega
    | .C :: p, .A :: q => have := ih (.C :: p) q (by simp at hn ⊢; omega); simp only [pairU, List.length_cons] at this ⊢; omega
    | .K :: p, .K :: q => have := ih p q (by simp at hn; omega); simp only [pairU, List.length_cons]; omega
    | .K :: p, .C :: q => have := ih p q (by simp at hn; omega); simp only [pairU, List.length_cons]; omega
    | .C :: p, .K :: q => have := ih p q (by simp at hn; omega); simp only [pairU, List.length_cons]; omega
    | .C :: p, .C :: q => have := ih p q (by simp at hn; omega); simp only [pairU, List.length_cons]; omega
    | [], [] => simp [pairU]
    | [], .K :: q => simp [pairU]
    | [], .C :: q => simp [pairU]
    | .K :: p, [] => simp [pairU]
    | .C :: p, [] => simp [pairU]
theorem pairX_ok {a b : List AxStep} (va : Valid a) (vb : Valid b) (hm : oldI a = oldI b) (hl : (ex a).length + (ex b).length ≤ 2147483647) :
    Valid (pairX1 a b) ∧ Valid (pairX2 a b) ∧ newI a = oldI (pairX2 a b) ∧ newI b = oldI (pairX1 a b) ∧ joinX a (pairX2 a b) = joinX b (pairX1 a b) := by
  have hm' : oldU (ex a) = oldU (ex b) := by unfold oldI at hm; omega
  obtain ⟨m1, m2, m3, m4⟩ := pairU_meets _ (ex a) (ex b) (Nat.le_refl _) hm'
  obtain ⟨l1, l2⟩ := pairU_len _ (ex a) (ex b) (Nat.le_refl _)
  obtain ⟨f1, s1⟩ := doneW_ok (pairU (ex a) (ex b)).1
  obtain ⟨f2, s2⟩ := doneW_ok (pairU (ex a) (ex b)).2
  obtain ⟨o1, n1⟩ := sw_old s1
  obtain ⟨o2, n2⟩ := sw_old s2
  have k1 := new_len (pairU (ex a) (ex b)).1
  have k2 := new_len (pairU (ex a) (ex b)).2
  have h1 := va.2.2
  have h2 := vb.2.2
  unfold pairX1 pairX2 oldI newI
  refine ⟨⟨f1, by omega, by omega⟩, ⟨f2, by omega, by omega⟩, by omega, by omega, ?_⟩
  refine form_unique (doneW_ok _).1 (doneW_ok _).1 (.trans (doneW_ok _).2 (.trans ?_ (.symm (doneW_ok _).2)))
  exact .trans (joinU_right s2 _) (.trans m1 (.symm (joinU_right s1 _)))
theorem ex_le {l : List AxStep} (h : Valid l) {m : Int} (ho : oldI l ≤ m) (hn : newI l ≤ m) : ((ex l).length : Int) ≤ 2 * m := by
  have := ex_len l
  unfold oldI newI at *
  omega
end Go.Ch
end
section
set_option linter.unusedVariables false
set_option linter.unusedSimpArgs false
namespace Go.Ch
open Go Go.Ab

def placeS : List AxStep → Int → Int → Int → Int
  | [], _, _, _ => -1
  | s :: l, p, fr, tq => if s.kind = 1 then placeS l p fr (tq + s.n) else if s.kind = 0 then (if p < fr + s.n then tq + p - fr else placeS l p (fr + s.n) (tq + s.n)) else (if p < fr + s.n then -1 else placeS l p (fr + s.n) tq)
def gapS : List AxStep → Int → Bool → Int → Int → Int
  | [], _, _, _, tq => tq
  | s :: l, at_, r, fr, tq => gapS l at_ r (if s.kind = 1 then fr else fr + s.n) (if s.kind = 1 ∧ (fr < at_ ∨ (fr = at_ ∧ r = true)) then tq + s.n else if s.kind = 0 then tq + min s.n (max 0 (at_ - fr)) else tq)
def hullS : List AxStep → Int → Int → Int → Int → Int → Int → Int × Int
  | [], _, _, first, last, _, _ => (first, last)
  | s :: l, f, t, first, last, old, now =>
    hullS l f t (if (s.kind = 0 ∧ max f old < min t (old + s.n)) ∧ last = 0 then now + max f old - old else first) (if s.kind = 0 ∧ max f old < min t (old + s.n) then now + min t (old + s.n) - old else last)
      (if s.kind = 1 then old else old + s.n) (if s.kind = 2 then now else now + s.n)

theorem gap_ge : ∀ {l : List AxStep} (hl : Form l) (a : Int) (r : Bool) (fr tq : Int), tq ≤ gapS l a r fr tq
  | [], _, a, r, fr, tq => Int.le_refl _
  | s :: l, hl, a, r, fr, tq => by
    have ih := gap_ge hl.tail a r (if s.kind = 1 then fr else fr + s.n) (if s.kind = 1 ∧ (fr < a ∨ (fr = a ∧ r = true)) then tq + s.n else if s.kind = 0 then tq + min s.n (max 0 (a - fr)) else tq)
    have hn := hl.head.2.2
    rw [gapS]
    refine Int.le_trans ?_ ih
    split
    · omega
    · split <;> omega
theorem gap_mono : ∀ {l : List AxStep} (hl : Form l) (a fr tq tq' : Int), tq ≤ tq' → gapS l a false fr tq ≤ gapS l a true fr tq'
  | [], _, a, fr, tq, tq', h => h
  | s :: l, hl, a, fr, tq, tq', h => by
    have hn := hl.head.2.2
    rw [gapS, gapS]
    refine gap_mono hl.tail a _ _ _ ?_
    by_cases k1 : s.kind = 1
    · by_cases c : fr < a
      · rw [if_pos ⟨k1, .inl c⟩, if_pos ⟨k1, .inl c⟩]; omega
      · have n1 : ¬ (s.kind = 1 ∧ (fr < a ∨ (fr = a ∧ false = true))) := by
          rintro ⟨_, h | h⟩
          · omega
          · cases h.2
        have k0 : ¬ s.kind = 0 := by omega
        rw [if_neg n1, if_neg k0]
        split
        · omega
        · exact h
    · rw [if_neg (show ¬ (s.kind = 1 ∧ (fr < a ∨ (fr = a ∧ false = true))) from fun e => k1 e.1), if_neg (show ¬ (s.kind = 1 ∧ (fr < a ∨ (fr = a ∧ true = true))) from fun e => k1 e.1)]
      split <;> omega
theorem gap_past : ∀ {l : List AxStep} (hl : Form l) (a : Int) (r : Bool) (fr tq : Int), a < fr → gapS l a r fr tq = tq
  | [], _, a, r, fr, tq, h => rfl
  | s :: l, hl, a, r, fr, tq, h => by
    have hn := hl.head.2.2
    rw [gapS, if_neg (by omega : ¬ (s.kind = 1 ∧ (fr < a ∨ (fr = a ∧ r = true))))]
    rw [gap_past hl.tail a r _ _ (by split <;> omega)]
    split <;> omega
theorem place_ge : ∀ {l : List AxStep} (hl : Form l) (p fr tq : Int), 0 ≤ tq → fr ≤ p → -1 ≤ placeS l p fr tq
  | [], _, p, fr, tq, h, _ => by simp [placeS]
  | s :: l, hl, p, fr, tq, h, hp => by
    have hn := hl.head.2.2
    rw [placeS]
    split
    · exact place_ge hl.tail p fr _ (by omega) hp
    · split
      · split
        · omega
        · exact place_ge hl.tail p _ _ (by omega) (by omega)
      · split
        · omega
        · exact place_ge hl.tail p _ _ h (by omega)
/-- A row that is kept is behind what is added at its gap. -/
theorem gap_place : ∀ {l : List AxStep} (hl : Form l) (p fr tq : Int), fr ≤ p → 0 ≤ placeS l p fr tq → gapS l p true fr tq ≤ placeS l p fr tq
  | [], _, p, fr, tq, h, h0 => by simp [placeS] at h0
  | s :: l, hl, p, fr, tq, h, h0 => by
    have hn := hl.head.2.2
    have hk := kinds hl.head
    rw [placeS] at h0 ⊢
    rw [gapS]
    by_cases k1 : s.kind = 1
    · rw [if_pos k1] at h0 ⊢
      rw [if_pos k1, if_pos ⟨k1, by rcases Int.lt_or_eq_of_le h with h | h; exact .inl h; exact .inr ⟨h, rfl⟩⟩]
      exact gap_place hl.tail p fr _ h h0
    · rw [if_neg k1] at h0 ⊢
      rw [if_neg k1, if_neg (by omega : ¬ (s.kind = 1 ∧ (fr < p ∨ (fr = p ∧ true = true))))]
      by_cases k0 : s.kind = 0
      · rw [if_pos k0] at h0 ⊢
        rw [if_pos k0]
        by_cases c : p < fr + s.n
        · rw [if_pos c] at h0 ⊢
          rw [gap_past hl.tail p true _ _ (by omega)]; omega
        · rw [if_neg c] at h0 ⊢
          rw [show min s.n (max 0 (p - fr)) = s.n by omega]
          exact gap_place hl.tail p _ _ (by omega) h0
      · rw [if_neg k0] at h0 ⊢
        rw [if_neg k0]
        by_cases c : p < fr + s.n
        · rw [if_pos c] at h0; omega
        · rw [if_neg c] at h0 ⊢
          exact gap_place hl.tail p _ _ (by omega) h0
/-- A gap is behind the kept rows before it. -/
theorem place_gap : ∀ {l : List AxStep} (hl : Form l) (p q fr tq : Int), fr ≤ p → p < q → 0 ≤ placeS l p fr tq → placeS l p fr tq + 1 ≤ gapS l q false fr tq
  | [], _, p, q, fr, tq, h, hq, h0 => by simp [placeS] at h0
  | s :: l, hl, p, q, fr, tq, h, hq, h0 => by
    have hn := hl.head.2.2
    rw [placeS] at h0 ⊢
    rw [gapS]
    by_cases k1 : s.kind = 1
    · rw [if_pos k1] at h0 ⊢
      rw [if_pos k1, if_pos ⟨k1, by omega⟩]
      exact place_gap hl.tail p q fr _ h hq h0
    · rw [if_neg k1] at h0 ⊢
      rw [if_neg k1, if_neg (by omega : ¬ (s.kind = 1 ∧ (fr < q ∨ (fr = q ∧ false = true))))]
      by_cases k0 : s.kind = 0
      · rw [if_pos k0] at h0 ⊢
        rw [if_pos k0]
        by_cases c : p < fr + s.n
        · rw [if_pos c] at h0 ⊢
          have := gap_ge hl.tail q false (fr + s.n) (tq + min s.n (max 0 (q - fr)))
          omega
        · rw [if_neg c] at h0 ⊢
          rw [show min s.n (max 0 (q - fr)) = s.n by omega]
          exact place_gap hl.tail p q _ _ (by omega) hq h0
      · rw [if_neg k0] at h0 ⊢
        rw [if_neg k0]
        by_cases c : p < fr + s.n
        · rw [if_pos c] at h0; omega
        · rw [if_neg c] at h0 ⊢
          exact place_gap hl.tail p q _ _ (by omega) hq h0
theorem hull_keep : ∀ {l : List AxStep} (hl : Form l) (f t first last old now : Int), 0 < last → last ≤ now → (hullS l f t first last old now).1 = first ∧ last ≤ (hullS l f t first last old now).2
  | [], _, f, t, first, last, old, now, h, h2 => ⟨rfl, Int.le_refl _⟩
  | s :: l, hl, f, t, first, last, old, now, h, h2 => by
    have hn := hl.head.2.2
    rw [hullS, if_neg (by omega : ¬ ((s.kind = 0 ∧ max f old < min t (old + s.n)) ∧ last = 0))]
    by_cases c : s.kind = 0 ∧ max f old < min t (old + s.n)
    · rw [if_pos c, if_neg (show ¬ s.kind = 2 by omega)]
      have ih := hull_keep hl.tail f t first (now + min t (old + s.n) - old) (if s.kind = 1 then old else old + s.n) (now + s.n) (by omega) (by omega)
      exact ⟨ih.1, by have := ih.2; omega⟩
    · rw [if_neg c]
      exact hull_keep hl.tail f t first last _ _ h (by split <;> omega)
end Go.Ch
end
section
set_option linter.unusedVariables false
set_option linter.unusedSimpArgs false
set_option maxRecDepth 100000
set_option maxHeartbeats 4000000
open Go Go.Proofs Go.Ab
namespace Go.Ch
theorem fc_place (l : List AxStep) (p : Int) (hv : Valid l) (hp : 0 ≤ p ∧ p ≤ 2147483647) : FC Tryz.prog 95 [VL 2 stepT l, VI p] (app emp []) (VI (placeS l p 0 0)) (app emp []) := by
 refine .go Tryz.f95 ?_
 refine .len 0 (fun hl0 => ?_)
 have ca := check_iff.2 hv
 have hv1 : oldI l ≤ 2147483647 := by have := hv.2.1; unfold oldI; omega
 have hv2 : newI l ≤ 2147483647 := by have := hv.2.2; unfold newI; omega
 have o0 : 0 ≤ oldI l := by unfold oldI; omega
 have o1 : 0 ≤ newI l := by unfold newI; omega
 refine .loop (α := Int × Int × Nat) [.r [], .r [], .r [(1, X (Xl stepT l))]] 48 (fun (fr, tq, i) => ([(1, VI p), (5, VI fr), (6, VI tq), (9, VL 2 stepT l), (10, VI (l.length : Int)), (11, VI (i : Int))], [])) (fun (fr, tq, i) => i ≤ l.length ∧ 0 ≤ fr ∧ 0 ≤ tq ∧ fr + oldU (ex (l.drop i)) = oldI l ∧ tq + newU (ex (l.drop i)) = newI l ∧ fr ≤ p ∧ placeS l p 0 0 = placeS (l.drop i) p fr tq) (fun (fr, tq, i) => l.length - i) (0, 0, 0) ?_ ?_
 ·
  exact ⟨by omega, by decide, by decide, by simp [oldI], by simp [newI], by omega, rfl⟩
 rintro ⟨fr, tq, i⟩ I3 ih3
 try dsimp only at I3
 refine .br [.r []] (decide ((i : Int) < (l.length : Int))) (fun h3 => ?_) (fun h3 => ?_)
 ·
  (try simp only [decide_eq_true_eq, decide_eq_false_iff_not, Int.not_lt, Int.not_le] at h3)
  have hst := lens_step (l := l) (i := i) (by omega) hv.1
  have hd := drop_ats (l := l) (i := i) (by omega)
  refine .br [.r [(0, X (Xi stepT l (i : Int)))], .r [], .r []] ((((l.getD i default)).kind) == 1) (fun h8 => ?_) (fun h8 => ?_)
  ·
   (try simp only [beq_iff_eq, beq_eq_false_iff_ne, ne_eq] at h8)
   refine .back [.r [(3, X (Xn (tq + (((l.getD i default)).n))))], .r [(0, X (Xn ((i : Int) + 1)))]] [] (ih3 (fr, (tq + (((l.getD i default)).n)), (i + 1)) ?_ ?_)
   ·
    obtain ⟨s1, s2, s3, s4, s5⟩ := hst
    (first | rw [if_pos (by omega)] at s1 | rw [if_neg (by omega)] at s1)
    (first | rw [if_pos (by omega)] at s2 | rw [if_neg (by omega)] at s2)
    refine ⟨by omega, by omega, by omega, by omega, by omega, by omega, ?_⟩
    rw [I3.2.2.2.2.2.2, hd, placeS]
    ((repeat' split) <;> first | rfl | omega)
   ·
    ((try dsimp only); omega)
  ·
   (try simp only [beq_iff_eq, beq_eq_false_iff_ne, ne_eq] at h8)
   refine .br [.r []] ((((l.getD i default)).kind) == 0) (fun h10 => ?_) (fun h10 => ?_)
   ·
    (try simp only [beq_iff_eq, beq_eq_false_iff_ne, ne_eq] at h10)
    refine .br [.r [(4, X (Xn (fr + (((l.getD i default)).n))))]] (decide (p < (fr + (((l.getD i default)).n)))) (fun h11 => ?_) (fun h11 => ?_)
    ·
     (try simp only [decide_eq_true_eq, decide_eq_false_iff_not, Int.not_lt, Int.not_le] at h11)
     have e1 : ((placeS l p 0 0) : Int) = ((tq + p) - fr) := by
      first | (rw [I3.2.2.2.2.2.2, drop_ends (by omega)]; rfl) | (rw [I3.2.2.2.2.2.2, hd, placeS]; ((repeat' split) <;> first | rfl | omega))
     exact .finE [.r [(2, X (Xn (tq + p))), (4, X (Xn ((tq + p) - fr)))]] [] (fun z0 => (VI z0, [])) (((tq + p) - fr) : Int) ((placeS l p 0 0) : Int) e1
    ·
     (try simp only [decide_eq_true_eq, decide_eq_false_iff_not, Int.not_lt, Int.not_le] at h11)
     refine .back [.r [(3, X (Xn (tq + (((l.getD i default)).n))))], .r [(3, X (Xn (fr + (((l.getD i default)).n))))], .r [(0, X (Xn ((i : Int) + 1)))]] [] (ih3 ((fr + (((l.getD i default)).n)), (tq + (((l.getD i default)).n)), (i + 1)) ?_ ?_)
     ·
      obtain ⟨s1, s2, s3, s4, s5⟩ := hst
      (first | rw [if_pos (by omega)] at s1 | rw [if_neg (by omega)] at s1)
      (first | rw [if_pos (by omega)] at s2 | rw [if_neg (by omega)] at s2)
      refine ⟨by omega, by omega, by omega, by omega, by omega, by omega, ?_⟩
      rw [I3.2.2.2.2.2.2, hd, placeS]
      ((repeat' split) <;> first | rfl | omega)
     ·
      ((try dsimp only); omega)
   ·
    (try simp only [beq_iff_eq, beq_eq_false_iff_ne, ne_eq] at h10)
    refine .br [.r [(4, X (Xn (fr + (((l.getD i default)).n))))]] (decide (p < (fr + (((l.getD i default)).n)))) (fun h6 => ?_) (fun h6 => ?_)
    ·
     (try simp only [decide_eq_true_eq, decide_eq_false_iff_not, Int.not_lt, Int.not_le] at h6)
     have e2 : ((placeS l p 0 0) : Int) = -1 := by
      first | (rw [I3.2.2.2.2.2.2, drop_ends (by omega)]; rfl) | (rw [I3.2.2.2.2.2.2, hd, placeS]; ((repeat' split) <;> first | rfl | omega))
     exact .finE [.r []] [] (fun z0 => (VI z0, [])) (-1 : Int) ((placeS l p 0 0) : Int) e2
    ·
     (try simp only [decide_eq_true_eq, decide_eq_false_iff_not, Int.not_lt, Int.not_le] at h6)
     refine .back [.r [(3, X (Xn (fr + (((l.getD i default)).n))))], .r [(0, X (Xn ((i : Int) + 1)))]] [] (ih3 ((fr + (((l.getD i default)).n)), tq, (i + 1)) ?_ ?_)
     ·
      obtain ⟨s1, s2, s3, s4, s5⟩ := hst
      (first | rw [if_pos (by omega)] at s1 | rw [if_neg (by omega)] at s1)
      (first | rw [if_pos (by omega)] at s2 | rw [if_neg (by omega)] at s2)
      refine ⟨by omega, by omega, by omega, by omega, by omega, by omega, ?_⟩
      rw [I3.2.2.2.2.2.2, hd, placeS]
      ((repeat' split) <;> first | rfl | omega)
     ·
      ((try dsimp only); omega)
 ·
  (try simp only [decide_eq_true_eq, decide_eq_false_iff_not, Int.not_lt, Int.not_le] at h3)
  have e3 : ((placeS l p 0 0) : Int) = -1 := by
   first | (rw [I3.2.2.2.2.2.2, drop_ends (by omega)]; rfl) | (rw [I3.2.2.2.2.2.2, hd, placeS]; ((repeat' split) <;> first | rfl | omega))
  exact .finE [.r []] [] (fun z0 => (VI z0, [])) (-1 : Int) ((placeS l p 0 0) : Int) e3

theorem fc_axApply (l : List AxStep) (pl : List Int) (hv : Valid l) (hp : ∀ x ∈ pl, 0 ≤ x ∧ x < oldI l) (hlen : pl.length ≤ 1000000000) : FC Tryz.prog 69 [VL 2 stepT l, VL 1 intT pl] (app emp []) (.tup [VL 1 intT (List.map (fun x => placeS l x 0 0) pl), VI 0]) (app emp []) := by
 refine .go Tryz.f69 ?_
 refine .len 0 (fun hl0 => ?_)
 refine .len 1 (fun hl1 => ?_)
 have ca := check_iff.2 hv
 have hv1 : oldI l ≤ 2147483647 := by have := hv.2.1; unfold oldI; omega
 have hv2 : newI l ≤ 2147483647 := by have := hv.2.2; unfold newI; omega
 have o0 : 0 ≤ oldI l := by unfold oldI; omega
 have o1 : 0 ≤ newI l := by unfold newI; omega
 refine .br [.r [], .r [(1, X (Xc0 (fc_axCheck l) X0))], .r []] ((checkX l) != 0) (fun h2 => ?_) (fun h2 => ?_)
 ·
  (try simp only [bne_iff_ne, bne_eq_false_iff_eq, ne_eq] at h2)
  exfalso
  omega
 ·
  (try simp only [bne_iff_ne, bne_eq_false_iff_eq, ne_eq] at h2)
  refine .loop (α := Nat × (List Int)) [.r [(1, X (Xc0 (fc_axLens l (by assumption)) X0))], .r [], .r [(1, X (Xl intT pl))], .le (.nR 9 1)] 145 (fun (i, out) => ([(0, VL 2 stepT l), (7, VI (oldI l)), (9, .row 144 out.length), (22, VL 1 intT pl), (23, VI (pl.length : Int)), (24, VI (i : Int))], [(144, OR 1 intT out)])) (fun (i, out) => i ≤ pl.length ∧ out = (pl.take i).map (fun x => placeS l x 0 0)) (fun (i, out) => pl.length - i) (0, []) ?_ ?_
  ·
   exact ⟨by omega, rfl⟩
  rintro ⟨i, out⟩ I7 ih7
  try dsimp only at I7
  have ol : out.length = i := by rw [I7.2]; simp; omega
  refine .br [.r []] (decide ((i : Int) < (pl.length : Int))) (fun h7 => ?_) (fun h7 => ?_)
  ·
   (try simp only [decide_eq_true_eq, decide_eq_false_iff_not, Int.not_lt, Int.not_le] at h7)
   have hx := hp (pl.getD i default) (by rw [show pl.getD i default = pl[i] by simp [List.getD, List.getElem?_eq_getElem (show i < pl.length by omega)]]; exact List.getElem_mem _)
   refine .br [.r [(0, X (Xi intT pl (i : Int)))], .r [(5, Xv 2 (!(decide ((pl.getD i default) < 0))) X0), (6, X (Xk' (decide ((pl.getD i default) < 0))))]] (decide ((pl.getD i default) < 0) || decide ((pl.getD i default) ≥ (oldI l))) (fun h9 => ?_) (fun h9 => ?_)
   ·
    (try simp only [decide_eq_true_eq, decide_eq_false_iff_not, Int.not_lt, Int.not_le, ge_iff_le, Bool.or_eq_true, Bool.or_eq_false_iff] at h9)
    exfalso
    omega
   ·
    (try simp only [decide_eq_true_eq, decide_eq_false_iff_not, Int.not_lt, Int.not_le, ge_iff_le, Bool.or_eq_true, Bool.or_eq_false_iff] at h9)
    refine .back [.r [(3, X (Xc0 (fc_place l (pl.getD i default) (by assumption) (by omega)) X0)), (5, X (rowC intT [(placeS l (pl.getD i default) 0 0)] (Xap 1 intT 144 out [(placeS l (pl.getD i default) 0 0)])))], .r [(0, X (Xn ((i : Int) + 1)))]] [(144, 144)] (ih7 ((i + 1), (out ++ [(placeS l (pl.getD i default) 0 0)])) ?_ ?_)
    ·
     refine ⟨by omega, ?_⟩
     rw [I7.2, List.take_succ_eq_append_getElem (show i < pl.length by omega), List.map_append]
     simp [List.getD, List.getElem?_eq_getElem (show i < pl.length by omega)]
    ·
     ((try dsimp only); omega)
  ·
   (try simp only [decide_eq_true_eq, decide_eq_false_iff_not, Int.not_lt, Int.not_le] at h7)
   have e1 : ((List.map (fun x => placeS l x 0 0) pl) : List Int) = out := by
    rw [I7.2, List.take_of_length_le (by omega)]
   exact .finE [.r [], .le (.fr 4 [(out.length : Nat) = (List.map intT out).length] ⟨lm, trivial⟩)] [] (fun z0 => (.tup [VL 1 intT z0, VI 0], [])) (out : List Int) ((List.map (fun x => placeS l x 0 0) pl) : List Int) e1

theorem fc_hull (l : List AxStep) (f t : Int) (hv : Valid l) (hf : 0 ≤ f ∧ f ≤ t ∧ t ≤ oldI l) : FC Tryz.prog 82 [VL 2 stepT l, VI f, VI t] (app emp []) (.tup [VI ((hullS l f t 0 0 0 0).1), VI ((hullS l f t 0 0 0 0).2)]) (app emp []) := by
 refine .go Tryz.f82 ?_
 refine .len 0 (fun hl0 => ?_)
 have ca := check_iff.2 hv
 have hv1 : oldI l ≤ 2147483647 := by have := hv.2.1; unfold oldI; omega
 have hv2 : newI l ≤ 2147483647 := by have := hv.2.2; unfold newI; omega
 have o0 : 0 ≤ oldI l := by unfold oldI; omega
 have o1 : 0 ≤ newI l := by unfold newI; omega
 refine .loop (α := Int × Int × Int × Int × Nat) [.r [], .r [], .r [(1, X (Xl stepT l))]] 72 (fun (first, last, fr, tq, i) => ([(1, VI f), (2, VI t), (8, VI first), (9, VI last), (10, VI fr), (11, VI tq), (16, VL 2 stepT l), (17, VI (l.length : Int)), (18, VI (i : Int))], [])) (fun (first, last, fr, tq, i) => i ≤ l.length ∧ 0 ≤ fr ∧ 0 ≤ tq ∧ fr + oldU (ex (l.drop i)) = oldI l ∧ tq + newU (ex (l.drop i)) = newI l ∧ 0 ≤ first ∧ first ≤ 10000000000 ∧ 0 ≤ last ∧ last ≤ 10000000000 ∧ hullS l f t 0 0 0 0 = hullS (l.drop i) f t first last fr tq) (fun (first, last, fr, tq, i) => l.length - i) (0, 0, 0, 0, 0) ?_ ?_
 ·
  exact ⟨by omega, by decide, by decide, by simp [oldI], by simp [newI], by decide, by decide, by decide, by decide, rfl⟩
 rintro ⟨first, last, fr, tq, i⟩ I3 ih3
 try dsimp only at I3
 refine .br [.r []] (decide ((i : Int) < (l.length : Int))) (fun h3 => ?_) (fun h3 => ?_)
 ·
  (try simp only [decide_eq_true_eq, decide_eq_false_iff_not, Int.not_lt, Int.not_le] at h3)
  have hst := lens_step (l := l) (i := i) (by omega) hv.1
  have hd := drop_ats (l := l) (i := i) (by omega)
  refine .br [.r [(0, X (Xi stepT l (i : Int)))], .r [(2, X (Xmax f fr)), (7, X (Xn (fr + (((l.getD i default)).n)))), (8, X (Xmin t (fr + (((l.getD i default)).n))))], .r [(6, Xv 2 ((((l.getD i default)).kind) == 0) X0), (7, X (Xk ((((l.getD i default)).kind) == 0)))]] (((((l.getD i default)).kind) == 0) && decide ((max f fr) < (min t (fr + (((l.getD i default)).n))))) (fun h6 => ?_) (fun h6 => ?_)
  ·
   (try simp only [decide_eq_true_eq, decide_eq_false_iff_not, Int.not_lt, Int.not_le, Bool.and_eq_true, Bool.and_eq_false_iff, Bool.not_eq_true', Bool.not_eq_false', beq_iff_eq, beq_eq_false_iff_ne, ne_eq] at h6)
   refine .br [.r []] (last == 0) (fun h7 => ?_) (fun h7 => ?_)
   ·
    (try simp only [beq_iff_eq, beq_eq_false_iff_ne, ne_eq] at h7)
    refine .br [.r [(2, X (Xn (tq + (max f fr)))), (4, X (Xn ((tq + (max f fr)) - fr)))], .r [(2, X (Xn (tq + (min t (fr + (((l.getD i default)).n)))))), (4, X (Xn ((tq + (min t (fr + (((l.getD i default)).n)))) - fr)))], .r []] ((((l.getD i default)).kind) != 2) (fun h10 => ?_) (fun h10 => ?_)
    ·
     (try simp only [bne_iff_ne, bne_eq_false_iff_eq, ne_eq] at h10)
     refine .br [.r [(3, X (Xn (tq + (((l.getD i default)).n))))], .r []] ((((l.getD i default)).kind) != 1) (fun h12 => ?_) (fun h12 => ?_)
     ·
      (try simp only [bne_iff_ne, bne_eq_false_iff_eq, ne_eq] at h12)
      refine .back [.r [(3, X (Xn (fr + (((l.getD i default)).n))))], .r [(0, X (Xn ((i : Int) + 1)))]] [] (ih3 (((tq + (max f fr)) - fr), ((tq + (min t (fr + (((l.getD i default)).n)))) - fr), (fr + (((l.getD i default)).n)), (tq + (((l.getD i default)).n)), (i + 1)) ?_ ?_)
      ·
       obtain ⟨s1, s2, s3, s4, s5⟩ := hst
       (first | rw [if_pos (by omega)] at s1 | rw [if_neg (by omega)] at s1)
       (first | rw [if_pos (by omega)] at s2 | rw [if_neg (by omega)] at s2)
       refine ⟨by omega, by omega, by omega, by omega, by omega, by omega, by omega, by omega, by omega, ?_⟩
       rw [I3.2.2.2.2.2.2.2.2.2, hd, hullS]
       congr 1 <;> ((repeat' split) <;> first | rfl | omega)
      ·
       ((try dsimp only); omega)
     ·
      (try simp only [bne_iff_ne, bne_eq_false_iff_eq, ne_eq] at h12)
      refine .back [.r [(0, X (Xn ((i : Int) + 1)))]] [] (ih3 (((tq + (max f fr)) - fr), ((tq + (min t (fr + (((l.getD i default)).n)))) - fr), fr, (tq + (((l.getD i default)).n)), (i + 1)) ?_ ?_)
      ·
       obtain ⟨s1, s2, s3, s4, s5⟩ := hst
       (first | rw [if_pos (by omega)] at s1 | rw [if_neg (by omega)] at s1)
       (first | rw [if_pos (by omega)] at s2 | rw [if_neg (by omega)] at s2)
       refine ⟨by omega, by omega, by omega, by omega, by omega, by omega, by omega, by omega, by omega, ?_⟩
       rw [I3.2.2.2.2.2.2.2.2.2, hd, hullS]
       congr 1 <;> ((repeat' split) <;> first | rfl | omega)
      ·
       ((try dsimp only); omega)
    ·
     (try simp only [bne_iff_ne, bne_eq_false_iff_eq, ne_eq] at h10)
     refine .br [.r []] ((((l.getD i default)).kind) != 1) (fun h12 => ?_) (fun h12 => ?_)
     ·
      (try simp only [bne_iff_ne, bne_eq_false_iff_eq, ne_eq] at h12)
      refine .back [.r [(3, X (Xn (fr + (((l.getD i default)).n))))], .r [(0, X (Xn ((i : Int) + 1)))]] [] (ih3 (((tq + (max f fr)) - fr), ((tq + (min t (fr + (((l.getD i default)).n)))) - fr), (fr + (((l.getD i default)).n)), tq, (i + 1)) ?_ ?_)
      ·
       obtain ⟨s1, s2, s3, s4, s5⟩ := hst
       (first | rw [if_pos (by omega)] at s1 | rw [if_neg (by omega)] at s1)
       (first | rw [if_pos (by omega)] at s2 | rw [if_neg (by omega)] at s2)
       refine ⟨by omega, by omega, by omega, by omega, by omega, by omega, by omega, by omega, by omega, ?_⟩
       rw [I3.2.2.2.2.2.2.2.2.2, hd, hullS]
       congr 1 <;> ((repeat' split) <;> first | rfl | omega)
      ·
       ((try dsimp only); omega)
     ·
      (try simp only [bne_iff_ne, bne_eq_false_iff_eq, ne_eq] at h12)
      refine .back [.r [(0, X (Xn ((i : Int) + 1)))]] [] (ih3 (((tq + (max f fr)) - fr), ((tq + (min t (fr + (((l.getD i default)).n)))) - fr), fr, tq, (i + 1)) ?_ ?_)
      ·
       obtain ⟨s1, s2, s3, s4, s5⟩ := hst
       (first | rw [if_pos (by omega)] at s1 | rw [if_neg (by omega)] at s1)
       (first | rw [if_pos (by omega)] at s2 | rw [if_neg (by omega)] at s2)
       refine ⟨by omega, by omega, by omega, by omega, by omega, by omega, by omega, by omega, by omega, ?_⟩
       rw [I3.2.2.2.2.2.2.2.2.2, hd, hullS]
       congr 1 <;> ((repeat' split) <;> first | rfl | omega)
      ·
       ((try dsimp only); omega)
   ·
    (try simp only [beq_iff_eq, beq_eq_false_iff_ne, ne_eq] at h7)
    refine .br [.r [(2, X (Xn (tq + (min t (fr + (((l.getD i default)).n)))))), (4, X (Xn ((tq + (min t (fr + (((l.getD i default)).n)))) - fr)))], .r []] ((((l.getD i default)).kind) != 2) (fun h10 => ?_) (fun h10 => ?_)
    ·
     (try simp only [bne_iff_ne, bne_eq_false_iff_eq, ne_eq] at h10)
     refine .br [.r [(3, X (Xn (tq + (((l.getD i default)).n))))], .r []] ((((l.getD i default)).kind) != 1) (fun h12 => ?_) (fun h12 => ?_)
     ·
      (try simp only [bne_iff_ne, bne_eq_false_iff_eq, ne_eq] at h12)
      refine .back [.r [(3, X (Xn (fr + (((l.getD i default)).n))))], .r [(0, X (Xn ((i : Int) + 1)))]] [] (ih3 (first, ((tq + (min t (fr + (((l.getD i default)).n)))) - fr), (fr + (((l.getD i default)).n)), (tq + (((l.getD i default)).n)), (i + 1)) ?_ ?_)
      ·
       obtain ⟨s1, s2, s3, s4, s5⟩ := hst
       (first | rw [if_pos (by omega)] at s1 | rw [if_neg (by omega)] at s1)
       (first | rw [if_pos (by omega)] at s2 | rw [if_neg (by omega)] at s2)
       refine ⟨by omega, by omega, by omega, by omega, by omega, by omega, by omega, by omega, by omega, ?_⟩
       rw [I3.2.2.2.2.2.2.2.2.2, hd, hullS]
       congr 1 <;> ((repeat' split) <;> first | rfl | omega)
      ·
       ((try dsimp only); omega)
     ·
      (try simp only [bne_iff_ne, bne_eq_false_iff_eq, ne_eq] at h12)
      refine .back [.r [(0, X (Xn ((i : Int) + 1)))]] [] (ih3 (first, ((tq + (min t (fr + (((l.getD i default)).n)))) - fr), fr, (tq + (((l.getD i default)).n)), (i + 1)) ?_ ?_)
      ·
       obtain ⟨s1, s2, s3, s4, s5⟩ := hst
       (first | rw [if_pos (by omega)] at s1 | rw [if_neg (by omega)] at s1)
       (first | rw [if_pos (by omega)] at s2 | rw [if_neg (by omega)] at s2)
       refine ⟨by omega, by omega, by omega, by omega, by omega, by omega, by omega, by omega, by omega, ?_⟩
       rw [I3.2.2.2.2.2.2.2.2.2, hd, hullS]
       congr 1 <;> ((repeat' split) <;> first | rfl | omega)
      ·
       ((try dsimp only); omega)
    ·
     (try simp only [bne_iff_ne, bne_eq_false_iff_eq, ne_eq] at h10)
     refine .br [.r []] ((((l.getD i default)).kind) != 1) (fun h12 => ?_) (fun h12 => ?_)
     ·
      (try simp only [bne_iff_ne, bne_eq_false_iff_eq, ne_eq] at h12)
      refine .back [.r [(3, X (Xn (fr + (((l.getD i default)).n))))], .r [(0, X (Xn ((i : Int) + 1)))]] [] (ih3 (first, ((tq + (min t (fr + (((l.getD i default)).n)))) - fr), (fr + (((l.getD i default)).n)), tq, (i + 1)) ?_ ?_)
      ·
       obtain ⟨s1, s2, s3, s4, s5⟩ := hst
       (first | rw [if_pos (by omega)] at s1 | rw [if_neg (by omega)] at s1)
       (first | rw [if_pos (by omega)] at s2 | rw [if_neg (by omega)] at s2)
       refine ⟨by omega, by omega, by omega, by omega, by omega, by omega, by omega, by omega, by omega, ?_⟩
       rw [I3.2.2.2.2.2.2.2.2.2, hd, hullS]
       congr 1 <;> ((repeat' split) <;> first | rfl | omega)
      ·
       ((try dsimp only); omega)
     ·
      (try simp only [bne_iff_ne, bne_eq_false_iff_eq, ne_eq] at h12)
      refine .back [.r [(0, X (Xn ((i : Int) + 1)))]] [] (ih3 (first, ((tq + (min t (fr + (((l.getD i default)).n)))) - fr), fr, tq, (i + 1)) ?_ ?_)
      ·
       obtain ⟨s1, s2, s3, s4, s5⟩ := hst
       (first | rw [if_pos (by omega)] at s1 | rw [if_neg (by omega)] at s1)
       (first | rw [if_pos (by omega)] at s2 | rw [if_neg (by omega)] at s2)
       refine ⟨by omega, by omega, by omega, by omega, by omega, by omega, by omega, by omega, by omega, ?_⟩
       rw [I3.2.2.2.2.2.2.2.2.2, hd, hullS]
       congr 1 <;> ((repeat' split) <;> first | rfl | omega)
      ·
       ((try dsimp only); omega)
  ·
   (try simp only [decide_eq_true_eq, decide_eq_false_iff_not, Int.not_lt, Int.not_le, Bool.and_eq_true, Bool.and_eq_false_iff, Bool.not_eq_true', Bool.not_eq_false', beq_iff_eq, beq_eq_false_iff_ne, ne_eq] at h6)
   refine .br [.r []] ((((l.getD i default)).kind) != 2) (fun h10 => ?_) (fun h10 => ?_)
   ·
    (try simp only [bne_iff_ne, bne_eq_false_iff_eq, ne_eq] at h10)
    refine .br [.r [(3, X (Xn (tq + (((l.getD i default)).n))))], .r []] ((((l.getD i default)).kind) != 1) (fun h12 => ?_) (fun h12 => ?_)
    ·
     (try simp only [bne_iff_ne, bne_eq_false_iff_eq, ne_eq] at h12)
     refine .back [.r [(3, X (Xn (fr + (((l.getD i default)).n))))], .r [(0, X (Xn ((i : Int) + 1)))]] [] (ih3 (first, last, (fr + (((l.getD i default)).n)), (tq + (((l.getD i default)).n)), (i + 1)) ?_ ?_)
     ·
      obtain ⟨s1, s2, s3, s4, s5⟩ := hst
      (first | rw [if_pos (by omega)] at s1 | rw [if_neg (by omega)] at s1)
      (first | rw [if_pos (by omega)] at s2 | rw [if_neg (by omega)] at s2)
      refine ⟨by omega, by omega, by omega, by omega, by omega, by omega, by omega, by omega, by omega, ?_⟩
      rw [I3.2.2.2.2.2.2.2.2.2, hd, hullS]
      congr 1 <;> ((repeat' split) <;> first | rfl | omega)
     ·
      ((try dsimp only); omega)
    ·
     (try simp only [bne_iff_ne, bne_eq_false_iff_eq, ne_eq] at h12)
     refine .back [.r [(0, X (Xn ((i : Int) + 1)))]] [] (ih3 (first, last, fr, (tq + (((l.getD i default)).n)), (i + 1)) ?_ ?_)
     ·
      obtain ⟨s1, s2, s3, s4, s5⟩ := hst
      (first | rw [if_pos (by omega)] at s1 | rw [if_neg (by omega)] at s1)
      (first | rw [if_pos (by omega)] at s2 | rw [if_neg (by omega)] at s2)
      refine ⟨by omega, by omega, by omega, by omega, by omega, by omega, by omega, by omega, by omega, ?_⟩
      rw [I3.2.2.2.2.2.2.2.2.2, hd, hullS]
      congr 1 <;> ((repeat' split) <;> first | rfl | omega)
     ·
      ((try dsimp only); omega)
   ·
    (try simp only [bne_iff_ne, bne_eq_false_iff_eq, ne_eq] at h10)
    refine .br [.r []] ((((l.getD i default)).kind) != 1) (fun h12 => ?_) (fun h12 => ?_)
    ·
     (try simp only [bne_iff_ne, bne_eq_false_iff_eq, ne_eq] at h12)
     refine .back [.r [(3, X (Xn (fr + (((l.getD i default)).n))))], .r [(0, X (Xn ((i : Int) + 1)))]] [] (ih3 (first, last, (fr + (((l.getD i default)).n)), tq, (i + 1)) ?_ ?_)
     ·
      obtain ⟨s1, s2, s3, s4, s5⟩ := hst
      (first | rw [if_pos (by omega)] at s1 | rw [if_neg (by omega)] at s1)
      (first | rw [if_pos (by omega)] at s2 | rw [if_neg (by omega)] at s2)
      refine ⟨by omega, by omega, by omega, by omega, by omega, by omega, by omega, by omega, by omega, ?_⟩
      rw [I3.2.2.2.2.2.2.2.2.2, hd, hullS]
      congr 1 <;> ((repeat' split) <;> first | rfl | omega)
     ·
      ((try dsimp only); omega)
    ·
     (try simp only [bne_iff_ne, bne_eq_false_iff_eq, ne_eq] at h12)
     refine .back [.r [(0, X (Xn ((i : Int) + 1)))]] [] (ih3 (first, last, fr, tq, (i + 1)) ?_ ?_)
     ·
      obtain ⟨s1, s2, s3, s4, s5⟩ := hst
      (first | rw [if_pos (by omega)] at s1 | rw [if_neg (by omega)] at s1)
      (first | rw [if_pos (by omega)] at s2 | rw [if_neg (by omega)] at s2)
      refine ⟨by omega, by omega, by omega, by omega, by omega, by omega, by omega, by omega, by omega, ?_⟩
      rw [I3.2.2.2.2.2.2.2.2.2, hd, hullS]
      congr 1 <;> ((repeat' split) <;> first | rfl | omega)
     ·
      ((try dsimp only); omega)
 ·
  (try simp only [decide_eq_true_eq, decide_eq_false_iff_not, Int.not_lt, Int.not_le] at h3)
  have e1 : ((hullS l f t 0 0 0 0).1 : Int) = first := by
   rw [I3.2.2.2.2.2.2.2.2.2, drop_ends (by omega)]; rfl
  have e2 : ((hullS l f t 0 0 0 0).2 : Int) = last := by
   rw [I3.2.2.2.2.2.2.2.2.2, drop_ends (by omega)]; rfl
  exact .finE [.r []] [] (fun (z0, z1) => (.tup [VI z0, VI z1], [])) ((first : Int), (last : Int)) (((hullS l f t 0 0 0 0).1 : Int), ((hullS l f t 0 0 0 0).2 : Int)) (pr e1 e2)
end Go.Ch
end
section
set_option linter.unusedVariables false
set_option linter.unusedSimpArgs false
set_option maxRecDepth 100000
set_option maxHeartbeats 4000000
open Go Go.Proofs Go.Ab
namespace Go.Ch
theorem fc_char (c : Int) : FC Tryz.prog 109 [VI c] (app emp []) (VB (decide (CharP c))) (app emp []) := by
 refine .go Tryz.f109 ?_
 have e1 : ((decide (CharP c)) : Bool) = (((((c == 9) || (c == 10)) || (decide (c ≥ 32) && decide (c < 127))) || (decide (c ≥ 160) && decide (c < 55296))) || (decide (c > 57343) && decide (c ≤ 1114111))) := by
  rw [Bool.eq_iff_iff, decide_eq_true_iff]; unfold CharP; simp only [Bool.or_eq_true, Bool.and_eq_true, decide_eq_true_eq, beq_iff_eq]; constructor <;> intro hh <;> omega
 exact .finE [.r [], .r [(4, Xv 1 (!(c == 9)) X0), (5, X (Xk' (c == 9))), (8, Xv 1 (!((c == 9) || (c == 10))) X0), (9, Xv 1 (!((c == 9) || (c == 10))) X0), (11, Xv 1 ((!((c == 9) || (c == 10))) && (decide (c ≥ 32))) X0), (12, Xka (!((c == 9) || (c == 10))) (decide (c ≥ 32))), (13, X (Xk' ((c == 9) || (c == 10)))), (16, Xv 1 (!(((c == 9) || (c == 10)) || (decide (c ≥ 32) && decide (c < 127)))) X0), (17, Xv 1 (!(((c == 9) || (c == 10)) || (decide (c ≥ 32) && decide (c < 127)))) X0), (19, Xv 1 ((!(((c == 9) || (c == 10)) || (decide (c ≥ 32) && decide (c < 127)))) && (decide (c ≥ 160))) X0), (20, Xka (!(((c == 9) || (c == 10)) || (decide (c ≥ 32) && decide (c < 127)))) (decide (c ≥ 160))), (21, X (Xk' (((c == 9) || (c == 10)) || (decide (c ≥ 32) && decide (c < 127))))), (24, Xv 1 (!((((c == 9) || (c == 10)) || (decide (c ≥ 32) && decide (c < 127))) || (decide (c ≥ 160) && decide (c < 55296)))) X0), (25, Xv 1 (!((((c == 9) || (c == 10)) || (decide (c ≥ 32) && decide (c < 127))) || (decide (c ≥ 160) && decide (c < 55296)))) X0), (27, Xv 1 ((!((((c == 9) || (c == 10)) || (decide (c ≥ 32) && decide (c < 127))) || (decide (c ≥ 160) && decide (c < 55296)))) && (decide (c > 57343))) X0), (28, Xka (!((((c == 9) || (c == 10)) || (decide (c ≥ 32) && decide (c < 127))) || (decide (c ≥ 160) && decide (c < 55296)))) (decide (c > 57343))), (29, X (Xk' ((((c == 9) || (c == 10)) || (decide (c ≥ 32) && decide (c < 127))) || (decide (c ≥ 160) && decide (c < 55296)))))]] [] (fun z0 => (VB z0, [])) ((((((c == 9) || (c == 10)) || (decide (c ≥ 32) && decide (c < 127))) || (decide (c ≥ 160) && decide (c < 55296))) || (decide (c > 57343) && decide (c ≤ 1114111))) : Bool) ((decide (CharP c)) : Bool) e1

theorem fc_in (x a b : Int) : FC Tryz.prog 19 [VI x, VI a, VI b] (app emp []) (VB (decide (a ≤ x ∧ x ≤ b))) (app emp []) := by
 refine .go Tryz.f19 ?_
 have e1 : ((decide (a ≤ x ∧ x ≤ b)) : Bool) = (decide (x ≥ a) && decide (x ≤ b)) := by
  rw [Bool.eq_iff_iff]; simp; try omega
 exact .finE [.r [], .r [(6, Xv 2 (decide (x ≥ a)) X0), (7, X (Xk (decide (x ≥ a))))]] [] (fun z0 => (VB z0, [])) ((decide (x ≥ a) && decide (x ≤ b)) : Bool) ((decide (a ≤ x ∧ x ≤ b)) : Bool) e1

theorem fc_charR (c : Int) : FC Tryz.prog 75 [VI c] (app emp []) (VB (decide (CharP c))) (app emp []) := by
 refine .go Tryz.f75 ?_
 have e1 : ((decide (CharP c)) : Bool) = (((((c == 9) || (c == 10)) || (decide (32 ≤ c ∧ c ≤ 126))) || (decide (160 ≤ c ∧ c ≤ 55295))) || (decide (57344 ≤ c ∧ c ≤ 1114111))) := by
  rw [Bool.eq_iff_iff, decide_eq_true_iff]; unfold CharP; simp only [Bool.or_eq_true, Bool.and_eq_true, decide_eq_true_eq, beq_iff_eq]; constructor <;> intro hh <;> omega
 exact .finE [.r [], .r [(4, Xv 1 (!(c == 9)) X0), (5, X (Xk' (c == 9))), (8, Xv 1 (!((c == 9) || (c == 10))) (Xc0 (fc_in c 32 126) X0)), (9, X (Xk' ((c == 9) || (c == 10)))), (12, Xv 1 (!(((c == 9) || (c == 10)) || (decide (32 ≤ c ∧ c ≤ 126)))) (Xc0 (fc_in c 160 55295) X0)), (13, X (Xk' (((c == 9) || (c == 10)) || (decide (32 ≤ c ∧ c ≤ 126))))), (16, Xv 1 (!((((c == 9) || (c == 10)) || (decide (32 ≤ c ∧ c ≤ 126))) || (decide (160 ≤ c ∧ c ≤ 55295)))) (Xc0 (fc_in c 57344 1114111) X0)), (17, X (Xk' ((((c == 9) || (c == 10)) || (decide (32 ≤ c ∧ c ≤ 126))) || (decide (160 ≤ c ∧ c ≤ 55295)))))]] [] (fun z0 => (VB z0, [])) ((((((c == 9) || (c == 10)) || (decide (32 ≤ c ∧ c ≤ 126))) || (decide (160 ≤ c ∧ c ≤ 55295))) || (decide (57344 ≤ c ∧ c ≤ 1114111))) : Bool) ((decide (CharP c)) : Bool) e1

end Go.Ch
end
section
set_option linter.unusedVariables false
namespace Go.Ch
open Go Go.Ab

structure Cell where
  row : Int
  col : Int
  text : ByteArray
  ref : Int
  attrs : List Attr
instance : Inhabited Cell := ⟨⟨0, 0, { data := #[] }, 0, []⟩⟩
structure Rect where
  row : Int
  col : Int
  h : Int
  w : Int
deriving DecidableEq
instance : Inhabited Rect := ⟨⟨0, 0, 0, 0⟩⟩
structure Grid where
  rows : Int
  cols : Int
  cells : List Cell
  merges : List Rect
instance : Inhabited Grid := ⟨⟨0, 0, [], []⟩⟩
structure GEd where
  rows : List AxStep
  cols : List AxStep
  cells : List Cell
  split : List Rect
  merge : List Rect
instance : Inhabited GEd := ⟨⟨[], [], [], [], []⟩⟩
def cellT (c : Cell) : Tree := .agg [TI c.row, TI c.col, TS c.text, TI c.ref, .lst 2 (c.attrs.map attrT)]
def rectT (r : Rect) : Tree := .agg [TI r.row, TI r.col, TI r.h, TI r.w]
def gridT (g : Grid) : Tree := .agg [TI g.rows, TI g.cols, .lst 5 (g.cells.map cellT), .lst 4 (g.merges.map rectT)]
def gedT (e : GEd) : Tree := .agg [.lst 2 (e.rows.map stepT), .lst 2 (e.cols.map stepT), .lst 5 (e.cells.map cellT), .lst 4 (e.split.map rectT), .lst 4 (e.merge.map rectT)]

def cmpI (x y : Int) : Int := if x < y then -1 else if x > y then 1 else 0
def orL : List Int → Int
  | [] => 0
  | x :: l => if x ≠ 0 then x else orL l
theorem orL_at {l : List Int} {i : Nat} (h : i < l.length) : orL (l.drop i) = if l.getD i default ≠ 0 then l.getD i default else orL (l.drop (i + 1)) := by
  rw [List.drop_eq_getElem_cons h, orL]
  simp [List.getD, List.getElem?_eq_getElem h]
def ordC (a b : Cell) : Int := orL [cmpI a.row b.row, cmpI a.col b.col]
def emptyC (c : Cell) : Bool := (seq c.text { data := #[] } && c.ref == 0) && (c.attrs.length : Int) == 0

/-! ### Rectangles -/
def insB (r : Rect) (m n : Int) : Bool := decide (0 ≤ r.row ∧ 0 ≤ r.col ∧ 1 ≤ r.h ∧ 1 ≤ r.w ∧ r.row < m ∧ r.col < n ∧ r.h ≤ m - r.row ∧ r.w ≤ n - r.col)
def meetB (a b : Rect) : Bool := decide (a.row < b.row + b.h ∧ b.row < a.row + a.h ∧ a.col < b.col + b.w ∧ b.col < a.col + a.w)
/-- Numbers that do not overflow. -/
def RB (r : Rect) : Prop := -1000000000000 ≤ r.row ∧ r.row ≤ 1000000000000 ∧ -1000000000000 ≤ r.col ∧ r.col ≤ 1000000000000 ∧ -1000000000000 ≤ r.h ∧ r.h ≤ 1000000000000 ∧ -1000000000000 ≤ r.w ∧ r.w ≤ 1000000000000
def befB (a b : Rect) : Bool := decide (a.row < b.row ∨ (a.row = b.row ∧ a.col < b.col))
theorem rect_ext {a b : Rect} (h1 : a.row = b.row) (h2 : a.col = b.col) (h3 : a.h = b.h) (h4 : a.w = b.w) : a = b := by
  cases a; cases b; simp_all
/-- The index of a rectangle. -/
def idxQ (l : List Rect) (r : Rect) (i : Nat) : Int := if i < l.length then (if l.getD i default = r then (i : Int) else idxQ l r (i + 1)) else -1
termination_by l.length - i
theorem idxQ_ge {l : List Rect} {r : Rect} : ∀ (n i : Nat), l.length - i = n → (0 ≤ idxQ l r i ↔ r ∈ l.drop i)
  | 0, i, h => by rw [idxQ, if_neg (by omega), List.drop_eq_nil_of_le (by omega)]; simp
  | n + 1, i, h => by
    have hi : i < l.length := by omega
    have hd : l.drop i = l.getD i default :: l.drop (i + 1) := by rw [List.drop_eq_getElem_cons hi]; simp [List.getD, List.getElem?_eq_getElem hi]
    rw [idxQ, if_pos hi, hd]
    split
    · rename_i e
      rw [e]
      exact ⟨fun _ => List.mem_cons_self .., fun _ => by omega⟩
    · rename_i e
      rw [idxQ_ge n (i + 1) (by omega), List.mem_cons]
      exact ⟨.inr, fun h => h.resolve_left (fun h => e h.symm)⟩
def hasQ (l : List Rect) (r : Rect) : Bool := decide (r ∈ l)

/-! ### Through changes of the axes -/
def thrR (r : Rect) (rows cols : List AxStep) : Rect :=
  let (a, h) := if 0 < rows.length then ((hullS rows r.row (r.row + r.h) 0 0 0 0).1, (hullS rows r.row (r.row + r.h) 0 0 0 0).2 - (hullS rows r.row (r.row + r.h) 0 0 0 0).1) else (r.row, r.h)
  let (b, w) := if 0 < cols.length then ((hullS cols r.col (r.col + r.w) 0 0 0 0).1, (hullS cols r.col (r.col + r.w) 0 0 0 0).2 - (hullS cols r.col (r.col + r.w) 0 0 0 0).1) else (r.col, r.w)
  ⟨a, b, h, w⟩
def thrB (r : Rect) : Bool := decide (0 < r.h ∧ 0 < r.w ∧ 2 < r.h + r.w)
/-- An axis' change, if there is one, and the numbers that it speaks of. -/
def AxIn (a : List AxStep) (fr tq : Int) : Prop := 0 < a.length → Valid a ∧ 0 ≤ fr ∧ fr ≤ tq ∧ tq ≤ oldI a
theorem hull_bdA : ∀ {l : List AxStep} (hl : Form l) (M f t first last old now : Int), 0 ≤ first → first ≤ M → 0 ≤ last → last ≤ M → 0 ≤ now → now + newU (ex l) ≤ M →
    0 ≤ (hullS l f t first last old now).1 ∧ (hullS l f t first last old now).1 ≤ M ∧ 0 ≤ (hullS l f t first last old now).2 ∧ (hullS l f t first last old now).2 ≤ M
  | [], _, M, f, t, first, last, old, now, h1, h2, h3, h4, h5, h6 => ⟨h1, h2, h3, h4⟩
  | s :: l, hl, M, f, t, first, last, old, now, h1, h2, h3, h4, h5, h6 => by
    have hn := hl.head.2.2
    have hk := hl.head
    have e : (newU (ex (s :: l)) : Int) = (if s.kind = 2 then 0 else s.n) + newU (ex l) := by
      rw [ex, new_rep, Int.toNat_of_nonneg (by omega)]
    rw [e] at h6
    rw [hullS]
    have hz : (0 : Int) ≤ newU (ex l) := by omega
    by_cases c : s.kind = 0 ∧ max f old < min t (old + s.n)
    · rw [if_pos c, if_neg (show ¬ s.kind = 2 by omega)]
      rw [if_neg (show ¬ s.kind = 2 by omega)] at h6
      refine hull_bdA hl.tail M f t _ _ _ _ ?_ ?_ (by omega) (by omega) (by omega) (by omega) <;> (split <;> omega)
    · rw [if_neg c, if_neg (fun h => c h.1)]
      refine hull_bdA hl.tail M f t _ _ _ _ h1 h2 h3 h4 ?_ ?_
      · split <;> omega
      · split at h6 <;> (split <;> omega)
theorem hull_bd {l : List AxStep} {f t : Int} (hv : Valid l) (h : 0 ≤ f ∧ f ≤ t ∧ t ≤ oldI l) : 0 ≤ (hullS l f t 0 0 0 0).1 ∧ (hullS l f t 0 0 0 0).1 ≤ 2147483647 ∧ 0 ≤ (hullS l f t 0 0 0 0).2 ∧ (hullS l f t 0 0 0 0).2 ≤ 2147483647 :=
  hull_bdA hv.1 2147483647 f t 0 0 0 0 (by omega) (by omega) (by omega) (by omega) (by omega) (by have := hv.2.2; omega)

/-! ### Cells -/
def mvR (a : List AxStep) (p : Int) : Int := if 0 < a.length then placeS a p 0 0 else p
def mvC (rows cols : List AxStep) (c : Cell) : Option Cell :=
  if 0 < rows.length ∧ mvR rows c.row < 0 then none else if 0 < cols.length ∧ mvR cols c.col < 0 then none else some { c with row := mvR rows c.row, col := mvR cols c.col }
def movL (l : List Cell) (rows cols : List AxStep) : List Cell := l.filterMap (mvC rows cols)
def PIn (a : List AxStep) (p : Int) : Prop := 0 < a.length → Valid a ∧ 0 ≤ p ∧ p < oldI a
def CAN (k : Nat) (l : List Cell) : Prop := ∀ c ∈ l, c.attrs.length ≤ k
theorem getDC_mem {l : List Cell} {i : Nat} (h : i < l.length) : l.getD i default ∈ l := by
  rw [show l.getD i default = l[i] by simp [List.getD, List.getElem?_eq_getElem h]]; exact List.getElem_mem _
theorem movL_succ {l : List Cell} {rows cols : List AxStep} {i : Nat} (h : i < l.length) : movL (l.take (i + 1)) rows cols = movL (l.take i) rows cols ++ (mvC rows cols (l.getD i default)).toList := by
  unfold movL
  rw [List.take_succ_eq_append_getElem h, List.filterMap_append]
  simp only [List.getD, List.getElem?_eq_getElem h, Option.getD_some]
  simp only [List.filterMap_cons, List.filterMap_nil]
  cases mvC rows cols l[i] <;> rfl
theorem movL_len (l : List Cell) (rows cols : List AxStep) : (movL l rows cols).length ≤ l.length := List.length_filterMap_le _ _
/-- 'put': the cells ahead of c stay; the one at its place goes; c stands there unless it is empty. -/
def putC (c : Cell) (k : List Cell → List Cell) : List Cell → List Cell
  | [] => (if emptyC c = true then [] else [c]) ++ k []
  | x :: l => if ordC x c < 0 then x :: putC c k l else if ordC x c = 0 then (if emptyC c = true then [] else [c]) ++ k l else (if emptyC c = true then [] else [c]) ++ k (x :: l)
def putL : List Cell → List Cell → List Cell
  | [], l => l
  | c :: ns, l => putC c (putL ns) l
theorem dropC {l : List Cell} {i : Nat} (h : i < l.length) : l.drop i = l.getD i default :: l.drop (i + 1) := by
  rw [List.drop_eq_getElem_cons h]; simp [List.getD, List.getElem?_eq_getElem h]
theorem dropC_end {l : List Cell} {i : Nat} (h : l.length ≤ i) : l.drop i = [] := List.drop_eq_nil_of_le h
theorem putC_lt {c : Cell} {k : List Cell → List Cell} {l : List Cell} {j : Nat} (h : j < l.length) (h0 : ordC (l.getD j default) c < 0) : putC c k (l.drop j) = l.getD j default :: putC c k (l.drop (j + 1)) := by
  rw [dropC h, putC, if_pos h0]
theorem putC_eq {c : Cell} {k : List Cell → List Cell} {l : List Cell} {j : Nat} (h : j < l.length) (h0 : ordC (l.getD j default) c = 0) : putC c k (l.drop j) = (if emptyC c = true then [] else [c]) ++ k (l.drop (j + 1)) := by
  rw [dropC h, putC, if_neg (by omega), if_pos h0]
theorem putC_gt {c : Cell} {k : List Cell → List Cell} {l : List Cell} {j : Nat} (h : j < l.length → 0 < ordC (l.getD j default) c) : putC c k (l.drop j) = (if emptyC c = true then [] else [c]) ++ k (l.drop j) := by
  by_cases hj : j < l.length
  · have := h hj
    rw [dropC hj, putC, if_neg (by omega), if_neg (by omega)]
  · rw [dropC_end (by omega), putC]
def bareC (c : Cell) : Cell := ⟨c.row, c.col, { data := #[] }, 0, []⟩
def sameC (a b : Cell) : Bool := (((a.row == b.row && a.col == b.col) && seq a.text b.text) && a.ref == b.ref) && sameL a.attrs b.attrs
def difC (c : Cell) (k : List Cell → List Cell) : List Cell → List Cell
  | [] => c :: k []
  | x :: l => if ordC x c < 0 then bareC x :: difC c k l else if ordC x c = 0 then (if sameC x c = true then k l else c :: k l) else c :: k (x :: l)
def difL : List Cell → List Cell → List Cell
  | [], fr => fr.map bareC
  | c :: ns, fr => difC c (difL ns) fr
end Go.Ch
end
section
set_option linter.unusedVariables false
set_option linter.unusedSimpArgs false
set_option maxRecDepth 100000
set_option maxHeartbeats 4000000
open Go Go.Proofs Go.Ab
namespace Go.Ch
theorem fc_isNaN (x : Int) : FC Tryz.prog 87 [VI x] (app emp []) (VB false) (app emp []) := by
 refine .go Tryz.f87 ?_
 have e1 : ((x != x) : Bool) = false := by
  simp
 exact .finE [.r [], .r []] [] (fun z0 => (VB z0, [])) ((x != x) : Bool) (false : Bool) e1.symm

theorem fc_cmpI (x y : Int) : FC Tryz.prog 62 [VI x, VI y] (app emp []) (VI (cmpI x y)) (app emp []) := by
 refine .go Tryz.f62 ?_
 refine .br [.r [], .r [(1, X (Xc0 (fc_isNaN x) X0))], .r [(1, X (Xc0 (fc_isNaN y) X0))], .r [], .f, .r [], .f, .r []] (decide (x < y)) (fun h9 => ?_) (fun h9 => ?_)
 ·
  (try simp only [decide_eq_true_eq, decide_eq_false_iff_not, Int.not_lt, Int.not_le] at h9)
  have e1 : ((cmpI x y) : Int) = -1 := by
   unfold cmpI; ((repeat' split) <;> first | rfl | omega | (simp_all; done) | (simp_all; omega))
  exact .finE [.r []] [] (fun z0 => (VI z0, [])) (-1 : Int) ((cmpI x y) : Int) e1
 ·
  (try simp only [decide_eq_true_eq, decide_eq_false_iff_not, Int.not_lt, Int.not_le] at h9)
  refine .br [.r []] (decide (x > y)) (fun h11 => ?_) (fun h11 => ?_)
  ·
   (try simp only [decide_eq_true_eq, decide_eq_false_iff_not, Int.not_lt, Int.not_le, gt_iff_lt] at h11)
   have e2 : ((cmpI x y) : Int) = 1 := by
    unfold cmpI; ((repeat' split) <;> first | rfl | omega | (simp_all; done) | (simp_all; omega))
   exact .finE [.r []] [] (fun z0 => (VI z0, [])) (1 : Int) ((cmpI x y) : Int) e2
  ·
   (try simp only [decide_eq_true_eq, decide_eq_false_iff_not, Int.not_lt, Int.not_le, gt_iff_lt] at h11)
   have e3 : ((cmpI x y) : Int) = 0 := by
    unfold cmpI; ((repeat' split) <;> first | rfl | omega | (simp_all; done) | (simp_all; omega))
   exact .finE [.r []] [] (fun z0 => (VI z0, [])) (0 : Int) ((cmpI x y) : Int) e3

theorem fc_or (l : List Int) : FC Tryz.prog 61 [VL 1 intT l] (app emp []) (VI (orL l)) (app emp []) := by
 refine .go Tryz.f61 ?_
 refine .len 0 (fun hl0 => ?_)
 refine .loop (α := Nat) [.r [], .r [], .r [(1, X (Xl intT l))]] 40 (fun i => ([(3, VI 0), (6, VL 1 intT l), (7, VI (l.length : Int)), (8, VI (i : Int))], [])) (fun i => i ≤ l.length ∧ orL l = orL (l.drop i)) (fun i => l.length - i) (0 : Nat) ?_ ?_
 ·
  exact ⟨by omega, rfl⟩
 rintro i I3 ih3
 try dsimp only at I3
 refine .br [.r []] (decide ((i : Int) < (l.length : Int))) (fun h3 => ?_) (fun h3 => ?_)
 ·
  (try simp only [decide_eq_true_eq, decide_eq_false_iff_not, Int.not_lt, Int.not_le] at h3)
  refine .br [.r [(0, X (Xi intT l (i : Int)))], .r []] ((l.getD i default) != 0) (fun h5 => ?_) (fun h5 => ?_)
  ·
   (try simp only [bne_iff_ne, bne_eq_false_iff_eq, ne_eq] at h5)
   have e1 : ((orL l) : Int) = (l.getD i default) := by
    rw [I3.2, orL_at (by omega), if_pos (by omega)]
   exact .finE [.r []] [] (fun z0 => (VI z0, [])) ((l.getD i default) : Int) ((orL l) : Int) e1
  ·
   (try simp only [bne_iff_ne, bne_eq_false_iff_eq, ne_eq] at h5)
   refine .back [.r [(0, X (Xn ((i : Int) + 1)))]] [] (ih3 ((i + 1) : Nat) ?_ ?_)
   ·
    refine ⟨by omega, ?_⟩
    rw [I3.2, orL_at (by omega), if_neg (by omega)]
   ·
    ((try dsimp only); omega)
 ·
  (try simp only [decide_eq_true_eq, decide_eq_false_iff_not, Int.not_lt, Int.not_le] at h3)
  have e2 : ((orL l) : Int) = 0 := by
   rw [I3.2, List.drop_eq_nil_of_le (by omega)]; rfl
  exact .finE [.r []] [] (fun z0 => (VI z0, [])) (0 : Int) ((orL l) : Int) e2

theorem fc_order (a b : Cell) : FC Tryz.prog 72 [.t (cellT a), .t (cellT b)] (app emp []) (VI (ordC a b)) (app emp []) := by
 refine .go Tryz.f72 ?_
 have e1 : ((ordC a b) : Int) = (orL [(cmpI a.row b.row), (cmpI a.col b.col)]) := by
  rfl
 exact .finE [.r [], .r [(4, X (Xc0 (fc_cmpI a.row b.row) X0)), (9, X (Xc0 (fc_cmpI a.col b.col) X0)), (11, X (Xc0 (fc_or [(cmpI a.row b.row), (cmpI a.col b.col)]) (rowC intT [(cmpI a.row b.row), (cmpI a.col b.col)] X0)))]] [] (fun z0 => (VI z0, [])) ((orL [(cmpI a.row b.row), (cmpI a.col b.col)]) : Int) ((ordC a b) : Int) e1

theorem fc_empty (c : Cell) : FC Tryz.prog 81 [.t (cellT c)] (app emp []) (VB (emptyC c)) (app emp []) := by
 refine .go Tryz.f81 ?_
 have e1 : ((emptyC c) : Bool) = ((seq c.text ({ data := #[] }) && (c.ref == 0)) && ((c.attrs.length : Int) == 0)) := by
  rfl
 exact .finE [.r [], .r [(5, Xv 1 (seq c.text ({ data := #[] })) X0), (6, Xv 1 (seq c.text ({ data := #[] })) X0), (7, X (Xk (seq c.text ({ data := #[] })))), (10, Xv 1 (seq c.text ({ data := #[] }) && (c.ref == 0)) X0), (11, Xv 1 (seq c.text ({ data := #[] }) && (c.ref == 0)) (Xl attrT c.attrs)), (12, Xv 1 (seq c.text ({ data := #[] }) && (c.ref == 0)) X0), (13, X (Xk (seq c.text ({ data := #[] }) && (c.ref == 0))))]] [] (fun z0 => (VB z0, [])) (((seq c.text ({ data := #[] }) && (c.ref == 0)) && ((c.attrs.length : Int) == 0)) : Bool) ((emptyC c) : Bool) e1

theorem fc_clone (c : Cell) (h : c.attrs.length ≤ 1000000000000) : FC Tryz.prog 42 [.t (cellT c)] (app emp []) (.t (cellT c)) (app emp []) := by
 refine .go Tryz.f42 ?_
 exact .finV [.r [], .r [(2, X (Xan attrT 32 c.attrs))], .r []] [.fR 0 [(c.attrs.length : Nat) = (List.map attrT c.attrs).length] ⟨lm, trivial⟩] []

theorem fc_inside (r : Rect) (m n : Int) (hb : 0 ≤ m ∧ m ≤ 1000000000000 ∧ 0 ≤ n ∧ n ≤ 1000000000000) : FC Tryz.prog 52 [.t (rectT r), VI m, VI n] (app emp []) (VB (insB r m n)) (app emp []) := by
 refine .go Tryz.f52 ?_
 have e1 : ((insB r m n) : Bool) = (((((((decide (r.row ≥ 0) && decide (r.col ≥ 0)) && decide (r.h ≥ 1)) && decide (r.w ≥ 1)) && decide (r.row < m)) && decide (r.col < n)) && decide (r.h ≤ (m - r.row))) && decide (r.w ≤ (n - r.col))) := by
  unfold insB; rw [Bool.eq_iff_iff]; simp; try omega
 exact .finE [.r [], .r [(5, Xv 1 (decide (r.row ≥ 0)) X0), (6, Xv 1 (decide (r.row ≥ 0)) X0), (7, X (Xk (decide (r.row ≥ 0)))), (10, Xv 1 (decide (r.row ≥ 0) && decide (r.col ≥ 0)) X0), (11, Xv 1 (decide (r.row ≥ 0) && decide (r.col ≥ 0)) X0), (12, X (Xk (decide (r.row ≥ 0) && decide (r.col ≥ 0)))), (15, Xv 1 ((decide (r.row ≥ 0) && decide (r.col ≥ 0)) && decide (r.h ≥ 1)) X0), (16, Xv 1 ((decide (r.row ≥ 0) && decide (r.col ≥ 0)) && decide (r.h ≥ 1)) X0), (17, X (Xk ((decide (r.row ≥ 0) && decide (r.col ≥ 0)) && decide (r.h ≥ 1)))), (20, Xv 1 (((decide (r.row ≥ 0) && decide (r.col ≥ 0)) && decide (r.h ≥ 1)) && decide (r.w ≥ 1)) X0), (22, Xv 2 (((decide (r.row ≥ 0) && decide (r.col ≥ 0)) && decide (r.h ≥ 1)) && decide (r.w ≥ 1)) X0), (23, X (Xk (((decide (r.row ≥ 0) && decide (r.col ≥ 0)) && decide (r.h ≥ 1)) && decide (r.w ≥ 1)))), (26, Xv 1 ((((decide (r.row ≥ 0) && decide (r.col ≥ 0)) && decide (r.h ≥ 1)) && decide (r.w ≥ 1)) && decide (r.row < m)) X0), (28, Xv 2 ((((decide (r.row ≥ 0) && decide (r.col ≥ 0)) && decide (r.h ≥ 1)) && decide (r.w ≥ 1)) && decide (r.row < m)) X0), (29, X (Xk ((((decide (r.row ≥ 0) && decide (r.col ≥ 0)) && decide (r.h ≥ 1)) && decide (r.w ≥ 1)) && decide (r.row < m)))), (32, Xv 1 (((((decide (r.row ≥ 0) && decide (r.col ≥ 0)) && decide (r.h ≥ 1)) && decide (r.w ≥ 1)) && decide (r.row < m)) && decide (r.col < n)) X0), (35, Xv 1 (((((decide (r.row ≥ 0) && decide (r.col ≥ 0)) && decide (r.h ≥ 1)) && decide (r.w ≥ 1)) && decide (r.row < m)) && decide (r.col < n)) X0), (36, Xv 2 (((((decide (r.row ≥ 0) && decide (r.col ≥ 0)) && decide (r.h ≥ 1)) && decide (r.w ≥ 1)) && decide (r.row < m)) && decide (r.col < n)) (Xn (m - r.row))), (37, Xv 2 (((((decide (r.row ≥ 0) && decide (r.col ≥ 0)) && decide (r.h ≥ 1)) && decide (r.w ≥ 1)) && decide (r.row < m)) && decide (r.col < n)) X0), (38, X (Xk (((((decide (r.row ≥ 0) && decide (r.col ≥ 0)) && decide (r.h ≥ 1)) && decide (r.w ≥ 1)) && decide (r.row < m)) && decide (r.col < n)))), (41, Xv 1 ((((((decide (r.row ≥ 0) && decide (r.col ≥ 0)) && decide (r.h ≥ 1)) && decide (r.w ≥ 1)) && decide (r.row < m)) && decide (r.col < n)) && decide (r.h ≤ (m - r.row))) X0), (44, Xv 1 ((((((decide (r.row ≥ 0) && decide (r.col ≥ 0)) && decide (r.h ≥ 1)) && decide (r.w ≥ 1)) && decide (r.row < m)) && decide (r.col < n)) && decide (r.h ≤ (m - r.row))) X0), (45, Xv 2 ((((((decide (r.row ≥ 0) && decide (r.col ≥ 0)) && decide (r.h ≥ 1)) && decide (r.w ≥ 1)) && decide (r.row < m)) && decide (r.col < n)) && decide (r.h ≤ (m - r.row))) (Xn (n - r.col))), (46, Xv 2 ((((((decide (r.row ≥ 0) && decide (r.col ≥ 0)) && decide (r.h ≥ 1)) && decide (r.w ≥ 1)) && decide (r.row < m)) && decide (r.col < n)) && decide (r.h ≤ (m - r.row))) X0), (47, X (Xk ((((((decide (r.row ≥ 0) && decide (r.col ≥ 0)) && decide (r.h ≥ 1)) && decide (r.w ≥ 1)) && decide (r.row < m)) && decide (r.col < n)) && decide (r.h ≤ (m - r.row)))))]] [] (fun z0 => (VB z0, [])) ((((((((decide (r.row ≥ 0) && decide (r.col ≥ 0)) && decide (r.h ≥ 1)) && decide (r.w ≥ 1)) && decide (r.row < m)) && decide (r.col < n)) && decide (r.h ≤ (m - r.row))) && decide (r.w ≤ (n - r.col))) : Bool) ((insB r m n) : Bool) e1

theorem fc_meets (a b : Rect) (ha : RB a) (hb : RB b) : FC Tryz.prog 58 [.t (rectT a), .t (rectT b)] (app emp []) (VB (meetB a b)) (app emp []) := by
 refine .go Tryz.f58 ?_
 unfold RB at ha hb
 have e1 : ((meetB a b) : Bool) = (((decide (a.row < (b.row + b.h)) && decide (b.row < (a.row + a.h))) && decide (a.col < (b.col + b.w))) && decide (b.col < (a.col + a.w))) := by
  unfold meetB; rw [Bool.eq_iff_iff]; simp; try omega
 exact .finE [.r [], .r [(6, X (Xn (b.row + b.h))), (10, Xv 1 (decide (a.row < (b.row + b.h))) X0), (12, Xv 1 (decide (a.row < (b.row + b.h))) X0), (14, Xv 1 (decide (a.row < (b.row + b.h))) X0), (15, Xv 2 (decide (a.row < (b.row + b.h))) (Xn (a.row + a.h))), (16, Xv 2 (decide (a.row < (b.row + b.h))) X0), (17, X (Xk (decide (a.row < (b.row + b.h))))), (20, Xv 1 (decide (a.row < (b.row + b.h)) && decide (b.row < (a.row + a.h))) X0), (22, Xv 1 (decide (a.row < (b.row + b.h)) && decide (b.row < (a.row + a.h))) X0), (24, Xv 1 (decide (a.row < (b.row + b.h)) && decide (b.row < (a.row + a.h))) X0), (25, Xv 2 (decide (a.row < (b.row + b.h)) && decide (b.row < (a.row + a.h))) (Xn (b.col + b.w))), (26, Xv 2 (decide (a.row < (b.row + b.h)) && decide (b.row < (a.row + a.h))) X0), (27, X (Xk (decide (a.row < (b.row + b.h)) && decide (b.row < (a.row + a.h))))), (30, Xv 1 ((decide (a.row < (b.row + b.h)) && decide (b.row < (a.row + a.h))) && decide (a.col < (b.col + b.w))) X0), (32, Xv 1 ((decide (a.row < (b.row + b.h)) && decide (b.row < (a.row + a.h))) && decide (a.col < (b.col + b.w))) X0), (34, Xv 1 ((decide (a.row < (b.row + b.h)) && decide (b.row < (a.row + a.h))) && decide (a.col < (b.col + b.w))) X0), (35, Xv 2 ((decide (a.row < (b.row + b.h)) && decide (b.row < (a.row + a.h))) && decide (a.col < (b.col + b.w))) (Xn (a.col + a.w))), (36, Xv 2 ((decide (a.row < (b.row + b.h)) && decide (b.row < (a.row + a.h))) && decide (a.col < (b.col + b.w))) X0), (37, X (Xk ((decide (a.row < (b.row + b.h)) && decide (b.row < (a.row + a.h))) && decide (a.col < (b.col + b.w)))))]] [] (fun z0 => (VB z0, [])) ((((decide (a.row < (b.row + b.h)) && decide (b.row < (a.row + a.h))) && decide (a.col < (b.col + b.w))) && decide (b.col < (a.col + a.w))) : Bool) ((meetB a b) : Bool) e1

theorem fc_before (a b : Rect) : FC Tryz.prog 78 [.t (rectT a), .t (rectT b)] (app emp []) (VB (befB a b)) (app emp []) := by
 refine .go Tryz.f78 ?_
 have e1 : ((befB a b) : Bool) = (decide (a.row < b.row) || ((a.row == b.row) && decide (a.col < b.col))) := by
  unfold befB; rw [Bool.eq_iff_iff]; simp; try omega
 exact .finE [.r [], .r [(7, Xv 1 (!(decide (a.row < b.row))) X0), (9, Xv 1 (!(decide (a.row < b.row))) X0), (10, Xv 2 (!(decide (a.row < b.row))) X0), (11, Xv 1 (!(decide (a.row < b.row))) X0), (13, Xv 1 ((!(decide (a.row < b.row))) && (a.row == b.row)) X0), (15, Xv 1 ((!(decide (a.row < b.row))) && (a.row == b.row)) X0), (16, Xv 2 ((!(decide (a.row < b.row))) && (a.row == b.row)) X0), (17, Xka (!(decide (a.row < b.row))) (a.row == b.row)), (18, X (Xk' (decide (a.row < b.row))))]] [] (fun z0 => (VB z0, [])) ((decide (a.row < b.row) || ((a.row == b.row) && decide (a.col < b.col))) : Bool) ((befB a b) : Bool) e1

theorem fc_idxQ (l : List Rect) (r : Rect) : FC Tryz.prog 83 [VL 4 rectT l, .t (rectT r)] (app emp []) (VI (idxQ l r 0)) (app emp []) := by
 refine .go Tryz.f83 ?_
 refine .len 0 (fun hl0 => ?_)
 refine .loop (α := Nat) [.r [], .r [(1, X (Xl rectT l))]] 40 (fun i => ([(0, VL 4 rectT l), (3, .ptr 0 0), (7, VI (l.length : Int)), (8, VI (i : Int))], [(0, .box [VI r.row, VI r.col, VI r.h, VI r.w])])) (fun i => i ≤ l.length ∧ idxQ l r 0 = idxQ l r i) (fun i => l.length - i) (0 : Nat) ?_ ?_
 ·
  exact ⟨by omega, rfl⟩
 rintro i I2 ih2
 try dsimp only at I2
 refine .br [.r []] (decide ((i : Int) < (l.length : Int))) (fun h2 => ?_) (fun h2 => ?_)
 ·
  (try simp only [decide_eq_true_eq, decide_eq_false_iff_not, Int.not_lt, Int.not_le] at h2)
  refine .br [.r [], .r [(3, X (Xi rectT l (i : Int)))]] (r.row == (((l.getD i default)).row) && (r.col == (((l.getD i default)).col) && (r.h == (((l.getD i default)).h) && (r.w == (((l.getD i default)).w) && true)))) (fun h4 => ?_) (fun h4 => ?_)
  ·
   (try simp only [Bool.and_eq_true, Bool.and_eq_false_iff, Bool.not_eq_true', Bool.not_eq_false', beq_iff_eq, beq_eq_false_iff_ne, ne_eq] at h4)
   have e1 : ((idxQ l r 0) : Int) = (i : Int) := by
    rw [I2.2, idxQ, if_pos (by omega), if_pos]
    refine rect_ext ?_ ?_ ?_ ?_ <;> omega
   exact .finE [.r []] [] (fun z0 => (VI z0, [])) ((i : Int) : Int) ((idxQ l r 0) : Int) e1
  ·
   (try simp only [Bool.and_eq_true, Bool.and_eq_false_iff, Bool.not_eq_true', Bool.not_eq_false', beq_iff_eq, beq_eq_false_iff_ne, ne_eq] at h4)
   refine .back [.r [(0, X (Xn ((i : Int) + 1)))]] [(0, 0)] (ih2 ((i + 1) : Nat) ?_ ?_)
   ·
    refine ⟨by omega, ?_⟩
    rw [I2.2, idxQ, if_pos (by omega), if_neg]
    intro e; rw [e] at h4; simp at h4
   ·
    ((try dsimp only); omega)
 ·
  (try simp only [decide_eq_true_eq, decide_eq_false_iff_not, Int.not_lt, Int.not_le] at h2)
  have e2 : ((idxQ l r 0) : Int) = -1 := by
   rw [I2.2, idxQ, if_neg (by omega)]
  exact .finE [.r []] [] (fun z0 => (VI z0, [])) (-1 : Int) ((idxQ l r 0) : Int) e2

theorem fc_hasQ (l : List Rect) (r : Rect) : FC Tryz.prog 55 [VL 4 rectT l, .t (rectT r)] (app emp []) (VB (hasQ l r)) (app emp []) := by
 refine .go Tryz.f55 ?_
 refine .len 0 (fun hl0 => ?_)
 have e1 : ((hasQ l r) : Bool) = decide ((idxQ l r 0) ≥ 0) := by
  unfold hasQ; rw [Bool.eq_iff_iff]; simp only [decide_eq_true_eq, ge_iff_le]; rw [idxQ_ge _ 0 rfl]; simp
 exact .finE [.r [], .r [(2, X (Xc0 (fc_idxQ l r) X0))]] [] (fun z0 => (VB z0, [])) (decide ((idxQ l r 0) ≥ 0) : Bool) ((hasQ l r) : Bool) e1

theorem fc_axsize (n : Int) (a : List AxStep) (hv : 0 < a.length → Valid a) : FC Tryz.prog 51 [VI n, VL 2 stepT a] (app emp []) (.tup [VI (if 0 < a.length then newI a else n), VB (decide (0 < a.length → oldI a = n))]) (app emp []) := by
 refine .go Tryz.f51 ?_
 refine .len 1 (fun hl1 => ?_)
 refine .br [.r [], .r [(1, X (Xl stepT a))]] ((a.length : Int) == 0) (fun h1 => ?_) (fun h1 => ?_)
 ·
  (try simp only [beq_iff_eq, beq_eq_false_iff_ne, ne_eq] at h1)
  have e1 : ((if 0 < a.length then newI a else n) : Int) = n := by
   first | rw [if_neg (by omega)] | exact decide_eq_true (fun h => by omega) | exact (decide_eq_true (fun h => by omega)).symm
  have e2 : ((decide (0 < a.length → oldI a = n)) : Bool) = true := by
   first | rw [if_neg (by omega)] | exact decide_eq_true (fun h => by omega) | exact (decide_eq_true (fun h => by omega)).symm
  exact .finE [.r []] [] (fun (z0, z1) => (.tup [VI z0, VB z1], [])) ((n : Int), (true : Bool)) (((if 0 < a.length then newI a else n) : Int), ((decide (0 < a.length → oldI a = n)) : Bool)) (pr e1 e2)
 ·
  (try simp only [beq_iff_eq, beq_eq_false_iff_ne, ne_eq] at h1)
  have ha : 0 < a.length := by omega
  have hv2 := hv ha
  have e3 : ((if 0 < a.length then newI a else n) : Int) = (newI a) := by
   first | rw [if_pos (by omega)] | (rw [Bool.eq_iff_iff, decide_eq_true_eq, beq_iff_eq]; exact ⟨fun h => h (by omega), fun h _ => h⟩)
  have e4 : ((decide (0 < a.length → oldI a = n)) : Bool) = ((oldI a) == n) := by
   first | rw [if_pos (by omega)] | (rw [Bool.eq_iff_iff, decide_eq_true_eq, beq_iff_eq]; exact ⟨fun h => h (by omega), fun h _ => h⟩)
  exact .finE [.r [(1, X (Xc0 (fc_axLengths a (by assumption)) X0))], .r []] [] (fun (z0, z1) => (.tup [VI z0, VB z1], [])) (((newI a) : Int), (((oldI a) == n) : Bool)) (((if 0 < a.length then newI a else n) : Int), ((decide (0 < a.length → oldI a = n)) : Bool)) (pr e3 e4)

theorem fc_through (r : Rect) (rows cols : List AxStep) (hb : RB r) (hr : AxIn rows r.row (r.row + r.h)) (hc : AxIn cols r.col (r.col + r.w)) : FC Tryz.prog 54 [.t (rectT r), VL 2 stepT rows, VL 2 stepT cols] (app emp []) (.tup [.t (rectT (thrR r rows cols)), VB (thrB (thrR r rows cols))]) (app emp []) := by
 refine .go Tryz.f54 ?_
 refine .len 1 (fun hl1 => ?_)
 refine .len 2 (fun hl2 => ?_)
 unfold RB at hb
 unfold AxIn at hr hc
 refine .br [.r [], .r [(1, X (Xl stepT rows))]] (decide ((rows.length : Int) > 0)) (fun h1 => ?_) (fun h1 => ?_)
 ·
  (try simp only [decide_eq_true_eq, decide_eq_false_iff_not, Int.not_lt, Int.not_le, gt_iff_lt] at h1)
  have hr0 : 0 < rows.length := by omega
  obtain ⟨hv1, hr1⟩ := hr hr0
  have hh := hull_bd hv1 hr1
  refine .br [.r [(7, X (Xn (r.row + r.h))), (8, X (Xc0 (fc_hull rows r.row (r.row + r.h) (by assumption) (by omega)) X0))], .r [(3, X (Xn (((hullS rows r.row (r.row + r.h) 0 0 0 0).2) - ((hullS rows r.row (r.row + r.h) 0 0 0 0).1))))], .r [(1, X (Xl stepT cols))]] (decide ((cols.length : Int) > 0)) (fun h4 => ?_) (fun h4 => ?_)
  ·
   (try simp only [decide_eq_true_eq, decide_eq_false_iff_not, Int.not_lt, Int.not_le, gt_iff_lt] at h4)
   have hc0 : 0 < cols.length := by omega
   obtain ⟨hv2, hc1⟩ := hc hc0
   have hk := hull_bd hv2 hc1
   have e1 : ((thrR r rows cols) : Rect) = ({ row := (hullS rows r.row (r.row + r.h) 0 0 0 0).1, col := (hullS cols r.col (r.col + r.w) 0 0 0 0).1, h := (((hullS rows r.row (r.row + r.h) 0 0 0 0).2) - ((hullS rows r.row (r.row + r.h) 0 0 0 0).1)), w := (((hullS cols r.col (r.col + r.w) 0 0 0 0).2) - ((hullS cols r.col (r.col + r.w) 0 0 0 0).1)) } : Rect) := by
    unfold thrR; simp only []; (first | rw [if_pos (show 0 < rows.length by omega), if_pos (show 0 < cols.length by omega)] | rw [if_pos (show 0 < rows.length by omega), if_neg (show ¬ 0 < cols.length by omega)] | rw [if_neg (show ¬ 0 < rows.length by omega), if_pos (show 0 < cols.length by omega)] | rw [if_neg (show ¬ 0 < rows.length by omega), if_neg (show ¬ 0 < cols.length by omega)])
   have e2 : ((thrB (thrR r rows cols)) : Bool) = ((decide ((((hullS rows r.row (r.row + r.h) 0 0 0 0).2) - ((hullS rows r.row (r.row + r.h) 0 0 0 0).1)) > 0) && decide ((((hullS cols r.col (r.col + r.w) 0 0 0 0).2) - ((hullS cols r.col (r.col + r.w) 0 0 0 0).1)) > 0)) && decide (((((hullS rows r.row (r.row + r.h) 0 0 0 0).2) - ((hullS rows r.row (r.row + r.h) 0 0 0 0).1)) + (((hullS cols r.col (r.col + r.w) 0 0 0 0).2) - ((hullS cols r.col (r.col + r.w) 0 0 0 0).1))) > 2)) := by
    unfold thrB thrR; simp only []; (first | rw [if_pos (show 0 < rows.length by omega), if_pos (show 0 < cols.length by omega)] | rw [if_pos (show 0 < rows.length by omega), if_neg (show ¬ 0 < cols.length by omega)] | rw [if_neg (show ¬ 0 < rows.length by omega), if_pos (show 0 < cols.length by omega)] | rw [if_neg (show ¬ 0 < rows.length by omega), if_neg (show ¬ 0 < cols.length by omega)]); rw [Bool.eq_iff_iff]; simp; try omega
   exact .finVE [.r [(7, X (Xn (r.col + r.w))), (8, X (Xc0 (fc_hull cols r.col (r.col + r.w) (by assumption) (by omega)) X0))], .r [(3, X (Xn (((hullS cols r.col (r.col + r.w) 0 0 0 0).2) - ((hullS cols r.col (r.col + r.w) 0 0 0 0).1))))], .r [(6, Xv 1 (decide ((((hullS rows r.row (r.row + r.h) 0 0 0 0).2) - ((hullS rows r.row (r.row + r.h) 0 0 0 0).1)) > 0)) X0), (7, Xv 1 (decide ((((hullS rows r.row (r.row + r.h) 0 0 0 0).2) - ((hullS rows r.row (r.row + r.h) 0 0 0 0).1)) > 0)) X0), (8, X (Xk (decide ((((hullS rows r.row (r.row + r.h) 0 0 0 0).2) - ((hullS rows r.row (r.row + r.h) 0 0 0 0).1)) > 0)))), (11, Xv 1 (decide ((((hullS rows r.row (r.row + r.h) 0 0 0 0).2) - ((hullS rows r.row (r.row + r.h) 0 0 0 0).1)) > 0) && decide ((((hullS cols r.col (r.col + r.w) 0 0 0 0).2) - ((hullS cols r.col (r.col + r.w) 0 0 0 0).1)) > 0)) X0), (13, Xv 1 (decide ((((hullS rows r.row (r.row + r.h) 0 0 0 0).2) - ((hullS rows r.row (r.row + r.h) 0 0 0 0).1)) > 0) && decide ((((hullS cols r.col (r.col + r.w) 0 0 0 0).2) - ((hullS cols r.col (r.col + r.w) 0 0 0 0).1)) > 0)) X0), (14, Xv 2 (decide ((((hullS rows r.row (r.row + r.h) 0 0 0 0).2) - ((hullS rows r.row (r.row + r.h) 0 0 0 0).1)) > 0) && decide ((((hullS cols r.col (r.col + r.w) 0 0 0 0).2) - ((hullS cols r.col (r.col + r.w) 0 0 0 0).1)) > 0)) (Xn ((((hullS rows r.row (r.row + r.h) 0 0 0 0).2) - ((hullS rows r.row (r.row + r.h) 0 0 0 0).1)) + (((hullS cols r.col (r.col + r.w) 0 0 0 0).2) - ((hullS cols r.col (r.col + r.w) 0 0 0 0).1))))), (15, Xv 1 (decide ((((hullS rows r.row (r.row + r.h) 0 0 0 0).2) - ((hullS rows r.row (r.row + r.h) 0 0 0 0).1)) > 0) && decide ((((hullS cols r.col (r.col + r.w) 0 0 0 0).2) - ((hullS cols r.col (r.col + r.w) 0 0 0 0).1)) > 0)) X0), (16, X (Xk (decide ((((hullS rows r.row (r.row + r.h) 0 0 0 0).2) - ((hullS rows r.row (r.row + r.h) 0 0 0 0).1)) > 0) && decide ((((hullS cols r.col (r.col + r.w) 0 0 0 0).2) - ((hullS cols r.col (r.col + r.w) 0 0 0 0).1)) > 0))))]] [] [] (fun (z0, z1) => (.tup [.t (rectT z0), VB z1], [])) ((({ row := (hullS rows r.row (r.row + r.h) 0 0 0 0).1, col := (hullS cols r.col (r.col + r.w) 0 0 0 0).1, h := (((hullS rows r.row (r.row + r.h) 0 0 0 0).2) - ((hullS rows r.row (r.row + r.h) 0 0 0 0).1)), w := (((hullS cols r.col (r.col + r.w) 0 0 0 0).2) - ((hullS cols r.col (r.col + r.w) 0 0 0 0).1)) } : Rect) : Rect), (((decide ((((hullS rows r.row (r.row + r.h) 0 0 0 0).2) - ((hullS rows r.row (r.row + r.h) 0 0 0 0).1)) > 0) && decide ((((hullS cols r.col (r.col + r.w) 0 0 0 0).2) - ((hullS cols r.col (r.col + r.w) 0 0 0 0).1)) > 0)) && decide (((((hullS rows r.row (r.row + r.h) 0 0 0 0).2) - ((hullS rows r.row (r.row + r.h) 0 0 0 0).1)) + (((hullS cols r.col (r.col + r.w) 0 0 0 0).2) - ((hullS cols r.col (r.col + r.w) 0 0 0 0).1))) > 2)) : Bool)) (((thrR r rows cols) : Rect), ((thrB (thrR r rows cols)) : Bool)) (pr e1 e2)
  ·
   (try simp only [decide_eq_true_eq, decide_eq_false_iff_not, Int.not_lt, Int.not_le, gt_iff_lt] at h4)
   have e3 : ((thrR r rows cols) : Rect) = ({ row := (hullS rows r.row (r.row + r.h) 0 0 0 0).1, col := r.col, h := (((hullS rows r.row (r.row + r.h) 0 0 0 0).2) - ((hullS rows r.row (r.row + r.h) 0 0 0 0).1)), w := r.w } : Rect) := by
    unfold thrR; simp only []; (first | rw [if_pos (show 0 < rows.length by omega), if_pos (show 0 < cols.length by omega)] | rw [if_pos (show 0 < rows.length by omega), if_neg (show ¬ 0 < cols.length by omega)] | rw [if_neg (show ¬ 0 < rows.length by omega), if_pos (show 0 < cols.length by omega)] | rw [if_neg (show ¬ 0 < rows.length by omega), if_neg (show ¬ 0 < cols.length by omega)])
   have e4 : ((thrB (thrR r rows cols)) : Bool) = ((decide ((((hullS rows r.row (r.row + r.h) 0 0 0 0).2) - ((hullS rows r.row (r.row + r.h) 0 0 0 0).1)) > 0) && decide (r.w > 0)) && decide (((((hullS rows r.row (r.row + r.h) 0 0 0 0).2) - ((hullS rows r.row (r.row + r.h) 0 0 0 0).1)) + r.w) > 2)) := by
    unfold thrB thrR; simp only []; (first | rw [if_pos (show 0 < rows.length by omega), if_pos (show 0 < cols.length by omega)] | rw [if_pos (show 0 < rows.length by omega), if_neg (show ¬ 0 < cols.length by omega)] | rw [if_neg (show ¬ 0 < rows.length by omega), if_pos (show 0 < cols.length by omega)] | rw [if_neg (show ¬ 0 < rows.length by omega), if_neg (show ¬ 0 < cols.length by omega)]); rw [Bool.eq_iff_iff]; simp; try omega
   exact .finVE [.r [(6, Xv 1 (decide ((((hullS rows r.row (r.row + r.h) 0 0 0 0).2) - ((hullS rows r.row (r.row + r.h) 0 0 0 0).1)) > 0)) X0), (7, Xv 1 (decide ((((hullS rows r.row (r.row + r.h) 0 0 0 0).2) - ((hullS rows r.row (r.row + r.h) 0 0 0 0).1)) > 0)) X0), (8, X (Xk (decide ((((hullS rows r.row (r.row + r.h) 0 0 0 0).2) - ((hullS rows r.row (r.row + r.h) 0 0 0 0).1)) > 0)))), (11, Xv 1 (decide ((((hullS rows r.row (r.row + r.h) 0 0 0 0).2) - ((hullS rows r.row (r.row + r.h) 0 0 0 0).1)) > 0) && decide (r.w > 0)) X0), (13, Xv 1 (decide ((((hullS rows r.row (r.row + r.h) 0 0 0 0).2) - ((hullS rows r.row (r.row + r.h) 0 0 0 0).1)) > 0) && decide (r.w > 0)) X0), (14, Xv 2 (decide ((((hullS rows r.row (r.row + r.h) 0 0 0 0).2) - ((hullS rows r.row (r.row + r.h) 0 0 0 0).1)) > 0) && decide (r.w > 0)) (Xn ((((hullS rows r.row (r.row + r.h) 0 0 0 0).2) - ((hullS rows r.row (r.row + r.h) 0 0 0 0).1)) + r.w))), (15, Xv 1 (decide ((((hullS rows r.row (r.row + r.h) 0 0 0 0).2) - ((hullS rows r.row (r.row + r.h) 0 0 0 0).1)) > 0) && decide (r.w > 0)) X0), (16, X (Xk (decide ((((hullS rows r.row (r.row + r.h) 0 0 0 0).2) - ((hullS rows r.row (r.row + r.h) 0 0 0 0).1)) > 0) && decide (r.w > 0))))]] [] [] (fun (z0, z1) => (.tup [.t (rectT z0), VB z1], [])) ((({ row := (hullS rows r.row (r.row + r.h) 0 0 0 0).1, col := r.col, h := (((hullS rows r.row (r.row + r.h) 0 0 0 0).2) - ((hullS rows r.row (r.row + r.h) 0 0 0 0).1)), w := r.w } : Rect) : Rect), (((decide ((((hullS rows r.row (r.row + r.h) 0 0 0 0).2) - ((hullS rows r.row (r.row + r.h) 0 0 0 0).1)) > 0) && decide (r.w > 0)) && decide (((((hullS rows r.row (r.row + r.h) 0 0 0 0).2) - ((hullS rows r.row (r.row + r.h) 0 0 0 0).1)) + r.w) > 2)) : Bool)) (((thrR r rows cols) : Rect), ((thrB (thrR r rows cols)) : Bool)) (pr e3 e4)
 ·
  (try simp only [decide_eq_true_eq, decide_eq_false_iff_not, Int.not_lt, Int.not_le, gt_iff_lt] at h1)
  refine .br [.r [(1, X (Xl stepT cols))]] (decide ((cols.length : Int) > 0)) (fun h4 => ?_) (fun h4 => ?_)
  ·
   (try simp only [decide_eq_true_eq, decide_eq_false_iff_not, Int.not_lt, Int.not_le, gt_iff_lt] at h4)
   have hc0 : 0 < cols.length := by omega
   obtain ⟨hv2, hc1⟩ := hc hc0
   have hk := hull_bd hv2 hc1
   have e5 : ((thrR r rows cols) : Rect) = ({ row := r.row, col := (hullS cols r.col (r.col + r.w) 0 0 0 0).1, h := r.h, w := (((hullS cols r.col (r.col + r.w) 0 0 0 0).2) - ((hullS cols r.col (r.col + r.w) 0 0 0 0).1)) } : Rect) := by
    unfold thrR; simp only []; (first | rw [if_pos (show 0 < rows.length by omega), if_pos (show 0 < cols.length by omega)] | rw [if_pos (show 0 < rows.length by omega), if_neg (show ¬ 0 < cols.length by omega)] | rw [if_neg (show ¬ 0 < rows.length by omega), if_pos (show 0 < cols.length by omega)] | rw [if_neg (show ¬ 0 < rows.length by omega), if_neg (show ¬ 0 < cols.length by omega)])
   have e6 : ((thrB (thrR r rows cols)) : Bool) = ((decide (r.h > 0) && decide ((((hullS cols r.col (r.col + r.w) 0 0 0 0).2) - ((hullS cols r.col (r.col + r.w) 0 0 0 0).1)) > 0)) && decide ((r.h + (((hullS cols r.col (r.col + r.w) 0 0 0 0).2) - ((hullS cols r.col (r.col + r.w) 0 0 0 0).1))) > 2)) := by
    unfold thrB thrR; simp only []; (first | rw [if_pos (show 0 < rows.length by omega), if_pos (show 0 < cols.length by omega)] | rw [if_pos (show 0 < rows.length by omega), if_neg (show ¬ 0 < cols.length by omega)] | rw [if_neg (show ¬ 0 < rows.length by omega), if_pos (show 0 < cols.length by omega)] | rw [if_neg (show ¬ 0 < rows.length by omega), if_neg (show ¬ 0 < cols.length by omega)]); rw [Bool.eq_iff_iff]; simp; try omega
   exact .finVE [.r [(7, X (Xn (r.col + r.w))), (8, X (Xc0 (fc_hull cols r.col (r.col + r.w) (by assumption) (by omega)) X0))], .r [(3, X (Xn (((hullS cols r.col (r.col + r.w) 0 0 0 0).2) - ((hullS cols r.col (r.col + r.w) 0 0 0 0).1))))], .r [(6, Xv 1 (decide (r.h > 0)) X0), (7, Xv 1 (decide (r.h > 0)) X0), (8, X (Xk (decide (r.h > 0)))), (11, Xv 1 (decide (r.h > 0) && decide ((((hullS cols r.col (r.col + r.w) 0 0 0 0).2) - ((hullS cols r.col (r.col + r.w) 0 0 0 0).1)) > 0)) X0), (13, Xv 1 (decide (r.h > 0) && decide ((((hullS cols r.col (r.col + r.w) 0 0 0 0).2) - ((hullS cols r.col (r.col + r.w) 0 0 0 0).1)) > 0)) X0), (14, Xv 2 (decide (r.h > 0) && decide ((((hullS cols r.col (r.col + r.w) 0 0 0 0).2) - ((hullS cols r.col (r.col + r.w) 0 0 0 0).1)) > 0)) (Xn (r.h + (((hullS cols r.col (r.col + r.w) 0 0 0 0).2) - ((hullS cols r.col (r.col + r.w) 0 0 0 0).1))))), (15, Xv 1 (decide (r.h > 0) && decide ((((hullS cols r.col (r.col + r.w) 0 0 0 0).2) - ((hullS cols r.col (r.col + r.w) 0 0 0 0).1)) > 0)) X0), (16, X (Xk (decide (r.h > 0) && decide ((((hullS cols r.col (r.col + r.w) 0 0 0 0).2) - ((hullS cols r.col (r.col + r.w) 0 0 0 0).1)) > 0))))]] [] [] (fun (z0, z1) => (.tup [.t (rectT z0), VB z1], [])) ((({ row := r.row, col := (hullS cols r.col (r.col + r.w) 0 0 0 0).1, h := r.h, w := (((hullS cols r.col (r.col + r.w) 0 0 0 0).2) - ((hullS cols r.col (r.col + r.w) 0 0 0 0).1)) } : Rect) : Rect), (((decide (r.h > 0) && decide ((((hullS cols r.col (r.col + r.w) 0 0 0 0).2) - ((hullS cols r.col (r.col + r.w) 0 0 0 0).1)) > 0)) && decide ((r.h + (((hullS cols r.col (r.col + r.w) 0 0 0 0).2) - ((hullS cols r.col (r.col + r.w) 0 0 0 0).1))) > 2)) : Bool)) (((thrR r rows cols) : Rect), ((thrB (thrR r rows cols)) : Bool)) (pr e5 e6)
  ·
   (try simp only [decide_eq_true_eq, decide_eq_false_iff_not, Int.not_lt, Int.not_le, gt_iff_lt] at h4)
   have e7 : ((thrR r rows cols) : Rect) = r := by
    unfold thrR; simp only []; (first | rw [if_pos (show 0 < rows.length by omega), if_pos (show 0 < cols.length by omega)] | rw [if_pos (show 0 < rows.length by omega), if_neg (show ¬ 0 < cols.length by omega)] | rw [if_neg (show ¬ 0 < rows.length by omega), if_pos (show 0 < cols.length by omega)] | rw [if_neg (show ¬ 0 < rows.length by omega), if_neg (show ¬ 0 < cols.length by omega)])
   have e8 : ((thrB (thrR r rows cols)) : Bool) = ((decide (r.h > 0) && decide (r.w > 0)) && decide ((r.h + r.w) > 2)) := by
    unfold thrB thrR; simp only []; (first | rw [if_pos (show 0 < rows.length by omega), if_pos (show 0 < cols.length by omega)] | rw [if_pos (show 0 < rows.length by omega), if_neg (show ¬ 0 < cols.length by omega)] | rw [if_neg (show ¬ 0 < rows.length by omega), if_pos (show 0 < cols.length by omega)] | rw [if_neg (show ¬ 0 < rows.length by omega), if_neg (show ¬ 0 < cols.length by omega)]); rw [Bool.eq_iff_iff]; simp; try omega
   exact .finVE [.r [(6, Xv 1 (decide (r.h > 0)) X0), (7, Xv 1 (decide (r.h > 0)) X0), (8, X (Xk (decide (r.h > 0)))), (11, Xv 1 (decide (r.h > 0) && decide (r.w > 0)) X0), (13, Xv 1 (decide (r.h > 0) && decide (r.w > 0)) X0), (14, Xv 2 (decide (r.h > 0) && decide (r.w > 0)) (Xn (r.h + r.w))), (15, Xv 1 (decide (r.h > 0) && decide (r.w > 0)) X0), (16, X (Xk (decide (r.h > 0) && decide (r.w > 0))))]] [] [] (fun (z0, z1) => (.tup [.t (rectT z0), VB z1], [])) ((r : Rect), (((decide (r.h > 0) && decide (r.w > 0)) && decide ((r.h + r.w) > 2)) : Bool)) (((thrR r rows cols) : Rect), ((thrB (thrR r rows cols)) : Bool)) (pr e7 e8)
end Go.Ch
end
section
set_option linter.unusedVariables false
set_option linter.unusedSimpArgs false
set_option maxRecDepth 100000
set_option maxHeartbeats 4000000
open Go Go.Proofs Go.Ab
namespace Go.Ch
theorem fc_moved (l : List Cell) (rows cols : List AxStep) (hl : l.length ≤ 100000000000) (ha : CAN 1000000000000 l) (hr : ∀ c ∈ l, PIn rows c.row) (hc : ∀ c ∈ l, PIn cols c.col) : FC Tryz.prog 36 [VL 5 cellT l, VL 2 stepT rows, VL 2 stepT cols] (app emp []) (VL 5 cellT (movL l rows cols)) (app emp []) := by
 refine .go Tryz.f36 ?_
 refine .len 0 (fun hl0 => ?_)
 refine .len 1 (fun hl1 => ?_)
 refine .len 2 (fun hl2 => ?_)
 refine .loop (α := Nat × (List Cell)) [.r [], .r [], .r [(1, X (Xl cellT l))], .le (.nR 7 5)] 41 (fun (i, o) => ([(1, VL 2 stepT rows), (2, VL 2 stepT cols), (7, .row 40 o.length), (14, VL 5 cellT l), (15, VI (l.length : Int)), (16, VI (i : Int))], [(40, OR 5 cellT o)])) (fun (i, o) => i ≤ l.length ∧ o = movL (l.take i) rows cols) (fun (i, o) => l.length - i) (0, []) ?_ ?_
 ·
  exact ⟨by omega, rfl⟩
 rintro ⟨i, o⟩ I3 ih3
 try dsimp only at I3
 have ol : o.length ≤ i := by rw [I3.2]; have := movL_len (l.take i) rows cols; simp at this; omega
 refine .br [.r []] (decide ((i : Int) < (l.length : Int))) (fun h3 => ?_) (fun h3 => ?_)
 ·
  (try simp only [decide_eq_true_eq, decide_eq_false_iff_not, Int.not_lt, Int.not_le] at h3)
  have hm := getDC_mem (l := l) (i := i) (by omega)
  have ha1 := ha _ hm
  have hr1 := hr _ hm
  have hc1 := hc _ hm
  refine .br [.r [(0, X (Xi cellT l (i : Int)))], .r [(1, X (Xc1 89 (fc_clone ((l.getD i default)) (by omega)) X0))], .r [(1, X (Xl stepT rows))]] (decide ((rows.length : Int) > 0)) (fun h6 => ?_) (fun h6 => ?_)
  ·
   (try simp only [decide_eq_true_eq, decide_eq_false_iff_not, Int.not_lt, Int.not_le, gt_iff_lt] at h6)
   obtain ⟨hv1, hx1⟩ := hr1 (by omega)
   have hxx : ∀ x ∈ [(l.getD i default).row], 0 ≤ x ∧ x < oldI rows := fun x hx => by (have := List.mem_singleton.1 hx; omega)
   refine .br [.r [(4, X (Xc1 161 (fc_axApply rows [(((l.getD i default))).row] (by assumption) (by assumption) (by simp)) (rowC intT [(((l.getD i default))).row] X0)))], .r [(4, Xv 1 (!false) (Xi intT (List.map (fun x => placeS rows x 0 0) [(((l.getD i default))).row]) 0)), (5, Xv 1 (!false) X0), (6, Xv 1 (!false) X0), (7, X (Xk' false))]] (false || decide (((List.map (fun x => placeS rows x 0 0) [(((l.getD i default))).row]).getD 0 default) < 0)) (fun h8 => ?_) (fun h8 => ?_)
   ·
    (try simp only [decide_eq_true_eq, decide_eq_false_iff_not, Int.not_lt, Int.not_le, Bool.or_eq_true, Bool.or_eq_false_iff] at h8)
    refine .back [.r [(0, X (Xn ((i : Int) + 1)))]] [(40, 40)] (ih3 ((i + 1), o) ?_ ?_)
    ·
     refine ⟨by omega, ?_⟩
     rw [movL_succ (by omega), ← I3.2]
     unfold mvC mvR
     simp only [List.map_cons, List.map_nil, List.getD_cons_zero] at *
     (repeat' split) <;> first | rfl | (simp; done) | (exfalso; omega) | (exfalso; simp_all; done) | (exfalso; simp_all; omega)
    ·
     ((try dsimp only); omega)
   ·
    (try simp only [decide_eq_true_eq, decide_eq_false_iff_not, Int.not_lt, Int.not_le, Bool.or_eq_true, Bool.or_eq_false_iff] at h8)
    refine .br [.r [(1, X (Xi intT (List.map (fun x => placeS rows x 0 0) [(((l.getD i default))).row]) 0))], .r [(1, X (Xl stepT cols))]] (decide ((cols.length : Int) > 0)) (fun h10 => ?_) (fun h10 => ?_)
    ·
     (try simp only [decide_eq_true_eq, decide_eq_false_iff_not, Int.not_lt, Int.not_le, gt_iff_lt] at h10)
     obtain ⟨hv2, hx2⟩ := hc1 (by omega)
     have hyy : ∀ x ∈ [(l.getD i default).col], 0 ≤ x ∧ x < oldI cols := fun x hx => by (have := List.mem_singleton.1 hx; omega)
     refine .br [.r [(4, X (Xc1 369 (fc_axApply cols [(((l.getD i default))).col] (by assumption) (by assumption) (by simp)) (rowC intT [(((l.getD i default))).col] X0)))], .r [(4, Xv 1 (!false) (Xi intT (List.map (fun x => placeS cols x 0 0) [(((l.getD i default))).col]) 0)), (5, Xv 1 (!false) X0), (6, Xv 1 (!false) X0), (7, X (Xk' false))]] (false || decide (((List.map (fun x => placeS cols x 0 0) [(((l.getD i default))).col]).getD 0 default) < 0)) (fun h12 => ?_) (fun h12 => ?_)
     ·
      (try simp only [decide_eq_true_eq, decide_eq_false_iff_not, Int.not_lt, Int.not_le, Bool.or_eq_true, Bool.or_eq_false_iff] at h12)
      refine .back [.r [(0, X (Xn ((i : Int) + 1)))]] [(40, 40)] (ih3 ((i + 1), o) ?_ ?_)
      ·
       refine ⟨by omega, ?_⟩
       rw [movL_succ (by omega), ← I3.2]
       unfold mvC mvR
       simp only [List.map_cons, List.map_nil, List.getD_cons_zero] at *
       (repeat' split) <;> first | rfl | (simp; done) | (exfalso; omega) | (exfalso; simp_all; done) | (exfalso; simp_all; omega)
      ·
       ((try dsimp only); omega)
     ·
      (try simp only [decide_eq_true_eq, decide_eq_false_iff_not, Int.not_lt, Int.not_le, Bool.or_eq_true, Bool.or_eq_false_iff] at h12)
      refine .back [.r [(1, X (Xi intT (List.map (fun x => placeS cols x 0 0) [(((l.getD i default))).col]) 0))], .r [(3, X (rowC cellT [({ row := ((List.map (fun x => placeS rows x 0 0) [(((l.getD i default))).row]).getD 0 default), col := ((List.map (fun x => placeS cols x 0 0) [(((l.getD i default))).col]).getD 0 default), text := (((l.getD i default))).text, ref := (((l.getD i default))).ref, attrs := (((l.getD i default))).attrs } : Cell)] (Xap 5 cellT 40 o [({ row := ((List.map (fun x => placeS rows x 0 0) [(((l.getD i default))).row]).getD 0 default), col := ((List.map (fun x => placeS cols x 0 0) [(((l.getD i default))).col]).getD 0 default), text := (((l.getD i default))).text, ref := (((l.getD i default))).ref, attrs := (((l.getD i default))).attrs } : Cell)])))], .r [(0, X (Xn ((i : Int) + 1)))]] [(40, 40)] (ih3 ((i + 1), (o ++ [({ row := ((List.map (fun x => placeS rows x 0 0) [(((l.getD i default))).row]).getD 0 default), col := ((List.map (fun x => placeS cols x 0 0) [(((l.getD i default))).col]).getD 0 default), text := (((l.getD i default))).text, ref := (((l.getD i default))).ref, attrs := (((l.getD i default))).attrs } : Cell)])) ?_ ?_)
      ·
       refine ⟨by omega, ?_⟩
       rw [movL_succ (by omega), ← I3.2]
       unfold mvC mvR
       simp only [List.map_cons, List.map_nil, List.getD_cons_zero] at *
       (repeat' split) <;> first | rfl | (simp; done) | (exfalso; omega) | (exfalso; simp_all; done) | (exfalso; simp_all; omega)
      ·
       ((try dsimp only); omega)
    ·
     (try simp only [decide_eq_true_eq, decide_eq_false_iff_not, Int.not_lt, Int.not_le, gt_iff_lt] at h10)
     refine .back [.r [(3, X (rowC cellT [({ row := ((List.map (fun x => placeS rows x 0 0) [(((l.getD i default))).row]).getD 0 default), col := (((l.getD i default))).col, text := (((l.getD i default))).text, ref := (((l.getD i default))).ref, attrs := (((l.getD i default))).attrs } : Cell)] (Xap 5 cellT 40 o [({ row := ((List.map (fun x => placeS rows x 0 0) [(((l.getD i default))).row]).getD 0 default), col := (((l.getD i default))).col, text := (((l.getD i default))).text, ref := (((l.getD i default))).ref, attrs := (((l.getD i default))).attrs } : Cell)])))], .r [(0, X (Xn ((i : Int) + 1)))]] [(40, 40)] (ih3 ((i + 1), (o ++ [({ row := ((List.map (fun x => placeS rows x 0 0) [(((l.getD i default))).row]).getD 0 default), col := (((l.getD i default))).col, text := (((l.getD i default))).text, ref := (((l.getD i default))).ref, attrs := (((l.getD i default))).attrs } : Cell)])) ?_ ?_)
     ·
      refine ⟨by omega, ?_⟩
      rw [movL_succ (by omega), ← I3.2]
      unfold mvC mvR
      simp only [List.map_cons, List.map_nil, List.getD_cons_zero] at *
      (repeat' split) <;> first | rfl | (simp; done) | (exfalso; omega) | (exfalso; simp_all; done) | (exfalso; simp_all; omega)
     ·
      ((try dsimp only); omega)
  ·
   (try simp only [decide_eq_true_eq, decide_eq_false_iff_not, Int.not_lt, Int.not_le, gt_iff_lt] at h6)
   refine .br [.r [(1, X (Xl stepT cols))]] (decide ((cols.length : Int) > 0)) (fun h10 => ?_) (fun h10 => ?_)
   ·
    (try simp only [decide_eq_true_eq, decide_eq_false_iff_not, Int.not_lt, Int.not_le, gt_iff_lt] at h10)
    obtain ⟨hv2, hx2⟩ := hc1 (by omega)
    have hyy : ∀ x ∈ [(l.getD i default).col], 0 ≤ x ∧ x < oldI cols := fun x hx => by (have := List.mem_singleton.1 hx; omega)
    refine .br [.r [(4, X (Xc1 185 (fc_axApply cols [(((l.getD i default))).col] (by assumption) (by assumption) (by simp)) (rowC intT [(((l.getD i default))).col] X0)))], .r [(4, Xv 1 (!false) (Xi intT (List.map (fun x => placeS cols x 0 0) [(((l.getD i default))).col]) 0)), (5, Xv 1 (!false) X0), (6, Xv 1 (!false) X0), (7, X (Xk' false))]] (false || decide (((List.map (fun x => placeS cols x 0 0) [(((l.getD i default))).col]).getD 0 default) < 0)) (fun h12 => ?_) (fun h12 => ?_)
    ·
     (try simp only [decide_eq_true_eq, decide_eq_false_iff_not, Int.not_lt, Int.not_le, Bool.or_eq_true, Bool.or_eq_false_iff] at h12)
     refine .back [.r [(0, X (Xn ((i : Int) + 1)))]] [(40, 40)] (ih3 ((i + 1), o) ?_ ?_)
     ·
      refine ⟨by omega, ?_⟩
      rw [movL_succ (by omega), ← I3.2]
      unfold mvC mvR
      simp only [List.map_cons, List.map_nil, List.getD_cons_zero] at *
      (repeat' split) <;> first | rfl | (simp; done) | (exfalso; omega) | (exfalso; simp_all; done) | (exfalso; simp_all; omega)
     ·
      ((try dsimp only); omega)
    ·
     (try simp only [decide_eq_true_eq, decide_eq_false_iff_not, Int.not_lt, Int.not_le, Bool.or_eq_true, Bool.or_eq_false_iff] at h12)
     refine .back [.r [(1, X (Xi intT (List.map (fun x => placeS cols x 0 0) [(((l.getD i default))).col]) 0))], .r [(3, X (rowC cellT [({ row := (((l.getD i default))).row, col := ((List.map (fun x => placeS cols x 0 0) [(((l.getD i default))).col]).getD 0 default), text := (((l.getD i default))).text, ref := (((l.getD i default))).ref, attrs := (((l.getD i default))).attrs } : Cell)] (Xap 5 cellT 40 o [({ row := (((l.getD i default))).row, col := ((List.map (fun x => placeS cols x 0 0) [(((l.getD i default))).col]).getD 0 default), text := (((l.getD i default))).text, ref := (((l.getD i default))).ref, attrs := (((l.getD i default))).attrs } : Cell)])))], .r [(0, X (Xn ((i : Int) + 1)))]] [(40, 40)] (ih3 ((i + 1), (o ++ [({ row := (((l.getD i default))).row, col := ((List.map (fun x => placeS cols x 0 0) [(((l.getD i default))).col]).getD 0 default), text := (((l.getD i default))).text, ref := (((l.getD i default))).ref, attrs := (((l.getD i default))).attrs } : Cell)])) ?_ ?_)
     ·
      refine ⟨by omega, ?_⟩
      rw [movL_succ (by omega), ← I3.2]
      unfold mvC mvR
      simp only [List.map_cons, List.map_nil, List.getD_cons_zero] at *
      (repeat' split) <;> first | rfl | (simp; done) | (exfalso; omega) | (exfalso; simp_all; done) | (exfalso; simp_all; omega)
     ·
      ((try dsimp only); omega)
   ·
    (try simp only [decide_eq_true_eq, decide_eq_false_iff_not, Int.not_lt, Int.not_le, gt_iff_lt] at h10)
    refine .back [.r [(3, X (rowC cellT [(((l.getD i default)))] (Xap 5 cellT 40 o [(((l.getD i default)))])))], .r [(0, X (Xn ((i : Int) + 1)))]] [(40, 40)] (ih3 ((i + 1), (o ++ [(((l.getD i default)))])) ?_ ?_)
    ·
     refine ⟨by omega, ?_⟩
     rw [movL_succ (by omega), ← I3.2]
     unfold mvC mvR
     simp only [List.map_cons, List.map_nil, List.getD_cons_zero] at *
     (repeat' split) <;> first | rfl | (simp; done) | (exfalso; omega) | (exfalso; simp_all; done) | (exfalso; simp_all; omega)
    ·
     ((try dsimp only); omega)
 ·
  (try simp only [decide_eq_true_eq, decide_eq_false_iff_not, Int.not_lt, Int.not_le] at h3)
  have e1 : ((movL l rows cols) : List Cell) = o := by
   rw [I3.2, List.take_of_length_le (by omega)]
  exact .finE [.r [], .le (.fr 6 [(o.length : Nat) = (List.map cellT o).length] ⟨lm, trivial⟩)] [] (fun z0 => (VL 5 cellT z0, [])) (o : List Cell) ((movL l rows cols) : List Cell) e1

end Go.Ch
end
section
set_option linter.unusedVariables false
set_option linter.unusedSimpArgs false
set_option maxRecDepth 100000
set_option maxHeartbeats 4000000
open Go Go.Proofs Go.Ab
namespace Go.Ch
theorem fc_gput (l news : List Cell) (hl : l.length ≤ 100000000000) (hn : news.length ≤ 100000000000) (ha : CAN 1000000000000 news) : FC Tryz.prog 53 [VL 5 cellT l, VL 5 cellT news] (app emp []) (VL 5 cellT (putL news l)) (app emp []) := by
 refine .go Tryz.f53 ?_
 refine .len 0 (fun hl0 => ?_)
 refine .len 1 (fun hl1 => ?_)
 refine .loop (α := Nat × Nat × (List Cell)) [.r [], .r [], .r [], .r [(1, X (Xl cellT news))], .le (.nR 5 5)] 49 (fun (i, k, o) => ([(0, VL 5 cellT l), (5, .row 48 o.length), (6, VI (i : Int)), (9, VL 5 cellT news), (10, VI (news.length : Int)), (11, VI (k : Int))], [(48, OR 5 cellT o)])) (fun (i, k, o) => k ≤ news.length ∧ i ≤ l.length ∧ o.length ≤ i + k ∧ putL news l = o ++ putL (news.drop k) (l.drop i)) (fun (i, k, o) => news.length - k) (0, 0, []) ?_ ?_
 ·
  exact ⟨by omega, by omega, by simp, rfl⟩
 rintro ⟨i, k, o⟩ I4 ih4
 try dsimp only at I4
 refine .br [.r []] (decide ((k : Int) < (news.length : Int))) (fun h4 => ?_) (fun h4 => ?_)
 ·
  (try simp only [decide_eq_true_eq, decide_eq_false_iff_not, Int.not_lt, Int.not_le] at h4)
  have hm := ha _ (getDC_mem (l := news) (i := k) (by omega))
  refine .loop (α := Nat × (List Cell)) [.r [(0, X (Xi cellT news (k : Int)))]] 89 (fun (j, p) => ([(0, VL 5 cellT l), (5, .row 48 p.length), (6, VI (j : Int)), (8, .ptr 73 0), (9, VL 5 cellT news), (10, VI (news.length : Int)), (11, VI (k : Int))], [(48, OR 5 cellT p), (73, .box [VI (((news.getD k default)).row), VI (((news.getD k default)).col), VS (((news.getD k default)).text), VI (((news.getD k default)).ref), VL 2 attrT (((news.getD k default)).attrs)])])) (fun (j, p) => j ≤ l.length ∧ p.length ≤ j + k ∧ putL news l = p ++ putC (news.getD k default) (putL (news.drop (k + 1))) (l.drop j)) (fun (j, p) => l.length - j) (i, o) ?_ ?_
  ·
   exact ⟨by omega, by omega, by rw [I4.2.2.2, dropC (l := news) (by omega), putL]⟩
  rintro ⟨j, p⟩ I6 ih6
  try dsimp only at I6
  skip
  refine .br [.r [(2, X (Xl cellT l)), (7, Xv 2 (decide ((j : Int) < (l.length : Int))) (Xi cellT l (j : Int))), (8, Xv 1 (decide ((j : Int) < (l.length : Int))) X0), (10, Xv 2 (decide ((j : Int) < (l.length : Int))) (Xc0 (fc_order ((l.getD j default)) ((news.getD k default))) X0)), (11, Xv 1 (decide ((j : Int) < (l.length : Int))) X0), (12, X (Xk (decide ((j : Int) < (l.length : Int)))))]] (decide ((j : Int) < (l.length : Int)) && decide ((ordC ((l.getD j default)) ((news.getD k default))) < 0)) (fun h6 => ?_) (fun h6 => ?_)
  ·
   (try simp only [decide_eq_true_eq, decide_eq_false_iff_not, Int.not_lt, Int.not_le, Bool.and_eq_true, Bool.and_eq_false_iff, Bool.not_eq_true', Bool.not_eq_false'] at h6)
   refine .back [.r [(3, X (Xi cellT l (j : Int))), (6, X (rowC cellT [((l.getD j default))] (Xap 5 cellT 48 p [((l.getD j default))])))], .r [(1, X (Xn ((j : Int) + 1)))]] [(48, 48), (73, 73)] (ih6 ((j + 1), (p ++ [((l.getD j default))])) ?_ ?_)
   ·
    refine ⟨by omega, by simp; omega, ?_⟩
    rw [I6.2.2, putC_lt (by omega) (by omega), List.append_assoc]
    rfl
   ·
    ((try dsimp only); omega)
  ·
   (try simp only [decide_eq_true_eq, decide_eq_false_iff_not, Int.not_lt, Int.not_le, Bool.and_eq_true, Bool.and_eq_false_iff, Bool.not_eq_true', Bool.not_eq_false'] at h6)
   refine .br [.r [(2, X (Xl cellT l)), (7, Xv 2 (decide ((j : Int) < (l.length : Int))) (Xi cellT l (j : Int))), (8, Xv 1 (decide ((j : Int) < (l.length : Int))) X0), (10, Xv 2 (decide ((j : Int) < (l.length : Int))) (Xc0 (fc_order ((l.getD j default)) ((news.getD k default))) X0)), (11, Xv 1 (decide ((j : Int) < (l.length : Int))) X0), (12, X (Xk (decide ((j : Int) < (l.length : Int)))))]] (decide ((j : Int) < (l.length : Int)) && ((ordC ((l.getD j default)) ((news.getD k default))) == 0)) (fun h9 => ?_) (fun h9 => ?_)
   ·
    (try simp only [decide_eq_true_eq, decide_eq_false_iff_not, Int.not_lt, Int.not_le, Bool.and_eq_true, Bool.and_eq_false_iff, Bool.not_eq_true', Bool.not_eq_false', beq_iff_eq, beq_eq_false_iff_ne, ne_eq] at h9)
    refine .br [.r [(1, X (Xn ((j : Int) + 1)))], .r [(1, X (Xc0 (fc_empty ((news.getD k default))) X0))]] (!(emptyC ((news.getD k default)))) (fun h11 => ?_) (fun h11 => ?_)
    ·
     (try simp only [Bool.not_eq_true', Bool.not_eq_false'] at h11)
     refine .back [.r [(2, X (Xc1 361 (fc_clone ((news.getD k default)) (by omega)) X0)), (4, X (rowC cellT [((news.getD k default))] (Xap 5 cellT 48 p [((news.getD k default))])))], .r [(0, X (Xn ((k : Int) + 1)))]] [(48, 48)] (ih4 ((j + 1), (k + 1), (p ++ [((news.getD k default))])) ?_ ?_)
     ·
      refine ⟨by omega, by omega, by ((try simp only [List.length_append, List.length_cons, List.length_nil]); omega), ?_⟩
      rw [I6.2.2]
      (first | rw [putC_eq (by omega) (by omega)] | rw [putC_gt (fun h => by omega)])
      (first | rw [if_pos (by assumption)] | rw [if_neg (by simp_all)])
      simp
     ·
      ((try dsimp only); omega)
    ·
     (try simp only [Bool.not_eq_true', Bool.not_eq_false'] at h11)
     refine .back [.r [(0, X (Xn ((k : Int) + 1)))]] [(48, 48)] (ih4 ((j + 1), (k + 1), p) ?_ ?_)
     ·
      refine ⟨by omega, by omega, by ((try simp only [List.length_append, List.length_cons, List.length_nil]); omega), ?_⟩
      rw [I6.2.2]
      (first | rw [putC_eq (by omega) (by omega)] | rw [putC_gt (fun h => by omega)])
      (first | rw [if_pos (by assumption)] | rw [if_neg (by simp_all)])
      simp
     ·
      ((try dsimp only); omega)
   ·
    (try simp only [decide_eq_true_eq, decide_eq_false_iff_not, Int.not_lt, Int.not_le, Bool.and_eq_true, Bool.and_eq_false_iff, Bool.not_eq_true', Bool.not_eq_false', beq_iff_eq, beq_eq_false_iff_ne, ne_eq] at h9)
    refine .br [.r [(1, X (Xc0 (fc_empty ((news.getD k default))) X0))]] (!(emptyC ((news.getD k default)))) (fun h11 => ?_) (fun h11 => ?_)
    ·
     (try simp only [Bool.not_eq_true', Bool.not_eq_false'] at h11)
     refine .back [.r [(2, X (Xc1 337 (fc_clone ((news.getD k default)) (by omega)) X0)), (4, X (rowC cellT [((news.getD k default))] (Xap 5 cellT 48 p [((news.getD k default))])))], .r [(0, X (Xn ((k : Int) + 1)))]] [(48, 48)] (ih4 (j, (k + 1), (p ++ [((news.getD k default))])) ?_ ?_)
     ·
      refine ⟨by omega, by omega, by ((try simp only [List.length_append, List.length_cons, List.length_nil]); omega), ?_⟩
      rw [I6.2.2]
      (first | rw [putC_eq (by omega) (by omega)] | rw [putC_gt (fun h => by omega)])
      (first | rw [if_pos (by assumption)] | rw [if_neg (by simp_all)])
      simp
     ·
      ((try dsimp only); omega)
    ·
     (try simp only [Bool.not_eq_true', Bool.not_eq_false'] at h11)
     refine .back [.r [(0, X (Xn ((k : Int) + 1)))]] [(48, 48)] (ih4 (j, (k + 1), p) ?_ ?_)
     ·
      refine ⟨by omega, by omega, by ((try simp only [List.length_append, List.length_cons, List.length_nil]); omega), ?_⟩
      rw [I6.2.2]
      (first | rw [putC_eq (by omega) (by omega)] | rw [putC_gt (fun h => by omega)])
      (first | rw [if_pos (by assumption)] | rw [if_neg (by simp_all)])
      simp
     ·
      ((try dsimp only); omega)
 ·
  (try simp only [decide_eq_true_eq, decide_eq_false_iff_not, Int.not_lt, Int.not_le] at h4)
  have e1 : ((putL news l) : List Cell) = (o ++ (l.drop i)) := by
   rw [I4.2.2.2, dropC_end (l := news) (by omega), putL]
  exact .finE [.r [(3, X (Xsd cellT 5 l (i : Int))), (4, X (Xap 5 cellT 48 o (l.drop i)))], .le (.fr 4 [(((o ++ (l.drop i)).length) : Nat) = (List.map cellT (o ++ (l.drop i))).length] ⟨lm, trivial⟩)] [] (fun z0 => (VL 5 cellT z0, [])) ((o ++ (l.drop i)) : List Cell) ((putL news l) : List Cell) e1

end Go.Ch
end
section
set_option linter.unusedVariables false
namespace Go.Ch
open Go Go.Ab

theorem getDX_mem {α : Type} [Inhabited α] {l : List α} {i : Nat} (h : i < l.length) : l.getD i default ∈ l := by
  rw [show l.getD i default = l[i] by simp [List.getD, List.getElem?_eq_getElem h]]; exact List.getElem_mem _
theorem take_succD {α : Type} [Inhabited α] {l : List α} {i : Nat} (h : i < l.length) : l.take (i + 1) = l.take i ++ [l.getD i default] := by
  rw [List.take_succ_eq_append_getElem h]; simp [List.getD, List.getElem?_eq_getElem h]
theorem drop_succD {α : Type} [Inhabited α] {l : List α} {i : Nat} (h : i < l.length) : l.drop i = l.getD i default :: l.drop (i + 1) := by
  rw [List.drop_eq_getElem_cons h]; simp [List.getD, List.getElem?_eq_getElem h]
theorem filt_succ {α : Type} [Inhabited α] (p : α → Bool) {l : List α} {i : Nat} (h : i < l.length) : (l.take (i + 1)).filter p = (l.take i).filter p ++ (if p (l.getD i default) = true then [l.getD i default] else []) := by
  rw [take_succD h, List.filter_append]
  congr 1
  rw [List.filter_cons, List.filter_nil]
/-! ### Back, rects, reach -/
def outQ (l k : List Rect) : List Rect := l.filter (fun r => !hasQ k r)
def backE (b g : Grid) (rows cols : List AxStep) : GEd := ⟨rows, cols, difL g.cells b.cells, outQ b.merges g.merges, outQ g.merges b.merges⟩
def thrO (rows cols : List AxStep) (r : Rect) : Option Rect := if thrB (thrR r rows cols) = true then some (thrR r rows cols) else none
def rectL (l : List Rect) (rows cols : List AxStep) : List Rect := l.filterMap (thrO rows cols)
theorem rectL_succ {l : List Rect} {rows cols : List AxStep} {i : Nat} (h : i < l.length) : rectL (l.take (i + 1)) rows cols = rectL (l.take i) rows cols ++ (if thrB (thrR (l.getD i default) rows cols) = true then [thrR (l.getD i default) rows cols] else []) := by
  unfold rectL
  rw [take_succD h, List.filterMap_append]
  congr 1
  rw [List.filterMap_cons, List.filterMap_nil]
  unfold thrO
  by_cases h : thrB (thrR (l.getD i default) rows cols) = true
  · rw [if_pos h, if_pos h]
  · rw [if_neg h, if_neg h]
theorem rectL_len (l : List Rect) (rows cols : List AxStep) : (rectL l rows cols).length ≤ l.length := List.length_filterMap_le _ _
/-- A rectangle that both axes' changes can take. -/
def QIn (rows cols : List AxStep) (r : Rect) : Prop := RB r ∧ AxIn rows r.row (r.row + r.h) ∧ AxIn cols r.col (r.col + r.w)
def mxS (a : List AxStep) : Int := if 0 < a.length then oldI a else 2147483647
def RchOk (e : GEd) (h w : Int) : Prop := (∀ c ∈ e.cells, c.row < h ∧ c.col < w) ∧ (∀ r ∈ e.split, insB r h w = true) ∧ ∀ r ∈ e.merge, insB r h w = true

/-! ### What the document says -/
def liesB (r : Rect) (m n : Int) : Bool := insB r m n
theorem lies_eq {r : Rect} {m n : Int} (hm : 0 ≤ m) (hn : 0 ≤ n) : insB r m n = decide (((0 ≤ r.row ∧ r.row ≤ m - 1) ∧ (0 ≤ r.col ∧ r.col ≤ n - 1)) ∧ (1 ≤ r.h ∧ r.h ≤ m - r.row) ∧ (1 ≤ r.w ∧ r.w ≤ n - r.col)) := by
  unfold insB
  rw [Bool.eq_iff_iff]
  simp only [decide_eq_true_eq]
  omega
def sameCells (a b : List Cell) (i : Nat) : Bool := if i < a.length then (if sameC (a.getD i default) (b.getD i default) = true then sameCells a b (i + 1) else false) else true
termination_by a.length - i
def sameCs (a b : List Cell) : Bool := if a.length = b.length then sameCells a b 0 else false
def sameRects (a b : List Rect) (i : Nat) : Bool := if i < a.length then (if a.getD i default = b.getD i default then sameRects a b (i + 1) else false) else true
termination_by a.length - i
def sameQs (a b : List Rect) : Bool := if a.length = b.length then sameRects a b 0 else false
def sameG (a b : Grid) : Bool := ((a.rows == b.rows && a.cols == b.cols) && sameCs a.cells b.cells) && sameQs a.merges b.merges
def sumN (l : List AxStep) : Int := ((ex l).length : Int)
def pA (a b : List AxStep) : List AxStep := if a.length = 0 ∨ b.length = 0 then a else pairX1 a b
def pB (a b : List AxStep) : List AxStep := if a.length = 0 ∨ b.length = 0 then b else pairX2 a b
structure PairOk (a b : List AxStep) : Prop where
  va : Valid a
  vb : Valid b
  eq : oldI a = oldI b
  c1 : checkX (pairX1 a b) = 0
  c2 : checkX (pairX2 a b) = 0
def smallB (g : Grid) (e : GEd) : Bool := ((decide (g.rows ≤ 30) && decide (g.cols ≤ 30)) && decide (sumN e.rows ≤ 60)) && decide (sumN e.cols ≤ 60)
def shareB (a b : Rect) : Bool := decide (max a.row b.row < min (a.row + a.h) (b.row + b.h)) && decide (max a.col b.col < min (a.col + a.w) (b.col + b.w))
theorem share_eq {a b : Rect} (h1 : 1 ≤ a.h) (h2 : 1 ≤ a.w) (h3 : 1 ≤ b.h) (h4 : 1 ≤ b.w) : shareB a b = meetB a b := by
  unfold shareB meetB
  rw [Bool.eq_iff_iff]
  simp only [Bool.and_eq_true, decide_eq_true_eq]
  omega
end Go.Ch
end
section
set_option linter.unusedVariables false
set_option linter.unusedSimpArgs false
set_option maxRecDepth 100000
set_option maxHeartbeats 4000000
open Go Go.Proofs Go.Ab
namespace Go.Ch
theorem fc_rects (l : List Rect) (rows cols : List AxStep) (hl : l.length ≤ 100000000000) (hq : ∀ r ∈ l, QIn rows cols r) : FC Tryz.prog 37 [VL 4 rectT l, VL 2 stepT rows, VL 2 stepT cols] (app emp []) (VL 4 rectT (rectL l rows cols)) (app emp []) := by
 refine .go Tryz.f37 ?_
 refine .len 0 (fun hl0 => ?_)
 refine .len 1 (fun hl1 => ?_)
 refine .len 2 (fun hl2 => ?_)
 refine .loop (α := Nat × (List Rect)) [.r [], .r [], .r [(1, X (Xl rectT l))], .le (.nR 7 4)] 41 (fun (i, o) => ([(1, VL 2 stepT rows), (2, VL 2 stepT cols), (7, .row 40 o.length), (12, VL 4 rectT l), (13, VI (l.length : Int)), (14, VI (i : Int))], [(40, OR 4 rectT o)])) (fun (i, o) => i ≤ l.length ∧ o = rectL (l.take i) rows cols) (fun (i, o) => l.length - i) (0, []) ?_ ?_
 ·
  exact ⟨by omega, rfl⟩
 rintro ⟨i, o⟩ I3 ih3
 try dsimp only at I3
 have ol : o.length ≤ i := by rw [I3.2]; have := rectL_len (l.take i) rows cols; simp at this; omega
 refine .br [.r []] (decide ((i : Int) < (l.length : Int))) (fun h3 => ?_) (fun h3 => ?_)
 ·
  (try simp only [decide_eq_true_eq, decide_eq_false_iff_not, Int.not_lt, Int.not_le] at h3)
  obtain ⟨g1, g2, g3⟩ := hq _ (getDX_mem (l := l) (i := i) (by omega))
  refine .br [.r [(0, X (Xi rectT l (i : Int)))], .r [(3, X (Xc0 (fc_through ((l.getD i default)) rows cols (by assumption) (by assumption) (by assumption)) X0))], .r []] (thrB (thrR ((l.getD i default)) rows cols)) (fun h6 => ?_) (fun h6 => ?_)
  ·
   refine .back [.r [(3, X (rowC rectT [((thrR ((l.getD i default)) rows cols))] (Xap 4 rectT 40 o [((thrR ((l.getD i default)) rows cols))])))], .r [(0, X (Xn ((i : Int) + 1)))]] [(40, 40)] (ih3 ((i + 1), (o ++ [((thrR ((l.getD i default)) rows cols))])) ?_ ?_)
   ·
    refine ⟨by omega, ?_⟩
    rw [I3.2, rectL_succ (by omega)]
    simp only [h6, Bool.not_false, Bool.not_true, if_true, if_false, List.append_nil, Bool.false_eq_true]
   ·
    ((try dsimp only); omega)
  ·
   refine .back [.r [(0, X (Xn ((i : Int) + 1)))]] [(40, 40)] (ih3 ((i + 1), o) ?_ ?_)
   ·
    refine ⟨by omega, ?_⟩
    rw [I3.2, rectL_succ (by omega)]
    simp only [h6, Bool.not_false, Bool.not_true, if_true, if_false, List.append_nil, Bool.false_eq_true]
   ·
    ((try dsimp only); omega)
 ·
  (try simp only [decide_eq_true_eq, decide_eq_false_iff_not, Int.not_lt, Int.not_le] at h3)
  have e1 : ((rectL l rows cols) : List Rect) = o := by
   rw [I3.2, List.take_of_length_le (by omega)]
  exact .finE [.r [], .le (.fr 6 [(o.length : Nat) = (List.map rectT o).length] ⟨lm, trivial⟩)] [] (fun z0 => (VL 4 rectT z0, [])) (o : List Rect) ((rectL l rows cols) : List Rect) e1

theorem fc_reach (e : GEd) (rows cols : List AxStep) (hr : 0 < rows.length → Valid rows) (hc : 0 < cols.length → Valid cols) (he : e.cells.length ≤ 100000000000 ∧ e.split.length ≤ 100000000000 ∧ e.merge.length ≤ 100000000000) (hx : RchOk e (mxS rows) (mxS cols)) : FC Tryz.prog 35 [.t (gedT e), VL 2 stepT rows, VL 2 stepT cols] (app emp []) (VB true) (app emp []) := by
 refine .go Tryz.f35 ?_
 refine .len 1 (fun hl1 => ?_)
 refine .len 2 (fun hl2 => ?_)
 unfold RchOk mxS at hx
 refine .br [.r [], .r [], .r [(1, X (Xl stepT rows))]] (decide ((rows.length : Int) > 0)) (fun h2 => ?_) (fun h2 => ?_)
 ·
  (try simp only [decide_eq_true_eq, decide_eq_false_iff_not, Int.not_lt, Int.not_le, gt_iff_lt] at h2)
  have hr0 : 0 < rows.length := by omega
  have hv := hr hr0
  have hv1 := hv.2.1
  have hw1 : 0 ≤ oldI rows ∧ oldI rows ≤ 1000000000000 := by (unfold oldI; omega)
  refine .br [.r [(1, X (Xc0 (fc_axLengths rows (by assumption)) X0))], .r [(1, X (Xl stepT cols))]] (decide ((cols.length : Int) > 0)) (fun h4 => ?_) (fun h4 => ?_)
  ·
   (try simp only [decide_eq_true_eq, decide_eq_false_iff_not, Int.not_lt, Int.not_le, gt_iff_lt] at h4)
   have hc0 : 0 < cols.length := by omega
   have hv2 := hc hc0
   have hv3 := hv2.2.1
   have hw2 : 0 ≤ oldI cols ∧ oldI cols ≤ 1000000000000 := by (unfold oldI; omega)
   refine .loop (α := Nat) [.r [(1, X (Xc0 (fc_axLengths cols (by assumption)) X0))], .r [(2, X (Xl cellT e.cells))]] 224 (fun i => ([(3, .ptr 0 0), (7, VI (oldI rows)), (8, VI (oldI cols)), (34, VL 5 cellT e.cells), (35, VI (e.cells.length : Int)), (36, VI (i : Int))], [(0, .box [VL 2 stepT e.rows, VL 2 stepT e.cols, VL 5 cellT e.cells, VL 4 rectT e.split, VL 4 rectT e.merge])])) (fun i => i ≤ e.cells.length) (fun i => e.cells.length - i) (0 : Nat) ?_ ?_
   ·
    (try dsimp only); omega
   rintro i I7 ih7
   try dsimp only at I7
   first | rw [if_pos (show 0 < rows.length by omega)] at hx | rw [if_neg (show ¬ 0 < rows.length by omega)] at hx
   first | rw [if_pos (show 0 < cols.length by omega)] at hx | rw [if_neg (show ¬ 0 < cols.length by omega)] at hx
   refine .br [.r []] (decide ((i : Int) < (e.cells.length : Int))) (fun h7 => ?_) (fun h7 => ?_)
   ·
    (try simp only [decide_eq_true_eq, decide_eq_false_iff_not, Int.not_lt, Int.not_le] at h7)
    have hm := hx.1 _ (getDX_mem (l := e.cells) (i := i) (by omega))
    refine .br [.r [(0, X (Xi cellT e.cells (i : Int)))], .r [(6, Xv 1 (!(decide ((((e.cells.getD i default)).row) ≥ (oldI rows)))) X0), (8, Xv 2 (!(decide ((((e.cells.getD i default)).row) ≥ (oldI rows)))) X0), (9, X (Xk' (decide ((((e.cells.getD i default)).row) ≥ (oldI rows)))))]] (decide ((((e.cells.getD i default)).row) ≥ (oldI rows)) || decide ((((e.cells.getD i default)).col) ≥ (oldI cols))) (fun h9 => ?_) (fun h9 => ?_)
    ·
     (try simp only [decide_eq_true_eq, decide_eq_false_iff_not, Int.not_lt, Int.not_le, ge_iff_le, Bool.or_eq_true, Bool.or_eq_false_iff] at h9)
     exfalso
     omega
    ·
     (try simp only [decide_eq_true_eq, decide_eq_false_iff_not, Int.not_lt, Int.not_le, ge_iff_le, Bool.or_eq_true, Bool.or_eq_false_iff] at h9)
     refine .back [.r [(0, X (Xn ((i : Int) + 1)))]] [(0, 0)] (ih7 ((i + 1) : Nat) ?_ ?_)
     ·
      (try dsimp only); omega
     ·
      ((try dsimp only); omega)
   ·
    (try simp only [decide_eq_true_eq, decide_eq_false_iff_not, Int.not_lt, Int.not_le] at h7)
    refine .loop (α := Nat) [.r [], .u, .r [], .t, .r [(0, X (Xa (Xc ((0:Int) ≤ 0)) (Xc ((0 : Int) < ((2 : Nat) : Int)))) ⟨by decide, by decide⟩)], .r [(1, X (Xl rectT e.split))]] 328 (fun j => ([(7, VI (oldI rows)), (8, VI (oldI cols)), (55, .t (.agg [TL 4 rectT e.split, TL 4 rectT e.merge])), (56, VI 0), (59, VL 4 rectT e.split), (60, VI (e.split.length : Int)), (61, VI (j : Int))], [])) (fun j => j ≤ (e.split).length) (fun j => (e.split).length - j) (0 : Nat) ?_ ?_
    ·
     (try dsimp only); omega
    rintro j I16 ih16
    try dsimp only at I16
    refine .br [.r []] (decide ((j : Int) < (e.split.length : Int))) (fun h16 => ?_) (fun h16 => ?_)
    ·
     (try simp only [decide_eq_true_eq, decide_eq_false_iff_not, Int.not_lt, Int.not_le] at h16)
     have hin : insB ((e.split).getD j default) (oldI rows) (oldI cols) = true := by first | exact hx.2.1 _ (getDX_mem (by omega)) | exact hx.2.2 _ (getDX_mem (by omega))
     refine .br [.r [(0, X (Xi rectT e.split (j : Int)))], .r [(3, X (Xc0 (fc_inside ((e.split.getD j default)) (oldI rows) (oldI cols) (by omega)) X0))]] (!(insB ((e.split.getD j default)) (oldI rows) (oldI cols))) (fun h18 => ?_) (fun h18 => ?_)
     ·
      (try simp only [Bool.not_eq_true', Bool.not_eq_false'] at h18)
      exfalso
      rw [hin] at h18; cases h18
     ·
      (try simp only [Bool.not_eq_true', Bool.not_eq_false'] at h18)
      refine .back [.r [(0, X (Xn ((j : Int) + 1)))]] [] (ih16 ((j + 1) : Nat) ?_ ?_)
      ·
       (try dsimp only); omega
      ·
       ((try dsimp only); omega)
    ·
     (try simp only [decide_eq_true_eq, decide_eq_false_iff_not, Int.not_lt, Int.not_le] at h16)
     refine .loop (α := Nat) [.r [], .u, .r [], .t, .r [(0, X (Xa (Xc ((0:Int) ≤ 1)) (Xc ((1 : Int) < ((2 : Nat) : Int)))) ⟨by decide, by decide⟩)], .r [(1, X (Xl rectT e.merge))]] 400 (fun j => ([(7, VI (oldI rows)), (8, VI (oldI cols)), (55, .t (.agg [TL 4 rectT e.split, TL 4 rectT e.merge])), (56, VI 1), (59, VL 4 rectT e.merge), (60, VI (e.merge.length : Int)), (61, VI (j : Int))], [])) (fun j => j ≤ (e.merge).length) (fun j => (e.merge).length - j) (0 : Nat) ?_ ?_
     ·
      (try dsimp only); omega
     rintro j I16 ih16
     try dsimp only at I16
     refine .br [.r []] (decide ((j : Int) < (e.merge.length : Int))) (fun h16 => ?_) (fun h16 => ?_)
     ·
      (try simp only [decide_eq_true_eq, decide_eq_false_iff_not, Int.not_lt, Int.not_le] at h16)
      have hin : insB ((e.merge).getD j default) (oldI rows) (oldI cols) = true := by first | exact hx.2.1 _ (getDX_mem (by omega)) | exact hx.2.2 _ (getDX_mem (by omega))
      refine .br [.r [(0, X (Xi rectT e.merge (j : Int)))], .r [(3, X (Xc0 (fc_inside ((e.merge.getD j default)) (oldI rows) (oldI cols) (by omega)) X0))]] (!(insB ((e.merge.getD j default)) (oldI rows) (oldI cols))) (fun h18 => ?_) (fun h18 => ?_)
      ·
       (try simp only [Bool.not_eq_true', Bool.not_eq_false'] at h18)
       exfalso
       rw [hin] at h18; cases h18
      ·
       (try simp only [Bool.not_eq_true', Bool.not_eq_false'] at h18)
       refine .back [.r [(0, X (Xn ((j : Int) + 1)))]] [] (ih16 ((j + 1) : Nat) ?_ ?_)
       ·
        (try dsimp only); omega
       ·
        ((try dsimp only); omega)
     ·
      (try simp only [decide_eq_true_eq, decide_eq_false_iff_not, Int.not_lt, Int.not_le] at h16)
      exact .fin [.r [], .u, .r [], .f, .r []] []
  ·
   (try simp only [decide_eq_true_eq, decide_eq_false_iff_not, Int.not_lt, Int.not_le, gt_iff_lt] at h4)
   refine .loop (α := Nat) [.r [(2, X (Xl cellT e.cells))]] 168 (fun i => ([(3, .ptr 0 0), (7, VI (oldI rows)), (8, VI 2147483647), (34, VL 5 cellT e.cells), (35, VI (e.cells.length : Int)), (36, VI (i : Int))], [(0, .box [VL 2 stepT e.rows, VL 2 stepT e.cols, VL 5 cellT e.cells, VL 4 rectT e.split, VL 4 rectT e.merge])])) (fun i => i ≤ e.cells.length) (fun i => e.cells.length - i) (0 : Nat) ?_ ?_
   ·
    (try dsimp only); omega
   rintro i I7 ih7
   try dsimp only at I7
   first | rw [if_pos (show 0 < rows.length by omega)] at hx | rw [if_neg (show ¬ 0 < rows.length by omega)] at hx
   first | rw [if_pos (show 0 < cols.length by omega)] at hx | rw [if_neg (show ¬ 0 < cols.length by omega)] at hx
   refine .br [.r []] (decide ((i : Int) < (e.cells.length : Int))) (fun h7 => ?_) (fun h7 => ?_)
   ·
    (try simp only [decide_eq_true_eq, decide_eq_false_iff_not, Int.not_lt, Int.not_le] at h7)
    have hm := hx.1 _ (getDX_mem (l := e.cells) (i := i) (by omega))
    refine .br [.r [(0, X (Xi cellT e.cells (i : Int)))], .r [(6, Xv 1 (!(decide ((((e.cells.getD i default)).row) ≥ (oldI rows)))) X0), (8, Xv 2 (!(decide ((((e.cells.getD i default)).row) ≥ (oldI rows)))) X0), (9, X (Xk' (decide ((((e.cells.getD i default)).row) ≥ (oldI rows)))))]] (decide ((((e.cells.getD i default)).row) ≥ (oldI rows)) || decide ((((e.cells.getD i default)).col) ≥ 2147483647)) (fun h9 => ?_) (fun h9 => ?_)
    ·
     (try simp only [decide_eq_true_eq, decide_eq_false_iff_not, Int.not_lt, Int.not_le, ge_iff_le, Bool.or_eq_true, Bool.or_eq_false_iff] at h9)
     exfalso
     omega
    ·
     (try simp only [decide_eq_true_eq, decide_eq_false_iff_not, Int.not_lt, Int.not_le, ge_iff_le, Bool.or_eq_true, Bool.or_eq_false_iff] at h9)
     refine .back [.r [(0, X (Xn ((i : Int) + 1)))]] [(0, 0)] (ih7 ((i + 1) : Nat) ?_ ?_)
     ·
      (try dsimp only); omega
     ·
      ((try dsimp only); omega)
   ·
    (try simp only [decide_eq_true_eq, decide_eq_false_iff_not, Int.not_lt, Int.not_le] at h7)
    refine .loop (α := Nat) [.r [], .u, .r [], .t, .r [(0, X (Xa (Xc ((0:Int) ≤ 0)) (Xc ((0 : Int) < ((2 : Nat) : Int)))) ⟨by decide, by decide⟩)], .r [(1, X (Xl rectT e.split))]] 272 (fun j => ([(7, VI (oldI rows)), (8, VI 2147483647), (55, .t (.agg [TL 4 rectT e.split, TL 4 rectT e.merge])), (56, VI 0), (59, VL 4 rectT e.split), (60, VI (e.split.length : Int)), (61, VI (j : Int))], [])) (fun j => j ≤ (e.split).length) (fun j => (e.split).length - j) (0 : Nat) ?_ ?_
    ·
     (try dsimp only); omega
    rintro j I16 ih16
    try dsimp only at I16
    refine .br [.r []] (decide ((j : Int) < (e.split.length : Int))) (fun h16 => ?_) (fun h16 => ?_)
    ·
     (try simp only [decide_eq_true_eq, decide_eq_false_iff_not, Int.not_lt, Int.not_le] at h16)
     have hin : insB ((e.split).getD j default) (oldI rows) 2147483647 = true := by first | exact hx.2.1 _ (getDX_mem (by omega)) | exact hx.2.2 _ (getDX_mem (by omega))
     refine .br [.r [(0, X (Xi rectT e.split (j : Int)))], .r [(3, X (Xc0 (fc_inside ((e.split.getD j default)) (oldI rows) 2147483647 (by omega)) X0))]] (!(insB ((e.split.getD j default)) (oldI rows) 2147483647)) (fun h18 => ?_) (fun h18 => ?_)
     ·
      (try simp only [Bool.not_eq_true', Bool.not_eq_false'] at h18)
      exfalso
      rw [hin] at h18; cases h18
     ·
      (try simp only [Bool.not_eq_true', Bool.not_eq_false'] at h18)
      refine .back [.r [(0, X (Xn ((j : Int) + 1)))]] [] (ih16 ((j + 1) : Nat) ?_ ?_)
      ·
       (try dsimp only); omega
      ·
       ((try dsimp only); omega)
    ·
     (try simp only [decide_eq_true_eq, decide_eq_false_iff_not, Int.not_lt, Int.not_le] at h16)
     refine .loop (α := Nat) [.r [], .u, .r [], .t, .r [(0, X (Xa (Xc ((0:Int) ≤ 1)) (Xc ((1 : Int) < ((2 : Nat) : Int)))) ⟨by decide, by decide⟩)], .r [(1, X (Xl rectT e.merge))]] 344 (fun j => ([(7, VI (oldI rows)), (8, VI 2147483647), (55, .t (.agg [TL 4 rectT e.split, TL 4 rectT e.merge])), (56, VI 1), (59, VL 4 rectT e.merge), (60, VI (e.merge.length : Int)), (61, VI (j : Int))], [])) (fun j => j ≤ (e.merge).length) (fun j => (e.merge).length - j) (0 : Nat) ?_ ?_
     ·
      (try dsimp only); omega
     rintro j I16 ih16
     try dsimp only at I16
     refine .br [.r []] (decide ((j : Int) < (e.merge.length : Int))) (fun h16 => ?_) (fun h16 => ?_)
     ·
      (try simp only [decide_eq_true_eq, decide_eq_false_iff_not, Int.not_lt, Int.not_le] at h16)
      have hin : insB ((e.merge).getD j default) (oldI rows) 2147483647 = true := by first | exact hx.2.1 _ (getDX_mem (by omega)) | exact hx.2.2 _ (getDX_mem (by omega))
      refine .br [.r [(0, X (Xi rectT e.merge (j : Int)))], .r [(3, X (Xc0 (fc_inside ((e.merge.getD j default)) (oldI rows) 2147483647 (by omega)) X0))]] (!(insB ((e.merge.getD j default)) (oldI rows) 2147483647)) (fun h18 => ?_) (fun h18 => ?_)
      ·
       (try simp only [Bool.not_eq_true', Bool.not_eq_false'] at h18)
       exfalso
       rw [hin] at h18; cases h18
      ·
       (try simp only [Bool.not_eq_true', Bool.not_eq_false'] at h18)
       refine .back [.r [(0, X (Xn ((j : Int) + 1)))]] [] (ih16 ((j + 1) : Nat) ?_ ?_)
       ·
        (try dsimp only); omega
       ·
        ((try dsimp only); omega)
     ·
      (try simp only [decide_eq_true_eq, decide_eq_false_iff_not, Int.not_lt, Int.not_le] at h16)
      exact .fin [.r [], .u, .r [], .f, .r []] []
 ·
  (try simp only [decide_eq_true_eq, decide_eq_false_iff_not, Int.not_lt, Int.not_le, gt_iff_lt] at h2)
  refine .br [.r [(1, X (Xl stepT cols))]] (decide ((cols.length : Int) > 0)) (fun h4 => ?_) (fun h4 => ?_)
  ·
   (try simp only [decide_eq_true_eq, decide_eq_false_iff_not, Int.not_lt, Int.not_le, gt_iff_lt] at h4)
   have hc0 : 0 < cols.length := by omega
   have hv2 := hc hc0
   have hv3 := hv2.2.1
   have hw2 : 0 ≤ oldI cols ∧ oldI cols ≤ 1000000000000 := by (unfold oldI; omega)
   refine .loop (α := Nat) [.r [(1, X (Xc0 (fc_axLengths cols (by assumption)) X0))], .r [(2, X (Xl cellT e.cells))]] 168 (fun i => ([(3, .ptr 0 0), (7, VI 2147483647), (8, VI (oldI cols)), (34, VL 5 cellT e.cells), (35, VI (e.cells.length : Int)), (36, VI (i : Int))], [(0, .box [VL 2 stepT e.rows, VL 2 stepT e.cols, VL 5 cellT e.cells, VL 4 rectT e.split, VL 4 rectT e.merge])])) (fun i => i ≤ e.cells.length) (fun i => e.cells.length - i) (0 : Nat) ?_ ?_
   ·
    (try dsimp only); omega
   rintro i I7 ih7
   try dsimp only at I7
   first | rw [if_pos (show 0 < rows.length by omega)] at hx | rw [if_neg (show ¬ 0 < rows.length by omega)] at hx
   first | rw [if_pos (show 0 < cols.length by omega)] at hx | rw [if_neg (show ¬ 0 < cols.length by omega)] at hx
   refine .br [.r []] (decide ((i : Int) < (e.cells.length : Int))) (fun h7 => ?_) (fun h7 => ?_)
   ·
    (try simp only [decide_eq_true_eq, decide_eq_false_iff_not, Int.not_lt, Int.not_le] at h7)
    have hm := hx.1 _ (getDX_mem (l := e.cells) (i := i) (by omega))
    refine .br [.r [(0, X (Xi cellT e.cells (i : Int)))], .r [(6, Xv 1 (!(decide ((((e.cells.getD i default)).row) ≥ 2147483647))) X0), (8, Xv 2 (!(decide ((((e.cells.getD i default)).row) ≥ 2147483647))) X0), (9, X (Xk' (decide ((((e.cells.getD i default)).row) ≥ 2147483647))))]] (decide ((((e.cells.getD i default)).row) ≥ 2147483647) || decide ((((e.cells.getD i default)).col) ≥ (oldI cols))) (fun h9 => ?_) (fun h9 => ?_)
    ·
     (try simp only [decide_eq_true_eq, decide_eq_false_iff_not, Int.not_lt, Int.not_le, ge_iff_le, Bool.or_eq_true, Bool.or_eq_false_iff] at h9)
     exfalso
     omega
    ·
     (try simp only [decide_eq_true_eq, decide_eq_false_iff_not, Int.not_lt, Int.not_le, ge_iff_le, Bool.or_eq_true, Bool.or_eq_false_iff] at h9)
     refine .back [.r [(0, X (Xn ((i : Int) + 1)))]] [(0, 0)] (ih7 ((i + 1) : Nat) ?_ ?_)
     ·
      (try dsimp only); omega
     ·
      ((try dsimp only); omega)
   ·
    (try simp only [decide_eq_true_eq, decide_eq_false_iff_not, Int.not_lt, Int.not_le] at h7)
    refine .loop (α := Nat) [.r [], .u, .r [], .t, .r [(0, X (Xa (Xc ((0:Int) ≤ 0)) (Xc ((0 : Int) < ((2 : Nat) : Int)))) ⟨by decide, by decide⟩)], .r [(1, X (Xl rectT e.split))]] 272 (fun j => ([(7, VI 2147483647), (8, VI (oldI cols)), (55, .t (.agg [TL 4 rectT e.split, TL 4 rectT e.merge])), (56, VI 0), (59, VL 4 rectT e.split), (60, VI (e.split.length : Int)), (61, VI (j : Int))], [])) (fun j => j ≤ (e.split).length) (fun j => (e.split).length - j) (0 : Nat) ?_ ?_
    ·
     (try dsimp only); omega
    rintro j I16 ih16
    try dsimp only at I16
    refine .br [.r []] (decide ((j : Int) < (e.split.length : Int))) (fun h16 => ?_) (fun h16 => ?_)
    ·
     (try simp only [decide_eq_true_eq, decide_eq_false_iff_not, Int.not_lt, Int.not_le] at h16)
     have hin : insB ((e.split).getD j default) 2147483647 (oldI cols) = true := by first | exact hx.2.1 _ (getDX_mem (by omega)) | exact hx.2.2 _ (getDX_mem (by omega))
     refine .br [.r [(0, X (Xi rectT e.split (j : Int)))], .r [(3, X (Xc0 (fc_inside ((e.split.getD j default)) 2147483647 (oldI cols) (by omega)) X0))]] (!(insB ((e.split.getD j default)) 2147483647 (oldI cols))) (fun h18 => ?_) (fun h18 => ?_)
     ·
      (try simp only [Bool.not_eq_true', Bool.not_eq_false'] at h18)
      exfalso
      rw [hin] at h18; cases h18
     ·
      (try simp only [Bool.not_eq_true', Bool.not_eq_false'] at h18)
      refine .back [.r [(0, X (Xn ((j : Int) + 1)))]] [] (ih16 ((j + 1) : Nat) ?_ ?_)
      ·
       (try dsimp only); omega
      ·
       ((try dsimp only); omega)
    ·
     (try simp only [decide_eq_true_eq, decide_eq_false_iff_not, Int.not_lt, Int.not_le] at h16)
     refine .loop (α := Nat) [.r [], .u, .r [], .t, .r [(0, X (Xa (Xc ((0:Int) ≤ 1)) (Xc ((1 : Int) < ((2 : Nat) : Int)))) ⟨by decide, by decide⟩)], .r [(1, X (Xl rectT e.merge))]] 344 (fun j => ([(7, VI 2147483647), (8, VI (oldI cols)), (55, .t (.agg [TL 4 rectT e.split, TL 4 rectT e.merge])), (56, VI 1), (59, VL 4 rectT e.merge), (60, VI (e.merge.length : Int)), (61, VI (j : Int))], [])) (fun j => j ≤ (e.merge).length) (fun j => (e.merge).length - j) (0 : Nat) ?_ ?_
     ·
      (try dsimp only); omega
     rintro j I16 ih16
     try dsimp only at I16
     refine .br [.r []] (decide ((j : Int) < (e.merge.length : Int))) (fun h16 => ?_) (fun h16 => ?_)
     ·
      (try simp only [decide_eq_true_eq, decide_eq_false_iff_not, Int.not_lt, Int.not_le] at h16)
      have hin : insB ((e.merge).getD j default) 2147483647 (oldI cols) = true := by first | exact hx.2.1 _ (getDX_mem (by omega)) | exact hx.2.2 _ (getDX_mem (by omega))
      refine .br [.r [(0, X (Xi rectT e.merge (j : Int)))], .r [(3, X (Xc0 (fc_inside ((e.merge.getD j default)) 2147483647 (oldI cols) (by omega)) X0))]] (!(insB ((e.merge.getD j default)) 2147483647 (oldI cols))) (fun h18 => ?_) (fun h18 => ?_)
      ·
       (try simp only [Bool.not_eq_true', Bool.not_eq_false'] at h18)
       exfalso
       rw [hin] at h18; cases h18
      ·
       (try simp only [Bool.not_eq_true', Bool.not_eq_false'] at h18)
       refine .back [.r [(0, X (Xn ((j : Int) + 1)))]] [] (ih16 ((j + 1) : Nat) ?_ ?_)
       ·
        (try dsimp only); omega
       ·
        ((try dsimp only); omega)
     ·
      (try simp only [decide_eq_true_eq, decide_eq_false_iff_not, Int.not_lt, Int.not_le] at h16)
      exact .fin [.r [], .u, .r [], .f, .r []] []
  ·
   (try simp only [decide_eq_true_eq, decide_eq_false_iff_not, Int.not_lt, Int.not_le, gt_iff_lt] at h4)
   refine .loop (α := Nat) [.r [(2, X (Xl cellT e.cells))]] 112 (fun i => ([(3, .ptr 0 0), (7, VI 2147483647), (8, VI 2147483647), (34, VL 5 cellT e.cells), (35, VI (e.cells.length : Int)), (36, VI (i : Int))], [(0, .box [VL 2 stepT e.rows, VL 2 stepT e.cols, VL 5 cellT e.cells, VL 4 rectT e.split, VL 4 rectT e.merge])])) (fun i => i ≤ e.cells.length) (fun i => e.cells.length - i) (0 : Nat) ?_ ?_
   ·
    (try dsimp only); omega
   rintro i I7 ih7
   try dsimp only at I7
   first | rw [if_pos (show 0 < rows.length by omega)] at hx | rw [if_neg (show ¬ 0 < rows.length by omega)] at hx
   first | rw [if_pos (show 0 < cols.length by omega)] at hx | rw [if_neg (show ¬ 0 < cols.length by omega)] at hx
   refine .br [.r []] (decide ((i : Int) < (e.cells.length : Int))) (fun h7 => ?_) (fun h7 => ?_)
   ·
    (try simp only [decide_eq_true_eq, decide_eq_false_iff_not, Int.not_lt, Int.not_le] at h7)
    have hm := hx.1 _ (getDX_mem (l := e.cells) (i := i) (by omega))
    refine .br [.r [(0, X (Xi cellT e.cells (i : Int)))], .r [(6, Xv 1 (!(decide ((((e.cells.getD i default)).row) ≥ 2147483647))) X0), (8, Xv 2 (!(decide ((((e.cells.getD i default)).row) ≥ 2147483647))) X0), (9, X (Xk' (decide ((((e.cells.getD i default)).row) ≥ 2147483647))))]] (decide ((((e.cells.getD i default)).row) ≥ 2147483647) || decide ((((e.cells.getD i default)).col) ≥ 2147483647)) (fun h9 => ?_) (fun h9 => ?_)
    ·
     (try simp only [decide_eq_true_eq, decide_eq_false_iff_not, Int.not_lt, Int.not_le, ge_iff_le, Bool.or_eq_true, Bool.or_eq_false_iff] at h9)
     exfalso
     omega
    ·
     (try simp only [decide_eq_true_eq, decide_eq_false_iff_not, Int.not_lt, Int.not_le, ge_iff_le, Bool.or_eq_true, Bool.or_eq_false_iff] at h9)
     refine .back [.r [(0, X (Xn ((i : Int) + 1)))]] [(0, 0)] (ih7 ((i + 1) : Nat) ?_ ?_)
     ·
      (try dsimp only); omega
     ·
      ((try dsimp only); omega)
   ·
    (try simp only [decide_eq_true_eq, decide_eq_false_iff_not, Int.not_lt, Int.not_le] at h7)
    refine .loop (α := Nat) [.r [], .u, .r [], .t, .r [(0, X (Xa (Xc ((0:Int) ≤ 0)) (Xc ((0 : Int) < ((2 : Nat) : Int)))) ⟨by decide, by decide⟩)], .r [(1, X (Xl rectT e.split))]] 216 (fun j => ([(7, VI 2147483647), (8, VI 2147483647), (55, .t (.agg [TL 4 rectT e.split, TL 4 rectT e.merge])), (56, VI 0), (59, VL 4 rectT e.split), (60, VI (e.split.length : Int)), (61, VI (j : Int))], [])) (fun j => j ≤ (e.split).length) (fun j => (e.split).length - j) (0 : Nat) ?_ ?_
    ·
     (try dsimp only); omega
    rintro j I16 ih16
    try dsimp only at I16
    refine .br [.r []] (decide ((j : Int) < (e.split.length : Int))) (fun h16 => ?_) (fun h16 => ?_)
    ·
     (try simp only [decide_eq_true_eq, decide_eq_false_iff_not, Int.not_lt, Int.not_le] at h16)
     have hin : insB ((e.split).getD j default) 2147483647 2147483647 = true := by first | exact hx.2.1 _ (getDX_mem (by omega)) | exact hx.2.2 _ (getDX_mem (by omega))
     refine .br [.r [(0, X (Xi rectT e.split (j : Int)))], .r [(3, X (Xc0 (fc_inside ((e.split.getD j default)) 2147483647 2147483647 (by omega)) X0))]] (!(insB ((e.split.getD j default)) 2147483647 2147483647)) (fun h18 => ?_) (fun h18 => ?_)
     ·
      (try simp only [Bool.not_eq_true', Bool.not_eq_false'] at h18)
      exfalso
      rw [hin] at h18; cases h18
     ·
      (try simp only [Bool.not_eq_true', Bool.not_eq_false'] at h18)
      refine .back [.r [(0, X (Xn ((j : Int) + 1)))]] [] (ih16 ((j + 1) : Nat) ?_ ?_)
      ·
       (try dsimp only); omega
      ·
       ((try dsimp only); omega)
    ·
     (try simp only [decide_eq_true_eq, decide_eq_false_iff_not, Int.not_lt, Int.not_le] at h16)
     refine .loop (α := Nat) [.r [], .u, .r [], .t, .r [(0, X (Xa (Xc ((0:Int) ≤ 1)) (Xc ((1 : Int) < ((2 : Nat) : Int)))) ⟨by decide, by decide⟩)], .r [(1, X (Xl rectT e.merge))]] 288 (fun j => ([(7, VI 2147483647), (8, VI 2147483647), (55, .t (.agg [TL 4 rectT e.split, TL 4 rectT e.merge])), (56, VI 1), (59, VL 4 rectT e.merge), (60, VI (e.merge.length : Int)), (61, VI (j : Int))], [])) (fun j => j ≤ (e.merge).length) (fun j => (e.merge).length - j) (0 : Nat) ?_ ?_
     ·
      (try dsimp only); omega
     rintro j I16 ih16
     try dsimp only at I16
     refine .br [.r []] (decide ((j : Int) < (e.merge.length : Int))) (fun h16 => ?_) (fun h16 => ?_)
     ·
      (try simp only [decide_eq_true_eq, decide_eq_false_iff_not, Int.not_lt, Int.not_le] at h16)
      have hin : insB ((e.merge).getD j default) 2147483647 2147483647 = true := by first | exact hx.2.1 _ (getDX_mem (by omega)) | exact hx.2.2 _ (getDX_mem (by omega))
      refine .br [.r [(0, X (Xi rectT e.merge (j : Int)))], .r [(3, X (Xc0 (fc_inside ((e.merge.getD j default)) 2147483647 2147483647 (by omega)) X0))]] (!(insB ((e.merge.getD j default)) 2147483647 2147483647)) (fun h18 => ?_) (fun h18 => ?_)
      ·
       (try simp only [Bool.not_eq_true', Bool.not_eq_false'] at h18)
       exfalso
       rw [hin] at h18; cases h18
      ·
       (try simp only [Bool.not_eq_true', Bool.not_eq_false'] at h18)
       refine .back [.r [(0, X (Xn ((j : Int) + 1)))]] [] (ih16 ((j + 1) : Nat) ?_ ?_)
       ·
        (try dsimp only); omega
       ·
        ((try dsimp only); omega)
     ·
      (try simp only [decide_eq_true_eq, decide_eq_false_iff_not, Int.not_lt, Int.not_le] at h16)
      exact .fin [.r [], .u, .r [], .f, .r []] []
end Go.Ch
end
