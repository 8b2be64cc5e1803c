/- What the axis laws need of fitting changes, joining, rebasing, undoing. -/
import Derived.Test.YtbdbibmbfmlobaaChAxis5
set_option linter.unusedVariables false
set_option linter.unusedSimpArgs false
namespace Go.Ch
open Go Go.Ab

/-! ### Steps of units -/
theorem segE_cls (u : List Int) (i k : Nat) (hik : i ≤ k) (h : ∀ j, i ≤ j → j < k → (u.getD j default = 0 ↔ u.getD i default = 0)) : (∀ j, i ≤ j → j < segE u i k → (u.getD j default = 0 ↔ u.getD i default = 0)) ∧
    (segE u i k < u.length → ¬ (u.getD (segE u i k) default = 0 ↔ u.getD i default = 0)) := by
  induction k using segE.induct (u := u) (i := i) with
  | case1 k hc ih =>
    rw [segE, if_pos hc]
    refine ih (by omega) (fun j h1 h2 => ?_)
    by_cases e : j = k
    · subst e; exact hc.2
    · exact h j h1 (by omega)
  | case2 k hc =>
    rw [segE, if_neg hc]
    exact ⟨h, fun hk hh => hc ⟨hk, hh⟩⟩
def segL (u : List Int) (i k : Nat) : List Int := (u.drop i).take (k - i)
theorem segL_mem {u : List Int} {i k : Nat} (hk : k ≤ u.length) {x : Int} (h : x ∈ segL u i k) : ∃ j, i ≤ j ∧ j < k ∧ u.getD j default = x := by
  unfold segL at h
  obtain ⟨m, hm, e⟩ := List.mem_iff_getElem.1 h
  simp only [List.length_take, List.length_drop] at hm
  refine ⟨i + m, by omega, by omega, ?_⟩
  rw [← e]
  simp [List.getD, List.getElem?_eq_getElem (show i + m < u.length by omega)]
theorem take_seg {u : List Int} {i k : Nat} (h : i ≤ k) : u.take k = u.take i ++ segL u i k := by
  unfold segL
  rw [show k = i + (k - i) by omega, List.take_add]
  simp
theorem sw_seg : ∀ {l : List Int}, (∀ x ∈ l, x = 1 ∨ x = 2) → Sw (l.map uOf) (rep (l.countP fun y => decide (y = 1)) .A ++ rep (l.countP fun y => decide (y = 2)) .C)
  | [], _ => .refl _
  | x :: l, h => by
    have ih := sw_seg (l := l) (fun y hy => h y (by simp [hy]))
    rcases h x (by simp) with rfl | rfl
    · simp only [List.map_cons, List.countP_cons]
      exact .cons _ ih
    · simp only [List.map_cons, List.countP_cons]
      refine .trans (.cons _ ih) ?_
      have := sw_C_As (l.countP fun y => decide (y = 1)) (rep (l.countP fun y => decide (y = 2)) .C)
      exact this
theorem seg_zero : ∀ {l : List Int}, (∀ x ∈ l, x = 0) → l.map uOf = rep l.length .K ∧ (l.countP fun y => decide (y = 0)) = l.length ∧ (l.countP fun y => decide (y = 1)) = 0 ∧ (l.countP fun y => decide (y = 2)) = 0
  | [], _ => ⟨rfl, rfl, rfl, rfl⟩
  | x :: l, h => by
    obtain ⟨a, b, c, d⟩ := seg_zero (l := l) (fun y hy => h y (by simp [hy]))
    have := h x (by simp)
    subst this
    refine ⟨by rw [List.map_cons, a]; rfl, by simp [List.countP_cons, b], by simp [List.countP_cons, c], by simp [List.countP_cons, d]⟩
theorem seg_nz : ∀ {l : List Int}, (∀ x ∈ l, x = 1 ∨ x = 2) → (l.countP fun y => decide (y = 0)) = 0 ∧ (l.countP fun y => decide (y = 1)) + (l.countP fun y => decide (y = 2)) = l.length
  | [], _ => ⟨rfl, rfl⟩
  | x :: l, h => by
    obtain ⟨a, b⟩ := seg_nz (l := l) (fun y hy => h y (by simp [hy]))
    rcases h x (by simp) with rfl | rfl
    · exact ⟨by simp [List.countP_cons, a], by simp [List.countP_cons]; omega⟩
    · exact ⟨by simp [List.countP_cons, a], by simp [List.countP_cons]; omega⟩
theorem ex_o1 (k : Int) (n : Nat) : ex (o1 k n) = rep n (uOf k) := by
  unfold o1
  split
  · simp [ex]
  · rw [show n = 0 by omega]; rfl
structure StI (u : List Int) (i : Nat) (out : List AxStep) : Prop where
  form : Form out
  sw : Sw (ex out) ((u.take i).map uOf)
  link : i < u.length → ∀ t, out.getLast? = some t → (t.kind = 0 ↔ u.getD i default ≠ 0)
theorem stepsL_ok {u : List Int} (hu : U3 u) : ∀ (m i : Nat) (out : List AxStep), u.length - i = m → i ≤ u.length → StI u i out → Form (stepsL u i out) ∧ Sw (ex (stepsL u i out)) (u.map uOf) := by
  intro m
  induction m using Nat.strongRecOn with
  | _ m ih =>
    intro i out hm hi h
    rw [stepsL]
    by_cases hlt : i < u.length
    rotate_left
    · rw [dif_neg hlt]
      have : u.take i = u := List.take_of_length_le (by omega)
      exact ⟨h.form, this ▸ h.sw⟩
    rw [dif_pos hlt]
    have hg := segE_gt u i hlt
    have hle := segE_le u i i hi
    obtain ⟨c1, c2⟩ := segE_cls u i i (Nat.le_refl _) (fun j h1 h2 => by omega)
    generalize segE u i i = k at *
    refine ih (u.length - k) (by omega) k _ rfl hle ?_
    have hu3 := hu3_of hu hlt
    have hmem : ∀ x ∈ segL u i k, (x = 0 ↔ u.getD i default = 0) ∧ (x = 0 ∨ x = 1 ∨ x = 2) := by
      intro x hx
      obtain ⟨j, j1, j2, e⟩ := segL_mem hle hx
      rw [← e]
      exact ⟨c1 j j1 j2, hu3_of hu (by omega)⟩
    have hsl : (segL u i k).length = k - i := by unfold segL; simp; omega
    have hc : ∀ x, cntX u i k x = (segL u i k).countP fun y => decide (y = x) := fun x => rfl
    rw [hc, hc, hc]
    have htk := take_seg (u := u) (Nat.le_of_lt hg)
    by_cases h0 : u.getD i default = 0
    · obtain ⟨s1, s2, s3, s4⟩ := seg_zero (l := segL u i k) (fun x hx => (hmem x hx).1.2 h0)
      rw [s2, s3, s4]
      have eo : o3 (segL u i k).length 0 0 = [⟨0, ((segL u i k).length : Int)⟩] := by
        unfold o3 o1; rw [if_pos (by omega)]; rfl
      rw [eo]
      refine ⟨form_snoc h.form (ok1_mk (by decide) (by omega)) (fun t ht => ?_), ?_, fun hk t ht => ?_⟩
      · have := h.link hlt t ht
        exact nx_mk (fun e => this.1 e h0) (by omega)
      · rw [htk, List.map_append, s1, ex_app]
        refine .trans (.right _ h.sw) (.of_eq ?_)
        simp [ex, uOf]
      · rw [List.getLast?_concat] at ht
        cases ht
        refine ⟨fun _ e => c2 hk ⟨fun _ => h0, fun _ => e⟩, fun _ => rfl⟩
    · have hnz : ∀ x ∈ segL u i k, x = 1 ∨ x = 2 := fun x hx => by
        obtain ⟨q1, q2⟩ := hmem x hx
        rcases q2 with q | q | q
        · exact absurd (q1.1 q) h0
        · exact .inl q
        · exact .inr q
      obtain ⟨z1, z2⟩ := seg_nz hnz
      have sw := sw_seg hnz
      rw [z1]
      generalize ((segL u i k).countP fun y => decide (y = 1)) = p at *
      generalize ((segL u i k).countP fun y => decide (y = 2)) = q at *
      have hlast : ∀ t, out.getLast? = some t → t.kind = 0 := fun t ht => (h.link hlt t ht).2 h0
      have f1 : Form (out ++ o1 1 p) := by
        unfold o1
        split
        · exact form_snoc h.form (ok1_mk (by decide) (by omega)) (fun t ht => nx_mk (by rw [hlast t ht]; decide) (by rw [hlast t ht]; decide))
        · rw [List.append_nil]; exact h.form
      have l1 : ∀ t, (out ++ o1 1 p).getLast? = some t → t.kind = 0 ∨ t.kind = 1 := by
        intro t ht
        unfold o1 at ht
        split at ht
        · rw [List.getLast?_concat] at ht; cases ht; exact .inr rfl
        · rw [List.append_nil] at ht; exact .inl (hlast t ht)
      have f2 : Form (out ++ o1 1 p ++ o1 2 q) := by
        unfold o1 at f1 l1 ⊢
        by_cases hq : 0 < q
        · rw [if_pos hq]
          exact form_snoc f1 (ok1_mk (by decide) (by omega)) (fun t ht => nx_mk (by rcases l1 t ht with e | e <;> rw [e] <;> decide) (by rcases l1 t ht with e | e <;> rw [e] <;> decide))
        · rw [if_neg hq, List.append_nil]; exact f1
      have eo : out ++ o3 0 p q = out ++ o1 1 p ++ o1 2 q := by unfold o3; simp [o1]
      rw [eo]
      refine ⟨f2, ?_, fun hk t ht => ?_⟩
      · rw [htk, List.map_append, ex_app, ex_app, ex_o1, ex_o1, List.append_assoc]
        exact .trans (.left _ (.symm sw)) (.right _ h.sw)
      · have hk2 : u.getD k default = 0 := by
          refine Classical.byContradiction fun e => c2 hk ⟨fun e' => absurd e' e, fun e' => absurd e' h0⟩
        have : t.kind ≠ 0 := by
          unfold o1 at ht
          by_cases hq : 0 < q
          · rw [if_pos hq, List.getLast?_concat] at ht; cases ht; simp only; decide
          · rw [if_neg hq, List.append_nil] at ht
            rw [if_pos (by omega), List.getLast?_concat] at ht; cases ht; simp only; decide
        exact ⟨fun e => absurd e this, fun e => absurd hk2 e⟩

/-! ### Fitting changes -/
theorem old_app (a b : List U) : oldU (a ++ b) = oldU a + oldU b := by
  induction a with
  | nil => simp [oldU]
  | cons x a ih => cases x <;> simp only [List.cons_append, oldU, ih] <;> omega
theorem new_app (a b : List U) : newU (a ++ b) = newU a + newU b := by
  induction a with
  | nil => simp [newU]
  | cons x a ih => cases x <;> simp only [List.cons_append, newU, ih] <;> omega
theorem new_len (u : List U) : newU u ≤ u.length := by
  induction u with
  | nil => simp [newU]
  | cons x u ih => cases x <;> simp only [newU, List.length_cons] <;> omega
theorem fitA_ok {u : List Int} {v : Int} (h : U3 u) (hv : v ≤ 5) : U3 (fitA u v) ∧ oldU ((fitA u v).map uOf) = oldU (u.map uOf) ∧ (fitA u v).length ≤ u.length + 2 := by
  unfold fitA
  refine ⟨h.app (U3.reps _), ?_, by simp; omega⟩
  rw [List.map_append, old_app, List.map_replicate]
  have := old_A (max 0 (v - 3)).toNat []
  simp only [List.append_nil, oldU] at this
  show _ + oldU (rep _ (uOf 1)) = _
  rw [uOf1, this]; rfl
theorem fitL_ok (raw : List Int) : ∀ (r : Nat) (used : Int) (u : List Int), U3 u → U3 (fitL raw r used u).1 ∧ oldU ((fitL raw r used u).1.map uOf) = oldU (u.map uOf) + r ∧ (fitL raw r used u).1.length ≤ u.length + 3 * r
  | 0, used, u, h => ⟨h, rfl, by simp [fitL]⟩
  | r + 1, used, u, h => by
    rw [fitL]
    have v1 := rollV_bd raw used (n := 6) (by decide)
    obtain ⟨a1, a2, a3⟩ := fitA_ok (v := rollV raw used 6) h (by omega)
    have hx : U3 [if rollV raw (rollU raw used) 6 = 0 then (2 : Int) else 0] := U3.one (by split <;> decide)
    obtain ⟨b1, b2, b3⟩ := fitL_ok raw r (rollU raw (rollU raw used)) _ (a1.app hx)
    refine ⟨b1, ?_, ?_⟩
    · rw [b2, List.map_append, old_app, a2]
      have : oldU ([if rollV raw (rollU raw used) 6 = 0 then (2 : Int) else 0].map uOf) = 1 := by
        split <;> rfl
      rw [this]; omega
    · simp only [List.length_append, List.length_cons, List.length_nil] at b3
      omega
theorem fit_ok (raw : List Int) (n : Int) (h0 : 0 ≤ n) (h1 : n ≤ 100000000) : Valid (stepsL (fitU raw n.toNat) 0 []) ∧ oldI (stepsL (fitU raw n.toNat) 0 []) = n ∧ 0 ≤ newI (stepsL (fitU raw n.toNat) 0 []) ∧ newI (stepsL (fitU raw n.toNat) 0 []) ≤ 3 * n + 2 := by
  obtain ⟨a1, a2, a3⟩ := fitL_ok raw n.toNat 0 [] (fun x hx => (by cases hx))
  have v1 := rollV_bd raw (fitL raw n.toNat 0 []).2 (n := 6) (by decide)
  obtain ⟨b1, b2, b3⟩ := fitA_ok (v := rollV raw (fitL raw n.toNat 0 []).2 6) a1 (by omega)
  have e : fitU raw n.toNat = fitA (fitL raw n.toNat 0 []).1 (rollV raw (fitL raw n.toNat 0 []).2 6) := rfl
  rw [← e] at b1 b2 b3
  obtain ⟨f, s⟩ := stepsL_ok b1 _ 0 [] rfl (by omega) ⟨trivial, .refl _, fun _ t ht => (by cases ht)⟩
  obtain ⟨o1, o2⟩ := sw_old s
  have hl := new_len ((fitU raw n.toNat).map uOf)
  simp only [List.length_map] at hl
  simp only [List.length_nil, List.map_nil, oldU] at a2 a3
  unfold Valid oldI newI
  refine ⟨⟨f, by omega, by omega⟩, by omega, by omega, by omega⟩

/-! ### The laws -/
theorem joinX_ok {a b : List AxStep} (va : Valid a) (vb : Valid b) (hm : newI a = oldI b) : Valid (joinX a b) ∧ oldI (joinX a b) = oldI a ∧ newI (joinX a b) = newI b ∧ Sw (ex (joinX a b)) (joinU (ex a) (ex b)) := by
  obtain ⟨f, s⟩ := doneW_ok (joinU (ex a) (ex b))
  have hm' : newU (ex a) = oldU (ex b) := by unfold newI oldI at hm; omega
  obtain ⟨o, n⟩ := joinU_len _ _ hm'
  obtain ⟨o2, n2⟩ := sw_old s
  have h1 := va.2.1
  have h2 := vb.2.2
  unfold joinX oldI newI
  exact ⟨⟨f, by omega, by omega⟩, by omega, by omega, s⟩
theorem joinX_assoc {a b c : List AxStep} (va : Valid a) (vb : Valid b) (vc : Valid c) (h1 : newI a = oldI b) (h2 : newI b = oldI c) : joinX (joinX a b) c = joinX a (joinX b c) := by
  obtain ⟨v1, o1, n1, s1⟩ := joinX_ok va vb h1
  obtain ⟨v2, o2, n2, s2⟩ := joinX_ok vb vc h2
  refine form_unique (doneW_ok _).1 (doneW_ok _).1 (.trans (doneW_ok _).2 (.trans ?_ (.symm (doneW_ok _).2)))
  refine .trans (joinU_left s1 _) (.trans (.of_eq ?_) (.symm (joinU_right s2 _)))
  exact joinU_assoc _ _ _ _ (Nat.le_refl _) (by unfold newI oldI at h1; omega) (by unfold newI oldI at h2; omega)
theorem old_sw (u : List U) : oldU (u.map swU) = newU u ∧ newU (u.map swU) = oldU u := by
  induction u with
  | nil => exact ⟨rfl, rfl⟩
  | cons x u ih => cases x <;> simp [swU, oldU, newU, ih.1, ih.2]
theorem undoX_ok {a : List AxStep} (va : Valid a) : Valid (undoX a) ∧ oldI (undoX a) = newI a ∧ newI (undoX a) = oldI a := by
  obtain ⟨f, s⟩ := doneW_ok ((ex a).map swU)
  obtain ⟨o2, n2⟩ := sw_old s
  obtain ⟨q1, q2⟩ := old_sw (ex a)
  have h1 := va.2.1
  have h2 := va.2.2
  unfold undoX oldI newI
  exact ⟨⟨f, by omega, by omega⟩, by omega, by omega⟩
theorem pairU_len (n : Nat) : ∀ (p q : List U), p.length + q.length ≤ n → (pairU p q).1.length ≤ p.length + q.length ∧ (pairU p q).2.length ≤ p.length + q.length := by
  induction n with
  | zero =>
    intro p q hn
    have h1 : p = [] := List.length_eq_zero_iff.1 (by omega)
    have h2 : q = [] := List.length_eq_zero_iff.1 (by omega)
    subst h1; subst h2; simp [pairU]
  | succ n ih =>
    intro p q hn
    match p, q with
    | .A :: p, q => have := ih p q (by simp at hn; omega); simp only [pairU, List.length_cons]; omega
    | [], .A :: q => have := ih [] q (by simp at hn; simp; omega); simp only [pairU, List.length_cons, List.length_nil] at this ⊢; omega
    | .K :: p, .A :: q => have := ih (.K :: p) q (by simp at hn ⊢; omega); simp only [pairU, List.length_cons] at this ⊢; omega
    | .C :: p, .A :: q => have := ih (.C :: p) q (by simp at hn ⊢; omega); simp only [pairU, List.length_cons] at this ⊢; omega
    | .K :: p, .K :: q => have := ih p q (by simp at hn; omega); simp only [pairU, List.length_cons]; omega
    | .K :: p, .C :: q => have := ih p q (by simp at hn; omega); simp only [pairU, List.length_cons]; omega
    | .C :: p, .K :: q => have := ih p q (by simp at hn; omega); simp only [pairU, List.length_cons]; omega
    | .C :: p, .C :: q => have := ih p q (by simp at hn; omega); simp only [pairU, List.length_cons]; omega
    | [], [] => simp [pairU]
    | [], .K :: q => simp [pairU]
    | [], .C :: q => simp [pairU]
    | .K :: p, [] => simp [pairU]
    | .C :: p, [] => simp [pairU]
theorem pairX_ok {a b : List AxStep} (va : Valid a) (vb : Valid b) (hm : oldI a = oldI b) (hl : (ex a).length + (ex b).length ≤ 2147483647) :
    Valid (pairX1 a b) ∧ Valid (pairX2 a b) ∧ newI a = oldI (pairX2 a b) ∧ newI b = oldI (pairX1 a b) ∧ joinX a (pairX2 a b) = joinX b (pairX1 a b) := by
  have hm' : oldU (ex a) = oldU (ex b) := by unfold oldI at hm; omega
  obtain ⟨m1, m2, m3, m4⟩ := pairU_meets _ (ex a) (ex b) (Nat.le_refl _) hm'
  obtain ⟨l1, l2⟩ := pairU_len _ (ex a) (ex b) (Nat.le_refl _)
  obtain ⟨f1, s1⟩ := doneW_ok (pairU (ex a) (ex b)).1
  obtain ⟨f2, s2⟩ := doneW_ok (pairU (ex a) (ex b)).2
  obtain ⟨o1, n1⟩ := sw_old s1
  obtain ⟨o2, n2⟩ := sw_old s2
  have k1 := new_len (pairU (ex a) (ex b)).1
  have k2 := new_len (pairU (ex a) (ex b)).2
  have h1 := va.2.2
  have h2 := vb.2.2
  unfold pairX1 pairX2 oldI newI
  refine ⟨⟨f1, by omega, by omega⟩, ⟨f2, by omega, by omega⟩, by omega, by omega, ?_⟩
  refine form_unique (doneW_ok _).1 (doneW_ok _).1 (.trans (doneW_ok _).2 (.trans ?_ (.symm (doneW_ok _).2)))
  exact .trans (joinU_right s2 _) (.trans m1 (.symm (joinU_right s1 _)))
theorem probeX : Valid [⟨0, 1⟩, ⟨1, 2⟩] ∧ Valid [⟨0, 2⟩, ⟨2, 1⟩] ∧ newI [⟨0, 1⟩, ⟨1, 2⟩] = oldI [⟨0, 2⟩, ⟨2, 1⟩] ∧ joinX [⟨0, 1⟩, ⟨1, 2⟩] [⟨0, 2⟩, ⟨2, 1⟩] = [⟨0, 1⟩, ⟨1, 1⟩] := by
  have e1 : ex [⟨0, 1⟩, ⟨1, 2⟩] = [.K, .A, .A] := rfl
  have e2 : ex [⟨0, 2⟩, ⟨2, 1⟩] = [.K, .K, .C] := rfl
  have f1 : Form [⟨0, 1⟩, ⟨1, 2⟩] := ⟨ok1_mk (by decide) (by decide), nx_mk (by decide) (by decide), ok1_mk (by decide) (by decide)⟩
  have f2 : Form [⟨0, 2⟩, ⟨2, 1⟩] := ⟨ok1_mk (by decide) (by decide), nx_mk (by decide) (by decide), ok1_mk (by decide) (by decide)⟩
  have f3 : Form [⟨0, 1⟩, ⟨1, 1⟩] := ⟨ok1_mk (by decide) (by decide), nx_mk (by decide) (by decide), ok1_mk (by decide) (by decide)⟩
  refine ⟨⟨f1, by rw [e1]; decide, by rw [e1]; decide⟩, ⟨f2, by rw [e2]; decide, by rw [e2]; decide⟩, by unfold newI oldI; rw [e1, e2]; rfl, ?_⟩
  refine form_unique (doneW_ok _).1 f3 (.trans (doneW_ok _).2 (.of_eq ?_))
  rw [e1, e2]
  simp only [joinU]
  rfl
theorem ex_le {l : List AxStep} (h : Valid l) {m : Int} (ho : oldI l ≤ m) (hn : newI l ≤ m) : ((ex l).length : Int) ≤ 2 * m := by
  have := ex_len l
  unfold oldI newI at *
  omega
end Go.Ch
