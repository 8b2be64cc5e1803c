/- Slices of slices; struct values built; the least and the greatest. -/
import Derived.Test.YtbdbibmbfmlobaaAbSnap
set_option linter.unusedVariables false
namespace Go.Ab
variable {P : Program} {w : World} {F : Nat → Prop} {S st : Store} {m : Place}

/-- An operation came to an end. -/
def Done (F : Nat → Prop) (S : Store) (m : Place) (w : World) (wr : List (Nat × Ob)) (val : AVal) (r : Result Value) : Prop :=
  ∃ v w' m', r = .ok v w' ∧ SRel F (app S wr) m' w' ∧ FrameExt F S m w (app S wr) m' w' ∧ VRel (app S wr) m' w' (okB F (app S wr) m' w') val v
theorem Done.same (hS : SRel F S m w) {val : AVal} {r : Result Value} (h : ∃ v, r = .ok v w ∧ VRel S m w (okB F S m w) val v) : Done F S m w [] val r := by
  obtain ⟨v, h1, h2⟩ := h
  exact ⟨v, w, m, h1, hS, FrameExt.refl F S m w, h2⟩

theorem flat_take {k : Nat} {xs : List Tree} (h : ∀ x ∈ xs, Elt k x) (n : Nat) : flat (xs.take n) = (flat xs).take (n * k) := by
  induction xs generalizing n with
  | nil => simp [flat]
  | cons x xs ih =>
    cases n with
    | zero => simp [flat]
    | succ n =>
      have h1 := (h x (by simp)).1
      simp only [List.take_succ_cons, flat, ih (fun y hy => h y (by simp [hy]))]
      rw [List.take_append, h1, List.take_of_length_le (l := x.cells) (by rw [h1, Nat.add_mul]; omega)]
      congr 2
      rw [Nat.add_mul]; omega
theorem flat_drop {k : Nat} {xs : List Tree} (h : ∀ x ∈ xs, Elt k x) (n : Nat) : flat (xs.drop n) = (flat xs).drop (n * k) := by
  induction xs generalizing n with
  | nil => simp [flat]
  | cons x xs ih =>
    cases n with
    | zero => simp [flat]
    | succ n =>
      have h1 := (h x (by simp)).1
      simp only [List.drop_succ_cons, flat, ih (fun y hy => h y (by simp [hy]))]
      rw [List.drop_append, h1, List.drop_of_length_le (l := x.cells) (by rw [h1, Nat.add_mul]; omega), List.nil_append]
      congr 1
      rw [Nat.add_mul]; omega

theorem bounds_run (b : Bool) (len cap : Nat) (hlc : len ≤ cap) (lo hi : Option (IntKind × Int)) (l h' : Int) (hl : l = (lo.map (·.2)).getD 0) (hh : h' = (hi.map (·.2)).getD (len : Int)) (h0 : 0 ≤ l) (h1 : l ≤ h') (h2 : h' ≤ (cap : Int)) :
    (Instr.sliceBounds b len cap (lo.map fun p => .int p.1 p.2) (hi.map fun p => .int p.1 p.2) none).run P w = .ok (l.toNat, h'.toNat, cap) w := by
  have a0 : 0 ≤ h' := by omega
  have a2 : l ≤ max h' 0 := by omega
  cases lo with
  | none =>
    cases hi with
    | none =>
      simp only [Option.map_none, Option.getD_none] at hl hh
      subst hl; subst hh
      simp [Instr.sliceBounds]
    | some p =>
      simp only [Option.map_none, Option.map_some, Option.getD_none, Option.getD_some] at hl hh
      subst hl; subst hh
      simp [Instr.sliceBounds, Instr.sliceBound, asIntOf, a0, h2]
  | some q =>
    cases hi with
    | none =>
      simp only [Option.map_none, Option.map_some, Option.getD_none, Option.getD_some] at hl hh
      subst hl; subst hh
      simp [Instr.sliceBounds, Instr.sliceBound, asIntOf, h0, h1]
    | some p =>
      simp only [Option.map_some, Option.getD_some] at hl hh
      subst hl; subst hh
      simp [Instr.sliceBounds, Instr.sliceBound, asIntOf, h0, a0, h2, a2]

theorem slice_tree {k : Nat} {xs : List Tree} {u : Value} {ok : Nat → Prop} (h : TRep w ok (.lst k xs) u) {t e : TypeId} (hu : P.underlying t = some (.slice e)) (hz : tsz P e = some k)
    (lo hi : Option (IntKind × Int)) (l h' : Int) (hl : l = (lo.map (·.2)).getD 0) (hh : h' = (hi.map (·.2)).getD (xs.length : Int)) (h0 : 0 ≤ l) (h1 : l ≤ h') (h2 : h' ≤ (xs.length : Int)) :
    ∃ v, (Instr.slice t u (lo.map fun p => .int p.1 p.2) (hi.map fun p => .int p.1 p.2) none).run P w = .ok v w ∧ TRep w ok (.lst k ((xs.take h'.toNat).drop l.toNat)) v := by
  cases h with
  | lst _ _ A cap us hk hx hn hm hA hl' hrep =>
    refine ⟨.slice (if cap = l.toNat then A else A.map (·.add (l.toNat * k))) (h'.toNat - l.toNat) (cap - l.toNat), ?_, ?_⟩
    · have hb := bounds_run (P := P) (w := w) true xs.length cap hn lo hi l h' hl hh h0 h1 (by omega)
      simp [Instr.slice, run_underlying hu, hb, run_sizeOf' hz]
    · have hlen : ((xs.take h'.toNat).drop l.toNat).length = h'.toNat - l.toNat := by simp; omega
      have hx' : ∀ x ∈ (xs.take h'.toNat).drop l.toNat, Elt k x := fun x hx' => hx x (List.mem_of_mem_take (List.mem_of_mem_drop hx'))
      have hfl : flat ((xs.take h'.toNat).drop l.toNat) = ((flat xs).take (h'.toNat * k)).drop (l.toNat * k) := by
        rw [flat_drop (fun x hx' => hx x (List.mem_of_mem_take hx')), flat_take hx]
      have hbig : h'.toNat * k ≤ us.length := by rw [hl']; exact Nat.mul_le_mul_right k (by omega)
      rw [← hlen]
      refine .lst k _ _ _ ((us.take (h'.toNat * k)).drop (l.toNat * k)) hk hx' (by rw [hlen]; omega) (by omega) (fun hne => ?_) (by rw [hlen, Nat.sub_mul]; simp; omega) (fun j T u hj hu' => ?_)
      · have hlt : l.toNat < h'.toNat := by
          have := List.length_pos_iff.2 hne
          omega
        obtain ⟨b, o, rfl, hb, hcell⟩ := hA (fun e => by subst e; simp at h2; omega)
        refine ⟨b, o + l.toNat * k, ?_, hb, fun j u hu' => ?_⟩
        · rw [if_neg (by omega)]; simp [add_lit']
        · rw [List.getElem?_drop, List.getElem?_take] at hu'
          split at hu'
          · rw [Nat.add_assoc]; exact hcell _ u hu'
          · cases hu'
      · rw [hfl] at hj
        rw [List.getElem?_drop, List.getElem?_take] at hu' hj
        split at hu'
        · rename_i hlt
          rw [if_pos hlt] at hj
          exact hrep _ T u hj hu'
        · cases hu'

theorem obnd_some {o : Option AVal} {r : Option Int} (h : obnd o = some r) {uo : Option Value} (hn : o = none → uo = none) (hs : ∀ v, o = some v → ∃ u, uo = some u ∧ VRel S m w (okB F S m w) v u) :
    ∃ q : Option (IntKind × Int), uo = q.map (fun p => .int p.1 p.2) ∧ r = q.map (·.2) := by
  unfold obnd at h
  split at h
  · simp only [Option.some.injEq] at h; subst h; exact ⟨none, hn rfl, rfl⟩
  · rename_i k j
    simp only [Option.some.injEq] at h; subst h
    obtain ⟨u, rfl, hv⟩ := hs _ rfl
    have := VRel.sc_inv hv; subst this
    exact ⟨some (k, j), rfl, rfl⟩
  · cases h

theorem sliceT_eq (k : Nat) (xs : List Tree) (lo hi : Option Int) (l h : Int) (hl : l = lo.getD 0) (hh : h = hi.getD xs.length) : sliceT k xs lo hi = .lst k ((xs.take h.toNat).drop l.toNat) := by
  cases lo <;> cases hi <;> simp at hl hh <;> subst hl <;> subst hh <;> simp [sliceT]
theorem sliceC_le {n : Nat} {lo hi : Option Int} (h : All (sliceC n lo hi)) : 0 ≤ lo.getD 0 ∧ lo.getD 0 ≤ hi.getD n ∧ hi.getD n ≤ (n : Int) := by
  cases lo <;> cases hi <;> simp [sliceC, All] at h ⊢ <;> omega

theorem sliceAt_slice {t e : TypeId} (hu : P.underlying t = some (.slice e)) (u : Value) (a b c : Option Value) : (Instr.sliceAt t u a b c).run P w = (Instr.slice t u a b c).run P w := by
  simp [Instr.sliceAt, run_underlying hu]

theorem sliceK_sound {t : TypeId} {x : AVal} {lo hi mx : Option AVal} {δ : Dl} (h : sliceK P t x lo hi mx st = some δ) (hc : All δ.cnd) (hst : ∀ id o, st id = some o → S id = some o) (hS : SRel F S m w)
    {ux : Value} {ulo uhi : Option Value} (hx : VRel S m w (okB F S m w) x ux) (hln : lo = none → ulo = none) (hls : ∀ v, lo = some v → ∃ u, ulo = some u ∧ VRel S m w (okB F S m w) v u)
    (hhn : hi = none → uhi = none) (hhs : ∀ v, hi = some v → ∃ u, uhi = some u ∧ VRel S m w (okB F S m w) v u) :
    mx = none ∧ Done F S m w δ.wr δ.val ((Instr.sliceAt t ux ulo uhi none).run P w) := by
  unfold sliceK at h
  split at h
  rotate_left
  · cases h
  rename_i lo' hi' h1 h2
  refine ⟨rfl, ?_⟩
  obtain ⟨ql, rfl, rfl⟩ := obnd_some h1 hln hls
  obtain ⟨qh, rfl, rfl⟩ := obnd_some h2 hhn hhs
  split at h
  · rename_i s hu
    have := pure1_some h; subst this
    have := VRel.sc_inv hx; subst this
    simp only [All] at hc
    obtain ⟨c1, c2, c3, -⟩ := hc
    refine Done.same hS ⟨_, ?_, .t _ _ (.sc _ rfl)⟩
    have hb := bounds_run (P := P) (w := w) false s.size s.size (Nat.le_refl _) ql qh _ _ rfl rfl c1 c2 c3
    simp [Instr.sliceAt, Instr.slice, run_underlying hu, hb]
  · rename_i e k xs hu
    obtain ⟨hz, h⟩ := bif_some h
    have hz := szIs_eq hz
    have := pure1_some h; subst this
    obtain ⟨c1, c2, c3⟩ := sliceC_le hc
    cases hx with
    | t _ _ hT =>
      obtain ⟨v, h3, h4⟩ := slice_tree hT hu hz ql qh _ _ rfl rfl c1 c2 c3
      refine Done.same hS ⟨v, by rw [sliceAt_slice hu]; exact h3, .t _ _ ?_⟩
      rw [sliceT_eq k xs _ _ _ _ rfl rfl]
      exact h4
  · rename_i e hu
    simp only [Option.bind_eq_some_iff] at h
    obtain ⟨z, hz, h⟩ := h
    have := pure1_some h; subst this
    have := VRel.sc_inv hx; subst this
    obtain ⟨c1, c2, c3⟩ := sliceC_le hc
    refine Done.same hS ⟨.slice none 0 0, ?_, .t _ _ (.sc _ rfl)⟩
    have hb := bounds_run (P := P) (w := w) true 0 0 (Nat.le_refl _) ql qh _ _ rfl rfl c1 c2 c3
    have e1 : ((ql.map fun x : IntKind × Int => x.2).getD 0).toNat = 0 := by omega
    have e2 : ((qh.map fun x : IntKind × Int => x.2).getD ((0 : Nat) : Int)).toNat = 0 := by omega
    rw [e1, e2] at hb
    rw [sliceAt_slice hu]
    simp [Instr.slice, run_underlying hu, hb, run_sizeOf' hz]
  · rename_i e id n hu
    split at h
    rotate_left
    · cases h
    rename_i k fz xs hs
    obtain ⟨hz, h⟩ := bif_some h
    have hz := szIs_eq hz
    simp only [Option.some.injEq] at h
    subst h
    simp only [All] at hc
    obtain ⟨hn, hc⟩ := hc
    obtain ⟨c1, c2, c3⟩ := sliceC_le hc
    have hs2 := hst id _ hs
    have hfr : Frz S (bif fz then [] else [(id, Ob.row k true xs)]) := by
      intro i o hi
      cases fz with
      | true => simp at hi
      | false => simp at hi; obtain ⟨rfl, rfl⟩ := hi; exact ⟨k, false, xs, hs2, rfl⟩
    obtain ⟨r1, r2, r3, _⟩ := freezeAll _ S hS hfr
    obtain ⟨fz', h5, h6⟩ := r3 id k fz xs hs2
    have : fz' = true := h6 (by
      cases fz with
      | true => exact .inr rfl
      | false => exact .inl (by simp))
    subst this
    cases hx with
    | row _ _ k' fz' xs' L hs' hn' hu' =>
      rw [hs2] at hs'; cases hs'
      have hL := hu' hn
      have hT := row_tree r1 h5
      rw [hL, ← hn] at hT
      obtain ⟨v, h3, h4⟩ := slice_tree hT hu hz ql qh _ _ rfl rfl c1 c2 c3
      refine ⟨v, w, m, by rw [sliceAt_slice hu]; exact h3, r1, r2, .t _ _ ?_⟩
      rw [sliceT_eq k xs _ _ _ _ rfl rfl]
      exact h4
  · cases h

theorem minK_run (big : Bool) (k : IntKind) : ∀ (l : List AVal) (us : List Value) (a r : Int), minK big a l = some r → us.length = l.length →
    (∀ (i : Nat) (v : AVal) (u : Value), l[i]? = some v → us[i]? = some u → VRel S m w (okB F S m w) v u) →
    (us.foldlM (bif big then Builtin.max2 else Builtin.min2) (.int k a)).run P w = .ok (.int k r) w
  | [], us, a, r, h, hl, _ => by
    have : us = [] := List.eq_nil_of_length_eq_zero (by simpa using hl)
    subst this
    simp [minK] at h; subst h; simp
  | v :: l, us, a, r, h, hl, hr => by
    match us, hl with
    | u :: us, hl =>
      simp only [minK] at h
      split at h
      rotate_left
      · cases h
      rename_i ik b
      have := VRel.sc_inv (hr 0 _ u rfl rfl)
      subst this
      have ih := minK_run big k l us _ r h (by simpa using hl) (fun i v u hv hu => hr (i + 1) v u hv hu)
      cases big
      · simp only [cond_false] at ih
        simp [Builtin.min2, ih]
      · simp only [cond_true] at ih
        simp [Builtin.max2, ih]

theorem minMaxK_sound {big : Bool} {xs : List AVal} {δ : Dl} (h : minMaxK big xs = some δ) {us : List Value} (hl : us.length = xs.length)
    (hr : ∀ (i : Nat) (v : AVal) (u : Value), xs[i]? = some v → us[i]? = some u → VRel S m w (okB F S m w) v u) (ts : Array TypeId) (ty : TypeId) :
    ∃ v, ((bif big then Builtin.max_ else Builtin.min_) ts ty us.toArray).run P w = .ok v w ∧ VRel S m w (okB F S m w) δ.val v ∧ δ.wr = [] := by
  unfold minMaxK at h
  split at h
  rotate_left
  · cases h
  rename_i k a l
  simp only [Option.bind_eq_some_iff] at h
  obtain ⟨r, h1, h2⟩ := h
  have := pure1_some h2; subst this
  match us, hl with
  | u :: us, hl =>
    have := VRel.sc_inv (hr 0 _ u rfl rfl)
    subst this
    have := minK_run (P := P) big k l us a r h1 (by simpa using hl) (fun i v u hv hu => hr (i + 1) v u hv hu)
    refine ⟨_, ?_, .t _ _ (.sc _ rfl), rfl⟩
    cases big
    · simpa [Builtin.min_] using this
    · simpa [Builtin.max_] using this

end Go.Ab
