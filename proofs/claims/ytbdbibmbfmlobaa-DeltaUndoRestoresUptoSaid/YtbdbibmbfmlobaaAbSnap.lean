/- Snapshots of owned rows; slices of slices; the other operations that only read. -/
import Derived.Test.YtbdbibmbfmlobaaAbPure
set_option linter.unusedVariables false
namespace Go.Ab
variable {P : Program} {w : World} {F : Nat → Prop} {S st : Store} {m : Place}

theorem row_tree (hS : SRel F S m w) {id k : Nat} {xs : List Tree} (h : S id = some (.row k true xs)) : TRep w (okB F S m w) (.lst k xs) (rowVal (m id) xs.length) := by
  obtain ⟨a1, a2, a3, a4, a5⟩ := hS.objs id _ h
  rcases a5 with ⟨a5, a6⟩ | ⟨b, us, e, h1, h2, h3, h4, h5⟩
  · have hx : xs = [] := List.eq_nil_of_length_eq_zero (by rw [a6] at a3; omega)
    subst hx
    exact .lst k [] _ _ [] a1 (fun x hx => by simp at hx) (by simp) a4 (fun h => absurd rfl h) (by simp) (fun j T u h => by simp [flat] at h)
  · have hfl := flat_len a2
    have hle : xs.length * k ≤ us.size := by rw [h3]; exact Nat.mul_le_mul_right k a3
    refine .lst k xs _ _ ((us.toList).take (xs.length * k)) a1 a2 a3 a4 (fun _ => ⟨b, 0, by simp [h1], ⟨?_, ?_, ?_⟩, ?_⟩) (by simp; omega) (fun j T u hj hu => ?_)
    · exact (Array.getElem?_eq_some_iff.1 h2).1
    · exact hS.avoid id _ b h h1
    · intro i o hi hl hb
      have := hS.inj id i _ _ b h hi h1 hb
      subst this
      rw [h] at hi; cases hi
      simp [Ob.live] at hl
    · intro j u hu
      rw [List.getElem?_take] at hu
      split at hu
      · simp only [World.cell?, h2]; simpa using hu
      · cases hu
    · rw [List.getElem?_take] at hu
      split at hu
      · exact h5 j T u hj (by simpa using hu)
      · cases hu

def Frz (S : Store) (f : List (Nat × Ob)) : Prop := ∀ id o, (id, o) ∈ f → ∃ k fz xs, S id = some (.row k fz xs) ∧ o = .row k true xs

theorem freezeAll : ∀ (f : List (Nat × Ob)) (S : Store), SRel F S m w → Frz S f →
    SRel F (app S f) m w ∧ FrameExt F S m w (app S f) m w ∧
      (∀ id k fz xs, S id = some (.row k fz xs) → ∃ fz', app S f id = some (.row k fz' xs) ∧ ((id ∈ f.map (·.1) ∨ fz = true) → fz' = true)) ∧
      (∀ id, id ∉ f.map (·.1) → app S f id = S id)
  | [], S, hS, _ => ⟨hS, FrameExt.refl F S m w, fun id k fz xs h => ⟨fz, h, fun h' => h'.elim (fun h' => by simp at h') (fun h' => h')⟩, fun id _ => rfl⟩
  | (i, o) :: f, S, hS, hf => by
    obtain ⟨k, fz, xs, hi, rfl⟩ := hf i o (by simp)
    obtain ⟨h1, h2⟩ := freeze hS hi
    have hrow : ∀ id k' fz' xs', S id = some (.row k' fz' xs') → ∃ fz'', upd S i (.row k true xs) id = some (.row k' fz'' xs') ∧ ((id = i ∨ fz' = true) → fz'' = true) := by
      intro id k' fz' xs' h
      by_cases e : id = i
      · subst e
        rw [hi] at h; cases h
        exact ⟨true, upd_same _ _ _, fun _ => rfl⟩
      · exact ⟨fz', by rw [upd_ne e]; exact h, fun h' => h'.elim (fun h' => absurd h' e) (fun h' => h')⟩
    have hf' : Frz (upd S i (.row k true xs)) f := by
      intro id o h
      obtain ⟨k', fz', xs', h3, h4⟩ := hf id o (by simp [h])
      obtain ⟨fz'', h5, _⟩ := hrow id k' fz' xs' h3
      exact ⟨k', fz'', xs', h5, h4⟩
    obtain ⟨r1, r2, r3, r4⟩ := freezeAll f (upd S i (.row k true xs)) h1 hf'
    refine ⟨r1, h2.trans hS r2, fun id k' fz' xs' h => ?_, fun id hid => ?_⟩
    · obtain ⟨fz'', h5, h6⟩ := hrow id k' fz' xs' h
      obtain ⟨fz3, h7, h8⟩ := r3 id k' fz'' xs' h5
      refine ⟨fz3, h7, fun h9 => h8 ?_⟩
      rcases h9 with h9 | h9
      · simp only [List.map_cons, List.mem_cons] at h9
        rcases h9 with h9 | h9
        · exact .inr (h6 (.inl h9))
        · exact .inl h9
      · exact .inr (h6 (.inr h9))
    · simp only [List.map_cons, List.mem_cons, not_or] at hid
      show app (upd S i (.row k true xs)) f id = S id
      rw [r4 id hid.2, upd_ne hid.1]

theorem All_append {l r : List Prop} : All (l ++ r) ↔ All l ∧ All r := by
  induction l with
  | nil => simp [All]
  | cons p l ih => simp [All, ih, and_assoc]

/-- What a snapshot gives: which rows are to be frozen, and that in every store where they are frozen the new value stands. -/
def SnapOk (F : Nat → Prop) (S : Store) (m : Place) (w : World) (v' : AVal) (f : List (Nat × Ob)) (u : Value) : Prop :=
  Frz S f ∧ ∀ g : List (Nat × Ob), Frz S g → (∀ x ∈ f, x ∈ g) → VRel (app S g) m w (okB F (app S g) m w) v' u

theorem snap1_sound (hst : ∀ id o, st id = some o → S id = some o) (hS : SRel F S m w) {v v' : AVal} {f : List (Nat × Ob)} {p : List Prop} (h : snap1 st v = some (v', f, p)) (hp : All p) {u : Value}
    (hv : VRel S m w (okB F S m w) v u) : SnapOk F S m w v' f u := by
  have keep : ∀ (e1 : v = v') (e2 : f = []), SnapOk F S m w v' f u := by
    intro e1 e2
    subst e1; subst e2
    exact ⟨fun id o h => by simp at h, fun g hg _ => (freezeAll g S hS hg).2.1.val hv⟩
  cases v with
  | row id n =>
    simp only [snap1] at h
    split at h
    rotate_left
    · cases h
    rename_i k fz xs hs
    simp only [Option.some.injEq, Prod.mk.injEq] at h
    obtain ⟨rfl, rfl, rfl⟩ := h
    simp only [All] at hp
    obtain ⟨hn, -⟩ := hp
    have hs2 := hst id _ hs
    cases hv with
    | row _ _ k' fz' xs' L hs' hn' hu' =>
      rw [hs2] at hs'; cases hs'
      have hL := hu' hn
      refine ⟨fun i o hi => ?_, fun g hg hfg => ?_⟩
      · cases fz with
        | true => simp at hi
        | false => simp at hi; obtain ⟨rfl, rfl⟩ := hi; exact ⟨k, false, xs, hs2, rfl⟩
      · obtain ⟨r1, r2, r3, _⟩ := freezeAll g S hS hg
        obtain ⟨fz', h1, h2⟩ := r3 id k fz xs hs2
        have : fz' = true := h2 (by
          cases fz with
          | true => exact .inr rfl
          | false => exact .inl (List.mem_map.2 ⟨(id, .row k true xs), hfg _ (by simp), rfl⟩))
        subst this
        have := row_tree r1 h1
        rw [hL, ← hn] at this
        exact .t _ _ this
  | t T => simp only [snap1, Option.some.injEq, Prod.mk.injEq] at h; exact keep h.1 h.2.1.symm
  | ptr id off => simp only [snap1, Option.some.injEq, Prod.mk.injEq] at h; exact keep h.1 h.2.1.symm
  | eptr id n i sub => simp only [snap1, Option.some.injEq, Prod.mk.injEq] at h; exact keep h.1 h.2.1.symm
  | cptr cs => simp only [snap1, Option.some.injEq, Prod.mk.injEq] at h; exact keep h.1 h.2.1.symm
  | agg cs => simp only [snap1, Option.some.injEq, Prod.mk.injEq] at h; exact keep h.1 h.2.1.symm
  | fn f cap => simp only [snap1, Option.some.injEq, Prod.mk.injEq] at h; exact keep h.1 h.2.1.symm
  | tup vs => simp only [snap1, Option.some.injEq, Prod.mk.injEq] at h; exact keep h.1 h.2.1.symm
  | cond c v => simp only [snap1, Option.some.injEq, Prod.mk.injEq] at h; exact keep h.1 h.2.1.symm
  | junk => simp only [snap1, Option.some.injEq, Prod.mk.injEq] at h; exact keep h.1 h.2.1.symm

theorem Frz.append {f g : List (Nat × Ob)} (hf : Frz S f) (hg : Frz S g) : Frz S (f ++ g) := by
  intro id o h
  rcases List.mem_append.1 h with h | h
  · exact hf id o h
  · exact hg id o h

/-- The same for lists of values. -/
def SnapsOk (F : Nat → Prop) (S : Store) (m : Place) (w : World) (vs : List AVal) (f : List (Nat × Ob)) (us : List Value) : Prop :=
  vs.length = us.length ∧ Frz S f ∧ ∀ g : List (Nat × Ob), Frz S g → (∀ x ∈ f, x ∈ g) →
    ∀ (i : Nat) (v : AVal) (u : Value), vs[i]? = some v → us[i]? = some u → VRel (app S g) m w (okB F (app S g) m w) v u

theorem snapL_sound (hst : ∀ id o, st id = some o → S id = some o) (hS : SRel F S m w) : ∀ {vs vs' : List AVal} {f : List (Nat × Ob)} {p : List Prop} {us : List Value}, snapL st vs = some (vs', f, p) → All p →
    us.length = vs.length → (∀ (i : Nat) (v : AVal) (u : Value), vs[i]? = some v → us[i]? = some u → VRel S m w (okB F S m w) v u) → SnapsOk F S m w vs' f us
  | [], vs', f, p, us, h, _, hl, _ => by
    simp only [snapL, Option.some.injEq, Prod.mk.injEq] at h
    obtain ⟨rfl, rfl, rfl⟩ := h
    have : us = [] := List.eq_nil_of_length_eq_zero (by simpa using hl)
    subst this
    exact ⟨rfl, fun id o h => by simp at h, fun g _ _ i v u h => by simp at h⟩
  | v :: vs, vs', f, p, us, h, hp, hl, hr => by
    simp only [snapL] at h
    split at h
    rotate_left
    · cases h
    rename_i v1 f1 p1 l1 g1 d1 h1 h2
    simp only [Option.some.injEq, Prod.mk.injEq] at h
    obtain ⟨rfl, rfl, rfl⟩ := h
    rw [All_append] at hp
    match us, hl with
    | u :: us, hl =>
      have s1 := snap1_sound hst hS h1 hp.1 (hr 0 v u rfl rfl)
      have s2 := snapL_sound hst hS h2 hp.2 (by simpa using hl) (fun i v u hv hu => hr (i + 1) v u hv hu)
      refine ⟨by simp [s2.1], s1.1.append s2.2.1, fun g hg hfg i v' u' hv hu => ?_⟩
      match i with
      | 0 => simp at hv hu; subst hv; subst hu; exact s1.2 g hg (fun x hx => hfg x (by simp [hx]))
      | i + 1 => exact s2.2.2 g hg (fun x hx => hfg x (by simp [hx])) i v' u' hv hu

/-- A plain agg of cells. -/
theorem snap_sound (hst : ∀ id o, st id = some o → S id = some o) (hS : SRel F S m w) {v v' : AVal} {f : List (Nat × Ob)} {p : List Prop} (h : snap st v = some (v', f, p)) (hp : All p) {u : Value}
    (hv : VRel S m w (okB F S m w) v u) : SnapOk F S m w v' f u := by
  cases v with
  | agg cs =>
    simp only [snap, Option.map_eq_some_iff] at h
    obtain ⟨⟨cs', f', p'⟩, h1, h2⟩ := h
    simp only [Prod.mk.injEq] at h2
    obtain ⟨rfl, rfl, rfl⟩ := h2
    cases hv with
    | agg _ us hl hc h1' =>
      have := snapL_sound hst hS h1 hp hl hc
      refine ⟨this.2.1, fun g hg hfg => VRel.aggV this.1.symm (fun i v u hv hu => ⟨this.2.2 g hg hfg i v u hv hu, h1' u (List.mem_of_getElem? hu)⟩)⟩
  | t T => simp only [snap] at h; exact snap1_sound hst hS h hp hv
  | row id n => simp only [snap] at h; exact snap1_sound hst hS h hp hv
  | ptr id off => simp only [snap] at h; exact snap1_sound hst hS h hp hv
  | eptr id n i sub => simp only [snap] at h; exact snap1_sound hst hS h hp hv
  | cptr cs => simp only [snap] at h; exact snap1_sound hst hS h hp hv
  | fn f cap => simp only [snap] at h; exact snap1_sound hst hS h hp hv
  | tup vs => simp only [snap] at h; exact snap1_sound hst hS h hp hv
  | cond c v => simp only [snap] at h; exact snap1_sound hst hS h hp hv
  | junk => simp only [snap] at h; exact snap1_sound hst hS h hp hv

theorem snaps_sound (hst : ∀ id o, st id = some o → S id = some o) (hS : SRel F S m w) : ∀ {vs vs' : List AVal} {f : List (Nat × Ob)} {p : List Prop} {us : List Value}, snaps st vs = some (vs', f, p) → All p →
    us.length = vs.length → (∀ (i : Nat) (v : AVal) (u : Value), vs[i]? = some v → us[i]? = some u → VRel S m w (okB F S m w) v u) → SnapsOk F S m w vs' f us
  | [], vs', f, p, us, h, _, hl, _ => by
    simp only [snaps, Option.some.injEq, Prod.mk.injEq] at h
    obtain ⟨rfl, rfl, rfl⟩ := h
    have : us = [] := List.eq_nil_of_length_eq_zero (by simpa using hl)
    subst this
    exact ⟨rfl, fun id o h => by simp at h, fun g _ _ i v u h => by simp at h⟩
  | v :: vs, vs', f, p, us, h, hp, hl, hr => by
    simp only [snaps] at h
    split at h
    rotate_left
    · cases h
    rename_i v1 f1 p1 l1 g1 d1 h1 h2
    simp only [Option.some.injEq, Prod.mk.injEq] at h
    obtain ⟨rfl, rfl, rfl⟩ := h
    rw [All_append] at hp
    match us, hl with
    | u :: us, hl =>
      have s1 := snap_sound hst hS h1 hp.1 (hr 0 v u rfl rfl)
      have s2 := snaps_sound hst hS h2 hp.2 (by simpa using hl) (fun i v u hv hu => hr (i + 1) v u hv hu)
      refine ⟨by simp [s2.1], s1.1.append s2.2.1, fun g hg hfg i v' u' hv hu => ?_⟩
      match i with
      | 0 => simp at hv hu; subst hv; subst hu; exact s1.2 g hg (fun x hx => hfg x (by simp [hx]))
      | i + 1 => exact s2.2.2 g hg (fun x hx => hfg x (by simp [hx])) i v' u' hv hu

end Go.Ab
