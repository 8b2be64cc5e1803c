/- Each plain operation does what the evaluator says. -/
import Derived.Test.YtbdbibmbfmlobaaAbVal
set_option linter.unusedVariables false
namespace Go.Ab
variable {P : Program} {w : World}

theorem run_sizeOf' {t : TypeId} {z : Nat} (h : tsz P t = some z) : (sizeOf t).run P w = .ok z w := by
  unfold tsz at h
  cases hi : P.info? t with
  | none => simp [hi] at h
  | some i => simp [hi] at h; subst h; simp [sizeOf, typeInfo, hi]
theorem run_isAgg' {t : TypeId} {ag : Bool} (h : tagg P t = some ag) : (isAgg t).run P w = .ok ag w := by
  unfold tagg at h
  cases hu : P.underlying t with
  | none => simp [hu] at h
  | some d =>
    rw [hu] at h
    cases d <;> simp at h <;> subst h <;> simp [isAgg, run_underlying hu]
theorem run_zeroValue' {t : TypeId} {z : Value} (h : tzero P t = some z) : (zeroValue t).run P w = .ok z w := by
  unfold tzero at h
  cases hi : P.info? t with
  | none => simp [hi] at h
  | some i => simp [hi] at h; simp [zeroValue, typeInfo, hi, h]
theorem add_lit' (b o i : Nat) : (⟨b, o, none⟩ : Addr).add i = ⟨b, o + i, none⟩ := by unfold Addr.add; split <;> simp_all

/-- What a load yields. -/
def loaded (ag : Bool) (us : List Value) : Value := if ag then .agg us.toArray else us.headD undef
theorem run_loadVar' {t : TypeId} {sz : Nat} {ag : Bool} (hsz : tsz P t = some sz) (hag : tagg P t = some ag) (b o : Nat) (us : List Value) (hl : us.length = sz) (h1 : ag = false → sz = 1)
    (hc : ∀ (j : Nat) (u : Value), us[j]? = some u → w.cell? ⟨b, o + j, none⟩ = some u) : (loadVar t ⟨b, o, none⟩).run P w = .ok (loaded ag us) w := by
  cases ag with
  | true =>
    have h := run_loadCells_list (P := P) w ⟨b, o, none⟩ us (fun j v hv => by rw [add_lit']; exact hc j v hv)
    rw [hl] at h
    simp [loadVar, run_isAgg' hag, run_sizeOf' hsz, h, loaded]
  | false =>
    have := h1 rfl
    match us, hl with
    | [u], hl =>
      have h0 := hc 0 u rfl
      simp only [Nat.add_zero] at h0
      simp [loadVar, run_isAgg' hag, h0, loaded]
    | [], hl => simp at hl; omega
    | _ :: _ :: _, hl => simp at hl; omega

theorem part_some {α : Type} {l r : List α} {off n : Nat} (h : part l off n = some r) : r = (l.drop off).take n ∧ r.length = n := by
  unfold part at h
  cases hh : Nat.beq ((l.drop off).take n).length n with
  | false => simp only [hh, cond_false] at h; cases h
  | true =>
    simp only [hh, cond_true, Option.some.injEq] at h
    subst h
    exact ⟨rfl, Nat.eq_of_beq_eq_true hh⟩
theorem part_get {α : Type} {l r : List α} {off n : Nat} (h : part l off n = some r) {j : Nat} {x : α} (hj : r[j]? = some x) : l[off + j]? = some x := by
  obtain ⟨h1, h2⟩ := part_some h
  subst h1
  rw [List.getElem?_take] at hj
  split at hj
  · rw [List.getElem?_drop] at hj; exact hj
  · cases hj
theorem part_len {α : Type} {l r : List α} {off n : Nat} (h : part l off n = some r) : n = 0 ∨ off + n ≤ l.length := by
  obtain ⟨h1, h2⟩ := part_some h
  subst h1
  simp at h2
  omega

theorem mkV_rel {st : Store} {m : Place} {ok : Nat → Prop} {ag : Bool} {cs : List AVal} {v : AVal} (h : mkV ag cs = some v) {us : List Value} (hl : us.length = cs.length)
    (hr : ∀ (i : Nat) (v : AVal) (u : Value), cs[i]? = some v → us[i]? = some u → VRel st m w ok v u ∧ u.oneCell' = true) :
    VRel st m w ok v (loaded ag us) ∧ (ag = false → cs.length = 1) := by
  cases ag with
  | true =>
    simp only [mkV, Option.some.injEq] at h
    subst h
    exact ⟨VRel.aggV hl hr, fun e => by cases e⟩
  | false =>
    match cs, us, hl with
    | [a], [u], _ =>
      simp only [mkV, Option.some.injEq] at h
      subst h
      exact ⟨(hr 0 a u rfl rfl).1, fun _ => rfl⟩
    | [], _, _ => simp [mkV] at h
    | _ :: _ :: _, _, _ => simp [mkV] at h
theorem mkT_rel {ok : Nat → Prop} {ag : Bool} {cs : List Tree} {T : Tree} (h : mkT ag cs = some T) {us : List Value} (hl : us.length = cs.length) (hcell : ∀ T ∈ cs, T.isCell = true)
    (hr : ∀ (i : Nat) (T : Tree) (u : Value), cs[i]? = some T → us[i]? = some u → TRep w ok T u) :
    TRep w ok T (loaded ag us) ∧ (ag = false → cs.length = 1) := by
  cases ag with
  | true =>
    simp only [mkT, Option.some.injEq] at h
    subst h
    exact ⟨.agg cs us hl hcell hr, fun e => by cases e⟩
  | false =>
    match cs, us, hl with
    | [a], [u], _ =>
      simp only [mkT, Option.some.injEq] at h
      subst h
      exact ⟨hr 0 a u rfl rfl, fun _ => rfl⟩
    | [], _, _ => simp [mkT] at h
    | _ :: _ :: _, _, _ => simp [mkT] at h

/-! ### Elements of equal width -/
theorem flat_len {k : Nat} : ∀ {xs : List Tree}, (∀ x ∈ xs, Elt k x) → (flat xs).length = xs.length * k
  | [], _ => by simp [flat]
  | x :: xs, h => by
    have h1 := (h x (by simp)).1
    have ih := flat_len (xs := xs) (fun y hy => h y (by simp [hy]))
    simp [flat, h1, ih, Nat.add_mul, Nat.add_comm]
theorem flat_get {k : Nat} : ∀ {xs : List Tree} {i : Nat} {X : Tree}, (∀ x ∈ xs, Elt k x) → xs[i]? = some X → ∀ {j : Nat}, j < k → (flat xs)[i * k + j]? = X.cells[j]?
  | [], i, X, _, h, _, _ => by simp at h
  | x :: xs, 0, X, h, hX, j, hj => by
    simp at hX; subst hX
    have h1 := (h x (by simp)).1
    simp only [flat, Nat.zero_mul, Nat.zero_add]
    rw [List.getElem?_append_left (by omega)]
  | x :: xs, i + 1, X, h, hX, j, hj => by
    simp at hX
    have h1 := (h x (by simp)).1
    have ih := flat_get (xs := xs) (fun y hy => h y (by simp [hy])) hX hj
    simp only [flat]
    rw [List.getElem?_append_right (by rw [h1, Nat.add_mul]; omega), h1, show (i + 1) * k + j - k = i * k + j by rw [Nat.add_mul]; omega]
    exact ih
theorem flat_cell {k : Nat} : ∀ {xs : List Tree}, (∀ x ∈ xs, Elt k x) → ∀ T ∈ flat xs, T.isCell = true
  | [], _, T, hT => by simp [flat] at hT
  | x :: xs, h, T, hT => by
    simp only [flat, List.mem_append] at hT
    rcases hT with hT | hT
    · exact (h x (by simp)).2 T hT
    · exact flat_cell (fun y hy => h y (by simp [hy])) T hT
theorem flat_append (xs ys : List Tree) : flat (xs ++ ys) = flat xs ++ flat ys := by
  induction xs with
  | nil => rfl
  | cons x xs ih => simp [flat, ih]

/-! ### A load -/
theorem loadK_sound {F : Nat → Prop} {S st : Store} {m : Place} {t : TypeId} {av : AVal} {c : Orc} {δ : Dl} (h : loadK P t av st c = some δ) (hc : All δ.cnd)
    (hst : ∀ id o, st id = some o → S id = some o) (hS : SRel F S m w) {u : Value} (hv : VRel S m w (okB F S m w) av u) :
    ∃ v, (Instr.loadAt t u).run P w = .ok v w ∧ VRel S m w (okB F S m w) δ.val v ∧ δ.wr = [] := by
  unfold loadK at h
  split at h
  · rename_i sz ag id off hsz hag
    split at h
    · rename_i cs hs
      simp only [Option.bind_eq_some_iff] at h
      obtain ⟨v, ⟨r, hr, hmk⟩, hp⟩ := h
      simp only [pure1, Option.some.injEq] at hp
      subst hp
      cases hv with
      | ptr _ _ cs' b hs' hm =>
        have := hS.objs id _ (hst id _ hs)
        obtain ⟨b', us, e, h1, h2, h3, h4⟩ := this
        rw [hm] at h1; cases h1
        obtain ⟨hr1, hr2⟩ := part_some hr
        have hlen : ((us.toList.drop off).take sz).length = r.length := by rw [hr1]; simp [h3]
        have hrel : ∀ (i : Nat) (v : AVal) (u : Value), r[i]? = some v → ((us.toList.drop off).take sz)[i]? = some u → VRel S m w (okB F S m w) v u ∧ u.oneCell' = true := by
          intro i v u hi hu
          have hi' := part_get hr hi
          rw [List.getElem?_take] at hu
          split at hu
          · rw [List.getElem?_drop] at hu
            exact h4 _ v u hi' (by simpa using hu)
          · cases hu
        obtain ⟨hval, hone⟩ := mkV_rel hmk hlen hrel
        refine ⟨_, ?_, hval, rfl⟩
        have := run_loadVar' (P := P) (w := w) hsz hag b off ((us.toList.drop off).take sz) (by rw [hlen, hr2]) (fun e => by rw [← hr2]; exact hone e) (fun j u hu => by
          rw [List.getElem?_take] at hu
          split at hu
          · rw [List.getElem?_drop] at hu
            simp only [World.cell?, h2]
            simpa using hu
          · cases hu)
        simpa [Instr.loadAt, Instr.sureAddr] using this
    · cases h
  · rename_i sz ag cs hsz hag
    simp only [Option.bind_eq_some_iff] at h
    obtain ⟨T, ⟨r, hr, hmk⟩, hp⟩ := h
    simp only [pure1, Option.some.injEq] at hp
    subst hp
    cases hv with
    | cptr _ b o us hb hl hcl hcell hT =>
      simp only [loadK.off0] at hr
      obtain ⟨hr1, hr2⟩ := part_some hr
      have hlen : (us.take sz).length = r.length := by rw [hr1]; simp [hl]
      obtain ⟨hval, hone⟩ := mkT_rel (w := w) (ok := okB F S m w) hmk hlen (fun T hT => hcl T (List.mem_of_mem_drop (List.mem_of_mem_take (hr1 ▸ hT)))) (fun i T u hi hu => by
        have hi' := part_get hr hi
        rw [Nat.zero_add] at hi'
        rw [List.getElem?_take] at hu
        split at hu
        · exact hT i T u hi' hu
        · cases hu)
      refine ⟨_, ?_, .t _ _ hval, rfl⟩
      have := run_loadVar' (P := P) (w := w) hsz hag b o (us.take sz) (by rw [hlen, hr2]) (fun e => by rw [← hr2]; exact hone e) (fun j u hu => by
        rw [List.getElem?_take] at hu
        split at hu
        · exact hcell j u hu
        · cases hu)
      simpa [Instr.loadAt, Instr.sureAddr] using this
  · rename_i sz ag id n i sub hsz hag
    split at h
    · rename_i k fz xs hs
      simp only [Option.bind_eq_some_iff] at h
      obtain ⟨T, ⟨r, hr, hmk⟩, hp⟩ := h
      simp only [pure1, Option.some.injEq] at hp
      subst hp
      simp only [All] at hc
      obtain ⟨hn, hX, -⟩ := hc
      cases hv with
      | eptr _ _ _ _ k' fz' xs' b hs' hn' hu' =>
        have hs2 := hst id _ hs
        rw [hs2] at hs'
        cases hs'
        have hm := hu' hn
        have := hS.objs id _ hs2
        obtain ⟨a1, a2, a3, a4, a5⟩ := this
        rcases a5 with ⟨a5, _⟩ | ⟨b', us, e, h1, h2, h3, h4, h5⟩
        · rw [hm] at a5; cases a5
        · rw [hm] at h1; cases h1
          generalize hXe : eltOf c xs i = X at hr hX
          have hEX := a2 X (List.mem_of_getElem? hX)
          obtain ⟨hr1, hr2⟩ := part_some hr
          have hil : i < xs.length := (List.getElem?_eq_some_iff.1 hX).1
          have hbig : (i + 1) * k ≤ us.size := by rw [h3]; exact Nat.mul_le_mul_right k (by omega)
          have hsub : sz = 0 ∨ sub + sz ≤ k := by have := part_len hr; rw [hEX.1] at this; exact this
          have hlen : ((us.toList.drop (i * k + sub)).take sz).length = r.length := by
            rw [hr2]; simp
            rw [Nat.add_mul] at hbig
            omega
          obtain ⟨hval, hone⟩ := mkT_rel (w := w) (ok := okB F S m w) hmk hlen (fun T hT => hEX.2 T (List.mem_of_mem_drop (List.mem_of_mem_take (hr1 ▸ hT)))) (fun j T u hj hu => by
            have hj' := part_get hr hj
            rw [List.getElem?_take] at hu
            split at hu
            · rw [List.getElem?_drop] at hu
              have hlt : sub + j < k := by rw [← hEX.1]; exact (List.getElem?_eq_some_iff.1 hj').1
              have hf := flat_get a2 hX hlt
              rw [hj'] at hf
              exact h5 (i * k + (sub + j)) T u hf (by rw [← Nat.add_assoc]; simpa using hu)
            · cases hu)
          refine ⟨_, ?_, .t _ _ hval, rfl⟩
          have := run_loadVar' (P := P) (w := w) hsz hag b (i * k + sub) ((us.toList.drop (i * k + sub)).take sz) (by rw [hlen, hr2]) (fun e => by rw [← hr2]; exact hone e) (fun j u hu => by
            rw [List.getElem?_take] at hu
            split at hu
            · rw [List.getElem?_drop] at hu
              simp only [World.cell?, h2]
              simpa using hu
            · cases hu)
          simpa [Instr.loadAt, Instr.sureAddr] using this
    · cases h
  · cases h

end Go.Ab
