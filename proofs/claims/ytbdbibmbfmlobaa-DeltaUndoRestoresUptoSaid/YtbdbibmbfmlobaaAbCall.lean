/- A call, by the callee's contract. -/
import Derived.Test.YtbdbibmbfmlobaaAbApp
set_option linter.unusedVariables false
namespace Go.Ab
variable {P : Program} {w : World} {F : Nat → Prop} {S st : Store} {m : Place}

theorem mem_idsL {i : Nat} : ∀ {l : List AVal}, i ∈ idsL l ↔ ∃ v ∈ l, i ∈ idsV v
  | [] => by simp [idsL]
  | v :: l => by simp [idsL, mem_idsL (l := l)]

/-- A value stands in a smaller store that has all that it names. -/
theorem VRel.restrict {st' : Store} {ok ok' : Nat → Prop} (hok : ∀ b, ok b → ok' b) {v : AVal} {u : Value} (h : VRel S m w ok v u) : (∀ id ∈ idsV v, st' id = S id) → VRel st' m w ok' v u := by
  induction h with
  | t T u hT => intro _; exact .t T u (hT.mono hok (fun _ _ _ _ h => h))
  | row id n k fz xs L h1 h2 h3 => intro hi; exact .row id n k fz xs L ((hi id (by simp [idsV])).trans h1) h2 h3
  | ptr id off cs b h1 h2 => intro hi; exact .ptr id off cs b ((hi id (by simp [idsV])).trans h1) h2
  | eptr id n i sub k fz xs b h1 h2 h3 => intro hi; exact .eptr id n i sub k fz xs b ((hi id (by simp [idsV])).trans h1) h2 h3
  | cptr cs b o us h1 h2 h3 h4 h5 => intro _; exact .cptr cs b o us (hok _ h1) h2 h3 h4 (fun j T u a b => (h5 j T u a b).mono hok (fun _ _ _ _ h => h))
  | agg cs us h1 _ h3 ih => intro hi; exact .agg cs us h1 (fun i v u a b => ih i v u a b (fun id hid => hi id (by simp only [idsV]; exact mem_idsL.2 ⟨v, List.mem_of_getElem? a, hid⟩))) h3
  | fn f cap us h1 _ ih => intro hi; exact .fn f cap us h1 (fun i v u a b => ih i v u a b (fun id hid => hi id (by simp only [idsV]; exact mem_idsL.2 ⟨v, List.mem_of_getElem? a, hid⟩)))
  | tup vs us h1 _ ih => intro hi; exact .tup vs us h1 (fun i v u a b => ih i v u a b (fun id hid => hi id (by simp only [idsV]; exact mem_idsL.2 ⟨v, List.mem_of_getElem? a, hid⟩)))
  | cond c v u _ h0 ih => intro hi; exact .cond c v u (fun e => ih e (fun id hid => hi id (by simpa [idsV] using hid))) h0
  | junk u => intro _; exact .junk u

theorem memfree_rel {st' : Store} {m' : Place} {w' : World} {ok ok' : Nat → Prop} {v : AVal} {u : Value} (hf : memfree v = true) (h : VRel S m w ok v u) : VRel st' m' w' ok' v u := by
  have tree : ∀ (T : Tree) (u : Value), T.free = true → TRep w ok T u → TRep w' ok' T u := by
    intro T u hT h
    cases h with
    | sc _ h => exact .sc _ h
    | lst => simp [Tree.free] at hT
    | agg cs us hl hc h1 =>
      refine .agg cs us hl hc (fun i T u a b => ?_)
      have h2 := h1 i T u a b
      have h3 := List.all_eq_true.1 hT T (List.mem_of_getElem? a)
      cases h2 with
      | sc _ h => exact .sc _ h
      | lst => simp at h3
      | agg => simp at h3
  cases h with
  | t T u hT => exact .t T u (tree T u hf hT)
  | tup vs us hl h1 =>
    refine .tup vs us hl (fun i v u a b => ?_)
    have h2 := h1 i v u a b
    have h3 := List.all_eq_true.1 hf v (List.mem_of_getElem? a)
    cases h2 with
    | t T u hT => exact .t T u (tree T u h3 hT)
    | _ => simp at h3
  | _ => simp [memfree] at hf

theorem app_at {S S' : Store} : ∀ {wr : List (Nat × Ob)} {id : Nat}, (id ∈ wr.map (·.1) ∨ S id = S' id) → app S wr id = app S' wr id
  | [], id, h => by simpa [app] using h
  | (i, o) :: wr, id, h => by
    simp only [app]
    apply app_at
    by_cases e : id = i
    · subst e; right; rw [upd_same, upd_same]
    · rcases h with h | h
      · simp only [List.map_cons, List.mem_cons] at h
        exact .inl (h.resolve_left e)
      · right; rw [upd_ne e, upd_ne e, h]
theorem app_not {S : Store} : ∀ {wr : List (Nat × Ob)} {id : Nat}, id ∉ wr.map (·.1) → app S wr id = S id
  | [], id, _ => rfl
  | (i, o) :: wr, id, h => by
    simp only [List.map_cons, List.mem_cons, not_or] at h
    simp only [app]
    rw [app_not h.2, upd_ne h.1]
theorem app_some {S : Store} : ∀ {wr : List (Nat × Ob)} {id : Nat}, id ∈ wr.map (·.1) → ∃ o, app S wr id = some o
  | [], id, h => by simp at h
  | (i, o) :: wr, id, h => by
    simp only [app]
    by_cases hm : id ∈ wr.map (·.1)
    · exact app_some hm
    · simp only [List.map_cons, List.mem_cons] at h
      have e := h.resolve_right hm
      subst e
      exact ⟨o, by rw [app_not hm, upd_same]⟩

theorem blk_lt (hS : SRel F S m w) {i : Nat} {oi : Ob} {b : Nat} (hi : S i = some oi) (hm : (m i).1 = some b) : b < w.heap.size := by
  have := hS.objs i oi hi
  cases oi with
  | box cs =>
    obtain ⟨b', us, e, h1, h2, _⟩ := this
    rw [h1] at hm; cases hm
    exact (Array.getElem?_eq_some_iff.1 h2).1
  | row k fz xs =>
    obtain ⟨_, _, _, _, h5⟩ := this
    rcases h5 with ⟨h1, _⟩ | ⟨b', us, e, h1, h2, _⟩
    · rw [h1] at hm; cases hm
    · rw [h1] at hm; cases hm
      exact (Array.getElem?_eq_some_iff.1 h2).1

/-- What a callee must keep off: the caller's other live objects. -/
def offB (F : Nat → Prop) (S sub : Store) (m : Place) (b : Nat) : Prop := F b ∨ ∃ id o, S id = some o ∧ o.live = true ∧ (m id).1 = some b ∧ sub id = none

theorem ok_off {sub : Store} (hsub : ∀ id o, sub id = some o → S id = some o) {b : Nat} (h : okB F S m w b) : okB (offB F S sub m) sub m w b := by
  obtain ⟨h1, h2, h3⟩ := h
  refine ⟨h1, fun hf => ?_, fun id o ho hl => h3 id o (hsub id o ho) hl⟩
  rcases hf with hf | ⟨id, o, ho, hl, hm, _⟩
  · exact h2 hf
  · exact h3 id o ho hl hm

theorem SRel.off {sub : Store} (hS : SRel F S m w) (hsub : ∀ id o, sub id = some o → S id = some o) (hcl : ∀ id cs, sub id = some (.box cs) → ∀ i ∈ idsL cs, sub i = S i) :
    SRel (offB F S sub m) sub m w := by
  refine ⟨fun id o ho => ?_, fun i j oi oj b hi hj => hS.inj i j oi oj b (hsub _ _ hi) (hsub _ _ hj), fun id o b ho hm hf => ?_, fun b hf => ?_⟩
  · have := hS.objs id o (hsub id o ho)
    cases o with
    | box cs =>
      obtain ⟨b, us, e, h1, h2, h3, h4⟩ := this
      exact ⟨b, us, e, h1, h2, h3, fun i v u p q => ⟨(h4 i v u p q).1.restrict (fun b hb => ok_off hsub hb) (fun i' hi' => hcl id cs ho i' (mem_idsL.2 ⟨v, List.mem_of_getElem? p, hi'⟩)), (h4 i v u p q).2⟩⟩
    | row k fz xs =>
      obtain ⟨a1, a2, a3, a4, a5⟩ := this
      refine ⟨a1, a2, a3, a4, a5.imp (fun h => h) ?_⟩
      rintro ⟨b, us, e, h1, h2, h3, h4, h5⟩
      exact ⟨b, us, e, h1, h2, h3, h4, fun j T u p q => (h5 j T u p q).mono (fun b hb => ok_off hsub hb) (fun _ _ _ _ h => h)⟩
  · rcases hf with hf | ⟨i, oi, hi, hl, hm', hn⟩
    · exact hS.avoid id o b (hsub id o ho) hm hf
    · have := hS.inj id i _ _ b (hsub id o ho) hi hm hm'
      subst this
      rw [ho] at hn; cases hn
  · rcases hf with hf | ⟨i, oi, hi, hl, hm, _⟩
    · exact hS.low b hf
    · exact blk_lt hS hi hm

/-- The callee's result in the caller's world. -/
theorem call_back {sub : Store} {wr : List (Nat × Ob)} {m1 : Place} {w' : World} {res : AVal} {v : Value} (hS : SRel F S m w) (hsub : ∀ id o, sub id = some o → S id = some o)
    (hwr : ∀ id ∈ wr.map (·.1), sub id = S id) (h1 : SRel (offB F S sub m) (app sub wr) m1 w') (h2 : FrameExt (offB F S sub m) sub m w (app sub wr) m1 w')
    (h3 : VRel (app sub wr) m1 w' (okB (offB F S sub m) (app sub wr) m1 w') res v) :
    ∃ m2, SRel F (app S wr) m2 w' ∧ FrameExt F S m w (app S wr) m2 w' ∧ VRel (app S wr) m2 w' (okB F (app S wr) m2 w') res v := by
  let m2 : Place := fun id => if (app sub wr id).isSome then m1 id else m id
  have hin : ∀ id o, app sub wr id = some o → m2 id = m1 id := fun id o h => by simp [m2, h]
  have hout : ∀ id, app sub wr id = none → m2 id = m id := fun id h => by simp [m2, h]
  have hS2 : ∀ id o, app sub wr id = some o → app S wr id = some o := by
    intro id o h
    by_cases hm : id ∈ wr.map (·.1)
    · rw [← h]; exact app_at (.inl hm)
    · rw [app_not hm] at h ⊢
      exact hsub id o h
  have hrest : ∀ id, app sub wr id = none → app S wr id = S id ∧ sub id = none := by
    intro id h
    have hm : id ∉ wr.map (·.1) := fun hm => by obtain ⟨o, ho⟩ := app_some (S := sub) hm; rw [h] at ho; cases ho
    rw [app_not hm] at h
    exact ⟨app_not hm, h⟩
  have hF : FrameExt F S m w (app S wr) m2 w' := by
    refine ⟨h2.os, h2.tape, h2.output, h2.size, fun b hb hf => ?_, fun id o ho => ?_, fun id o ho hn b hb => ?_⟩
    · refine h2.block b hb ?_
      rcases hf with hf | hf
      · exact .inl (.inl hf)
      · exact .inr fun id o ho hl => hf id o (hsub id o ho) hl
    · cases hs : sub id with
      | some o' =>
        have := hsub id o' hs
        rw [ho] at this; cases this
        obtain ⟨o1, k1, k2, k3, k4, k5, k6⟩ := h2.keep id o hs
        exact ⟨o1, hS2 id o1 k1, k2, fun e => by rw [hin id o1 k1]; exact k3 e, k4, by rw [hin id o1 k1]; exact k5, k6⟩
      | none =>
        have hm : id ∉ wr.map (·.1) := fun hm => by have := hwr id hm; rw [hs, ho] at this; cases this
        have hn : app sub wr id = none := by rw [app_not hm]; exact hs
        exact ⟨o, by rw [app_not hm]; exact ho, Nat.le_refl _, fun _ => hout id hn, fun h => h, .inl (by rw [hout id hn]), o.same_refl⟩
    · cases hs : app sub wr id with
      | some o1 =>
        have hsn : sub id = none := by
          cases hh : sub id with
          | none => rfl
          | some o' => have := hsub id o' hh; rw [hn] at this; cases this
        rw [hin id o1 hs] at hb
        exact h2.new id o1 hs hsn b hb
      | none =>
        have := (hrest id hs).1
        rw [ho, hn] at this; cases this
  have hok : ∀ b, okB (offB F S sub m) (app sub wr) m1 w' b → okB F (app S wr) m2 w' b := by
    rintro b ⟨b1, b2, b3⟩
    refine ⟨b1, fun hf => b2 (.inl hf), fun id o ho hl hm => ?_⟩
    cases hs : app sub wr id with
    | some o1 =>
      have := hS2 id o1 hs
      rw [ho] at this; cases this
      rw [hin id o hs] at hm
      exact b3 id o hs hl hm
    | none =>
      have hr := hrest id hs
      rw [hr.1] at ho
      rw [hout id hs] at hm
      exact b2 (.inr ⟨id, o, ho, hl, hm, hr.2⟩)
  have hext : ∀ id o, app sub wr id = some o → app S wr id = some o ∧ m2 id = m1 id := fun id o h => ⟨hS2 id o h, hin id o h⟩
  refine ⟨m2, ⟨fun id o ho => ?_, fun i j oi oj b hi hj hbi hbj => ?_, fun id o b ho hm hf => ?_, fun b hf => Nat.lt_of_lt_of_le (hS.low b hf) h2.size⟩, hF, h3.ext hext hok⟩
  · cases hs : app sub wr id with
    | some o1 =>
      have := hS2 id o1 hs
      rw [ho] at this; cases this
      rw [hin id o hs]
      have := h1.objs id o hs
      cases o with
      | box cs =>
        obtain ⟨b, us, e, k1, k2, k3, k4⟩ := this
        exact ⟨b, us, e, k1, k2, k3, fun i v u p q => ⟨(k4 i v u p q).1.ext hext hok, (k4 i v u p q).2⟩⟩
      | row k fz xs =>
        obtain ⟨a1, a2, a3, a4, a5⟩ := this
        refine ⟨a1, a2, a3, a4, a5.imp (fun h => h) ?_⟩
        rintro ⟨b, us, e, k1, k2, k3, k4, k5⟩
        exact ⟨b, us, e, k1, k2, k3, k4, fun j T u p q => (k5 j T u p q).mono hok (fun _ _ _ _ h => h)⟩
    | none =>
      have hr := hrest id hs
      rw [hr.1] at ho
      rw [hout id hs]
      refine (hS.objs id o ho).persist hF (fun b hb => ?_)
      refine h2.block b (blk_lt hS ho hb) (.inr fun i oi hi hl hbi => ?_)
      have := hS.inj id i _ _ b ho (hsub i oi hi) hb hbi
      subst this
      rw [hr.2] at hi; cases hi
  · -- no two objects in one block
    have mixed : ∀ i j oi oj, app S wr i = some oi → app S wr j = some oj → (m2 i).1 = some b → (m2 j).1 = some b → ∀ o1, app sub wr i = some o1 → app sub wr j = none → i = j := by
      intro i j oi oj hi hj hbi hbj o1 hs1 hs2
      have hr := hrest j hs2
      rw [hr.1] at hj
      rw [hout j hs2] at hbj
      rw [hin i o1 hs1] at hbi
      have hlt := blk_lt hS hj hbj
      cases hsi : sub i with
      | some o0 =>
        obtain ⟨_, _, _, _, _, k5, _⟩ := h2.keep i o0 hsi
        rcases k5 with k5 | k5
        · exact hS.inj i j _ _ b (hsub i o0 hsi) hj (k5 ▸ hbi) hbj
        · have := k5 b hbi; omega
      | none =>
        have := h2.new i o1 hs1 hsi b hbi
        omega
    cases hs1 : app sub wr i with
    | some o1 =>
      cases hs2 : app sub wr j with
      | some o2 =>
        rw [hin i o1 hs1] at hbi
        rw [hin j o2 hs2] at hbj
        exact h1.inj i j o1 o2 b hs1 hs2 hbi hbj
      | none => exact mixed i j oi oj hi hj hbi hbj o1 hs1 hs2
    | none =>
      cases hs2 : app sub wr j with
      | some o2 => exact (mixed j i oj oi hj hi hbj hbi o2 hs2 hs1).symm
      | none =>
        rw [(hrest i hs1).1] at hi
        rw [(hrest j hs2).1] at hj
        rw [hout i hs1] at hbi
        rw [hout j hs2] at hbj
        exact hS.inj i j oi oj b hi hj hbi hbj
  · cases hs : app sub wr id with
    | some o1 =>
      rw [hin id o1 hs] at hm
      exact h1.avoid id o1 b hs hm (.inl hf)
    | none =>
      rw [(hrest id hs).1] at ho
      rw [hout id hs] at hm
      exact hS.avoid id o b ho hm hf

/-- A call that comes back. -/
def Back (P : Program) (F : Nat → Prop) (S : Store) (m : Place) (w : World) (wr : List (Nat × Ob)) (val : AVal) (f : FuncId) (args : Array Value) : Prop :=
  Calls P f args w fun e w' => ∃ v m', e = .returned v ∧ SRel F (app S wr) m' w' ∧ FrameExt F S m w (app S wr) m' w' ∧ VRel (app S wr) m' w' (okB F (app S wr) m' w') val v

theorem callK_sound {f : FuncId} {vals : List AVal} {nid : Nat} {c : CallOrc} {δ : Dl} (h : callK P f vals st nid c = some δ) (hc : All δ.cnd) (hst : ∀ id o, st id = some o → S id = some o) (hneed : ∀ id ∈ c.need, st id = S id)
    (hS : SRel F S m w) (hfresh : ∀ id, nid ≤ id → id < nid + 8 → S id = none) {us : List Value} (hl : us.length = vals.length)
    (hr : ∀ (i : Nat) (v : AVal) (u : Value), vals[i]? = some v → us[i]? = some u → VRel S m w (okB F S m w) v u) : callable P f = true ∧ Back P F S m w δ.wr δ.val f us.toArray := by
  unfold callK at h
  split at h
  · -- a borrow
    split at h
    rotate_left
    · cases h
    rename_i vs g p hsn
    obtain ⟨hcond, h⟩ := bif_some h
    simp only [Bool.and_eq_true] at hcond
    simp only [Option.some.injEq] at h
    subst h
    simp only [All] at hc
    rw [All_append] at hc
    simp only [All] at hc
    obtain ⟨hcall, hp, hFC, -⟩ := hc
    refine ⟨hcall, ?_⟩
    obtain ⟨q1, q2, q3⟩ := snaps_sound hst hS hsn hp hl hr
    obtain ⟨r1, r2, r3, r4⟩ := freezeAll g S hS q2
    have hids : idsL vs = [] := by simpa using hcond.2
    have hemp : SRel F emp m w := ⟨fun id o h => (by cases h), fun i j oi oj b h => (by cases h), fun id o b h => (by cases h), hS.low⟩
    refine (hFC F m w us hemp q1.symm (fun i v u hv hu => ?_)).mono ?_
    · refine (q3 g q2 (fun x hx => hx) i v u hv hu).restrict (fun b hb => ⟨hb.1, hb.2.1, fun id o h => by cases h⟩) (fun id hid => ?_)
      have : id ∈ idsL vs := mem_idsL.2 ⟨v, List.mem_of_getElem? hv, hid⟩
      rw [hids] at this; cases this
    · rintro e w' ⟨v, m', he, h1, h2, h3⟩
      have hall : ∀ b, b < w.heap.size → w'.heap[b]? = w.heap[b]? := fun b hb => h2.block b hb (.inr fun id o h => by cases h)
      have hF : FrameExt F S m w S m w' := ⟨h2.os, h2.tape, h2.output, h2.size, fun b hb _ => hall b hb, fun id o h => ⟨o, h, Nat.le_refl _, fun _ => rfl, fun h => h, .inl rfl, o.same_refl⟩, fun id o h h' => by rw [h'] at h; cases h⟩
      exact ⟨v, m, he, ⟨fun id o ho => (hS.objs id o ho).persist hF (fun b hb => hall b (blk_lt hS ho hb)), hS.inj, hS.avoid, fun b hb => Nat.lt_of_lt_of_le (hS.low b hb) h2.size⟩, hF, memfree_rel hcond.1 h3⟩
  · -- the rows are frozen
    split at h
    rotate_left
    · cases h
    rename_i vs g p hsn
    obtain ⟨hcond, h⟩ := bif_some h
    simp only [Bool.and_eq_true] at hcond
    simp only [Option.some.injEq] at h
    subst h
    simp only [All] at hc
    rw [All_append] at hc
    simp only [All] at hc
    obtain ⟨hcall, hp, hFC, -⟩ := hc
    refine ⟨hcall, ?_⟩
    obtain ⟨q1, q2, q3⟩ := snaps_sound hst hS hsn hp hl hr
    obtain ⟨r1, r2, r3, r4⟩ := freezeAll g S hS q2
    have hids : idsL vs = [] := by simpa using hcond.2
    have hsub : ∀ id o, emp id = some o → app S g id = some o := fun id o h => by cases h
    have hnew : ∀ id ∈ c.wr.map (·.1), S id = none := by
      intro id hid
      obtain ⟨x, hx, rfl⟩ := List.mem_map.1 hid
      have := List.all_eq_true.1 hcond.1 x hx
      simp only [Bool.and_eq_true] at this
      exact hfresh x.1 (Nat.le_of_ble_eq_true this.1) (Nat.lt_of_succ_le (Nat.le_of_ble_eq_true this.2))
    refine (hFC (offB F (app S g) emp m) m w us (r1.off hsub (fun id cs h => by cases h)) q1.symm (fun i v u hv hu => ?_)).mono ?_
    · refine (q3 g q2 (fun x hx => hx) i v u hv hu).restrict (fun b hb => ok_off hsub hb) (fun id hid => ?_)
      have : id ∈ idsL vs := mem_idsL.2 ⟨v, List.mem_of_getElem? hv, hid⟩
      rw [hids] at this; cases this
    · rintro e w' ⟨v, m', he, h1, h2, h3⟩
      obtain ⟨m2, k1, k2, k3⟩ := call_back r1 hsub (fun id hid => by
        have h0 := hnew id hid
        have : id ∉ g.map (·.1) := fun hm => by
          obtain ⟨x, hx, rfl⟩ := List.mem_map.1 hm
          obtain ⟨k, fz, xs, hk, _⟩ := q2 x.1 x.2 hx
          rw [h0] at hk; cases hk
        rw [r4 id this, h0]; rfl) h1 h2 h3
      exact ⟨v, m2, he, by rw [app_append]; exact k1, by rw [app_append]; exact r2.trans hS k2, by rw [app_append]; exact k3⟩
  · -- the objects that are named
    obtain ⟨hcond, h⟩ := bif_some h
    simp only [Bool.and_eq_true] at hcond
    simp only [Option.some.injEq] at h
    subst h
    simp only [All] at hc
    obtain ⟨hcall, hFC, -⟩ := hc
    refine ⟨hcall, ?_⟩
    have hsub : ∀ id o, only st c.need id = some o → S id = some o := fun id o h => hst id o (only_some h).1
    have hmem : ∀ id, hasId c.need id = true → only st c.need id = S id := fun id h => by rw [only_mem (hasId_iff.1 h)]; exact hneed id (hasId_iff.1 h)
    have hcl : ∀ id cs, only st c.need id = some (.box cs) → ∀ i ∈ idsL cs, only st c.need i = S i := by
      intro id cs h i hi
      obtain ⟨h1, h2⟩ := only_some h
      have := List.all_eq_true.1 hcond.2 id h2
      rw [h1] at this
      exact hmem i (List.all_eq_true.1 this i hi)
    refine (hFC (offB F S (only st c.need) m) m w us (hS.off hsub hcl) hl (fun i v u hv hu => ?_)).mono ?_
    · refine (hr i v u hv hu).restrict (fun b hb => ok_off hsub hb) (fun id hid => ?_)
      exact hmem id (List.all_eq_true.1 hcond.1.2 id (mem_idsL.2 ⟨v, List.mem_of_getElem? hv, hid⟩))
    · rintro e w' ⟨v, m', he, h1, h2, h3⟩
      obtain ⟨m2, k1, k2, k3⟩ := call_back hS hsub (fun id hid => by
        obtain ⟨x, hx, rfl⟩ := List.mem_map.1 hid
        have := List.all_eq_true.1 hcond.1.1 x hx
        simp only [Bool.or_eq_true, Bool.and_eq_true] at this
        rcases this with h | h
        · exact hmem x.1 h
        · have h0 := hfresh x.1 (Nat.le_of_ble_eq_true h.1) (Nat.lt_of_succ_le (Nat.le_of_ble_eq_true h.2))
          rw [h0]
          cases hh : only st c.need x.1 with
          | none => rfl
          | some o => have := hsub _ _ hh; rw [h0] at this; cases this) h1 h2 h3
      exact ⟨v, m2, he, k1, k2, k3⟩

end Go.Ab
