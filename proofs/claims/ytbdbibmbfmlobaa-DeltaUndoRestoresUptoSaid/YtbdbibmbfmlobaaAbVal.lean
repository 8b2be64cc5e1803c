/- Facts on values and stores, and on the plain operations. -/
import Derived.Test.YtbdbibmbfmlobaaAbStep
import Derived.Laws.Cells
import Derived.Laws.AppendOwn
import Derived.Laws.Tables
import Derived.ChangeKeysEq
set_option linter.unusedVariables false
namespace Go.Ab

theorem beq_ne {a b : Nat} (h : a ≠ b) : Nat.beq a b = false := by
  cases hh : Nat.beq a b with
  | false => rfl
  | true => exact absurd (Nat.eq_of_beq_eq_true hh) h
theorem hasId_iff {l : List Nat} {j : Nat} : hasId l j = true ↔ j ∈ l := by
  induction l with
  | nil => simp [hasId]
  | cons a l ih =>
    simp only [hasId, List.mem_cons]
    by_cases h : a = j
    · subst h; simp
    · have : Nat.beq a j = false := beq_ne h
      rw [this]; simp only [cond_false, ih]
      exact ⟨.inr, fun h' => h'.resolve_left (fun e => h e.symm)⟩
theorem only_some {st : Store} {l : List Nat} {id : Nat} {o : Ob} (h : only st l id = some o) : st id = some o ∧ id ∈ l := by
  unfold only at h
  cases hh : hasId l id with
  | true => rw [hh] at h; exact ⟨h, hasId_iff.1 hh⟩
  | false => rw [hh] at h; cases h
theorem only_mem {st : Store} {l : List Nat} {id : Nat} (h : id ∈ l) : only st l id = st id := by
  unfold only; rw [hasId_iff.2 h]; rfl

theorem upd_same (st : Store) (i : Nat) (o : Ob) : upd st i o i = some o := by simp [upd]
theorem upd_ne {st : Store} {i j : Nat} {o : Ob} (h : j ≠ i) : upd st i o j = st j := by
  have : Nat.beq j i = false := beq_ne h
  simp [upd, this]

/-- A value stands in every larger store. -/
theorem VRel.ext {st st' : Store} {m m' : Place} {w : World} {ok ok' : Nat → Prop} (hs : ∀ id o, st id = some o → st' id = some o ∧ m' id = m id) (hok : ∀ b, ok b → ok' b)
    {v : AVal} {u : Value} (h : VRel st m w ok v u) : VRel st' m' w ok' v u := by
  induction h with
  | t T u hT => exact .t T u (hT.mono hok (fun _ _ _ _ h => h))
  | row id n k fz xs L h1 h2 h3 => exact .row id n k fz xs L (hs _ _ h1).1 h2 (by rw [(hs _ _ h1).2]; exact h3)
  | ptr id off cs b h1 h2 => exact .ptr id off cs b (hs _ _ h1).1 (by rw [(hs _ _ h1).2]; exact h2)
  | eptr id n i sub k fz xs b h1 h2 h3 => exact .eptr id n i sub k fz xs b (hs _ _ h1).1 h2 (by rw [(hs _ _ h1).2]; exact h3)
  | cptr cs b o us h1 h2 h3 h4 h5 => exact .cptr cs b o us (hok _ h1) h2 h3 h4 (fun j T u a b => (h5 j T u a b).mono hok (fun _ _ _ _ h => h))
  | agg cs us h1 _ h3 ih => exact .agg cs us h1 ih h3
  | fn f cap us h1 _ ih => exact .fn f cap us h1 ih
  | tup vs us h1 _ ih => exact .tup vs us h1 ih
  | cond c v u _ h0 ih => exact .cond c v u ih h0
  | junk u => exact .junk u

theorem VRel.one {st : Store} {m : Place} {w : World} {ok : Nat → Prop} {v : AVal} {u : Value} (h : VRel st m w ok v u) (hv : isCellV v = true) : u.oneCell' = true := by
  cases h with
  | t T u hT => exact hT.one hv
  | row => rfl
  | ptr => rfl
  | eptr => rfl
  | cptr => rfl
  | fn => rfl
  | agg => simp [isCellV] at hv
  | tup => simp [isCellV] at hv
  | cond => simp [isCellV] at hv
  | junk => simp [isCellV] at hv

theorem cells_one {u : Value} (h : u.oneCell' = true) : u.cells = #[u] := by
  cases u <;> first | rfl | (simp [Value.oneCell'] at h)

/-- A value's cells, one by one. -/
theorem VRel.cellsOf {st : Store} {m : Place} {w : World} {ok : Nat → Prop} {v : AVal} {u : Value} (h : VRel st m w ok v u) (hc : (cellsV v).all isCellV = true) :
    ∃ us : List Value, u.cells = us.toArray ∧ us.length = (cellsV v).length ∧
      ∀ (i : Nat) (v' : AVal) (u' : Value), (cellsV v)[i]? = some v' → us[i]? = some u' → VRel st m w ok v' u' ∧ u'.oneCell' = true := by
  have single : ∀ (hcs : Ab.cellsV v = [v]), u.oneCell' = true → ∃ us : List Value, u.cells = us.toArray ∧ us.length = (Ab.cellsV v).length ∧
      ∀ (i : Nat) (v' : AVal) (u' : Value), (Ab.cellsV v)[i]? = some v' → us[i]? = some u' → VRel st m w ok v' u' ∧ u'.oneCell' = true := by
    intro hcs h1
    refine ⟨[u], cells_one h1, by rw [hcs]; rfl, fun i v' u' hv hu => ?_⟩
    rw [hcs] at hv
    match i with
    | 0 => simp at hv hu; subst hv; subst hu; exact ⟨h, h1⟩
    | i + 1 => simp at hu
  cases h with
  | t T u hT =>
    cases hT with
    | sc v h1 => exact single rfl h1
    | lst k xs A c us _ _ _ _ _ _ _ => exact single rfl rfl
    | agg cs us hl hcs h1 =>
      refine ⟨us, rfl, by simp [Ab.cellsV, hl], fun i v' u' hv hu => ?_⟩
      simp only [Ab.cellsV, List.getElem?_map, Option.map_eq_some_iff] at hv
      obtain ⟨T, hT, rfl⟩ := hv
      have := h1 i T u' hT hu
      exact ⟨.t T u' this, this.one (hcs T (List.mem_of_getElem? hT))⟩
  | agg cs us hl h1 h2 => exact ⟨us, rfl, hl, fun i v' u' hv hu => ⟨h1 i v' u' hv hu, h2 u' (List.mem_of_getElem? hu)⟩⟩
  | row => exact single rfl rfl
  | ptr => exact single rfl rfl
  | eptr => exact single rfl rfl
  | cptr => exact single rfl rfl
  | fn => exact single rfl rfl
  | tup => simp [Ab.cellsV, isCellV] at hc
  | cond => simp [Ab.cellsV, isCellV] at hc
  | junk => simp [Ab.cellsV, isCellV] at hc

theorem allT_some {cs : List AVal} {Ts : List Tree} (h : allT cs = some Ts) : cs = Ts.map .t := by
  induction cs generalizing Ts with
  | nil => simp [allT] at h; subst h; rfl
  | cons v l ih =>
    cases v <;> simp [allT] at h
    obtain ⟨r, hr, rfl⟩ := h
    simp [ih hr]

theorem VRel.aggV {st : Store} {m : Place} {w : World} {ok : Nat → Prop} {cs : List AVal} {us : List Value} (hl : us.length = cs.length)
    (h : ∀ (i : Nat) (v : AVal) (u : Value), cs[i]? = some v → us[i]? = some u → VRel st m w ok v u ∧ u.oneCell' = true) : VRel st m w ok (aggV cs) (.agg us.toArray) := by
  unfold Ab.aggV
  cases ha : allT cs with
  | none =>
    simp only
    refine .agg cs us hl (fun i v u a b => (h i v u a b).1) (fun u hu => ?_)
    obtain ⟨i, hi, rfl⟩ := List.mem_iff_getElem.1 hu
    exact (h i _ _ (List.getElem?_eq_getElem (by omega)) (List.getElem?_eq_getElem hi)).2
  | some Ts =>
    have hcs := allT_some ha
    subst hcs
    simp only [List.length_map] at hl
    simp only
    have key : ∀ (i : Nat) (T : Tree) (u : Value), Ts[i]? = some T → us[i]? = some u → TRep w ok T u ∧ u.oneCell' = true := by
      intro i T u hT hu
      have := h i (.t T) u (by simp [hT]) hu
      obtain ⟨h1, h2⟩ := this
      cases h1 with
      | t _ _ h1 => exact ⟨h1, h2⟩
    refine .t _ _ (.agg Ts us hl (fun T hT => ?_) (fun i T u a b => (key i T u a b).1))
    obtain ⟨i, hi, rfl⟩ := List.mem_iff_getElem.1 hT
    obtain ⟨h1, h2⟩ := key i _ _ (List.getElem?_eq_getElem hi) (List.getElem?_eq_getElem (by omega))
    generalize Ts[i] = T at h1
    generalize us[i] = u at h1 h2
    cases h1 with
    | agg => simp [Value.oneCell'] at h2
    | sc => rfl
    | lst => rfl

/-! ### What an operation owes -/
/-- Operation o, its operands as 'a' reads them, leaves what 'wr' and 'val' say. -/
def Up (P : Program) (F : Nat → Prop) (S : Store) (m : Place) (w : World) (wr : List (Nat × Ob)) (val : AVal) (o : Oper) (a : Act) : Prop :=
  ∀ (next : Act → World → Prop) (Q : Exit → Act → World → Prop),
    (∀ v w' m', SRel F (app S wr) m' w' → FrameExt F S m w (app S wr) m' w' → VRel (app S wr) m' w' (okB F (app S wr) m' w') val v → next (a.put o.dst v) w') →
    o.upon P a next Q ((execOp a.eval o).run P w)

theorem Up.value {P : Program} {F : Nat → Prop} {S : Store} {m m' : Place} {w w' : World} {wr : List (Nat × Ob)} {val : AVal} {o : Oper} {a : Act} {v : Value}
    (hr : (execOp a.eval o).run P w = .ok (.value v) w') (hS : SRel F (app S wr) m' w') (hF : FrameExt F S m w (app S wr) m' w') (hv : VRel (app S wr) m' w' (okB F (app S wr) m' w') val v) :
    Up P F S m w wr val o a := by
  intro next Q h
  rw [hr]
  exact h v w' m' hS hF hv
theorem Up.skip {P : Program} {F : Nat → Prop} {S : Store} {m m' : Place} {w w' : World} {wr : List (Nat × Ob)} {o : Oper} {a : Act}
    (hr : (execOp a.eval o).run P w = .ok .skip w') (hS : SRel F (app S wr) m' w') (hF : FrameExt F S m w (app S wr) m' w') :
    Up P F S m w wr .junk o a := by
  intro next Q h
  rw [hr]
  exact h undef w' m' hS hF (.junk _)
/-- An operation that only reads. -/
theorem Up.same {P : Program} {F : Nat → Prop} {S : Store} {m : Place} {w : World} {val : AVal} {o : Oper} {a : Act} {v : Value} (hS : SRel F S m w)
    (hr : (execOp a.eval o).run P w = .ok (.value v) w) (hv : VRel S m w (okB F S m w) val v) : Up P F S m w [] val o a :=
  Up.value hr hS (FrameExt.refl F S m w) hv

/-! ### Freezing a row -/
theorem freeze {F : Nat → Prop} {S : Store} {m : Place} {w : World} (hS : SRel F S m w) {id k : Nat} {fz : Bool} {xs : List Tree} (hid : S id = some (.row k fz xs)) :
    SRel F (upd S id (.row k true xs)) m w ∧ FrameExt F S m w (upd S id (.row k true xs)) m w := by
  have hF : FrameExt F S m w (upd S id (.row k true xs)) m w := by
    refine ⟨rfl, rfl, rfl, Nat.le_refl _, fun _ _ _ => rfl, fun i o ho => ?_, fun i o ho hn => ?_⟩
    · by_cases e : i = id
      · subst e
        rw [hid] at ho
        cases ho
        exact ⟨_, upd_same _ _ _, Nat.le_refl _, fun _ => rfl, fun _ => rfl, .inl rfl, by simp [Ob.same]⟩
      · refine ⟨o, by rw [upd_ne e]; exact ho, Nat.le_refl _, fun _ => rfl, fun h => h, .inl rfl, o.same_refl⟩
    · by_cases e : i = id
      · subst e; rw [hid] at hn; cases hn
      · rw [upd_ne e] at ho; rw [ho] at hn; cases hn
  refine ⟨⟨fun i o ho => ?_, fun i j oi oj b hi hj h1 h2 => ?_, fun i o b ho hb => ?_, fun b h => ?_⟩, hF⟩
  · by_cases e : i = id
    · subst e
      rw [upd_same] at ho
      cases ho
      have := hS.objs _ _ hid
      simp only [ORel, RowAt] at this ⊢
      obtain ⟨a1, a2, a3, a4, a5⟩ := this
      refine ⟨a1, a2, a3, a4, a5.imp (fun h => h) ?_⟩
      rintro ⟨b, us, e, h1, h2, h3, h4, h5⟩
      exact ⟨b, us, e, h1, h2, h3, h4, fun j T u p q => hF.tree (h5 j T u p q)⟩
    · rw [upd_ne e] at ho
      have := hS.objs _ _ ho
      cases o with
      | box cs =>
        obtain ⟨b, us, e, h1, h2, h3, h4⟩ := this
        exact ⟨b, us, e, h1, h2, h3, fun i v u p q => ⟨hF.val (h4 i v u p q).1, (h4 i v u p q).2⟩⟩
      | row k fz xs =>
        obtain ⟨a1, a2, a3, a4, a5⟩ := this
        refine ⟨a1, a2, a3, a4, a5.imp (fun h => h) ?_⟩
        rintro ⟨b, us, e, h1, h2, h3, h4, h5⟩
        exact ⟨b, us, e, h1, h2, h3, h4, fun j T u p q => hF.tree (h5 j T u p q)⟩
  · have : ∀ i oi, upd S id (.row k true xs) i = some oi → ∃ oi', S i = some oi' := by
      intro i oi h
      by_cases e : i = id
      · subst e; exact ⟨_, hid⟩
      · rw [upd_ne e] at h; exact ⟨_, h⟩
    obtain ⟨oi', hi'⟩ := this i oi hi
    obtain ⟨oj', hj'⟩ := this j oj hj
    exact hS.inj i j _ _ b hi' hj' h1 h2
  · by_cases e : i = id
    · subst e; exact hS.avoid _ _ b hid hb
    · rw [upd_ne e] at ho; exact hS.avoid _ _ b ho hb
  · exact hS.low b h

/-- All that is not written is as it was: the rest of the objects persist. -/
theorem ORel.persist {F : Nat → Prop} {S S' : Store} {m m' : Place} {w w' : World} (hF : FrameExt F S m w S' m' w') {o : Ob} {L : Option Nat × Nat} (h : ORel S m w (okB F S m w) o L)
    (hb : ∀ b, L.1 = some b → w'.heap[b]? = w.heap[b]?) : ORel S' m' w' (okB F S' m' w') o L := by
  cases o with
  | box cs =>
    obtain ⟨b, us, e, h1, h2, h3, h4⟩ := h
    exact ⟨b, us, e, h1, (hb b h1).trans h2, h3, fun i v u p q => ⟨hF.val (h4 i v u p q).1, (h4 i v u p q).2⟩⟩
  | row k fz xs =>
    obtain ⟨a1, a2, a3, a4, a5⟩ := h
    refine ⟨a1, a2, a3, a4, a5.imp (fun h => h) ?_⟩
    rintro ⟨b, us, e, h1, h2, h3, h4, h5⟩
    exact ⟨b, us, e, h1, (hb b h1).trans h2, h3, h4, fun j T u p q => hF.tree (h5 j T u p q)⟩

/-! ### A new object in a new block -/
def place (m : Place) (id : Nat) (L : Option Nat × Nat) : Place := fun j => bif Nat.beq j id then L else m j
theorem place_same (m : Place) (id : Nat) (L : Option Nat × Nat) : place m id L id = L := by simp [place]
theorem place_ne {m : Place} {id j : Nat} {L : Option Nat × Nat} (h : j ≠ id) : place m id L j = m j := by
  have : Nat.beq j id = false := beq_ne h
  simp [place, this]

/-- A new id whose block (if any) is a new one; the old blocks are as they were. -/
theorem ext_new {F : Nat → Prop} {S : Store} {m : Place} {w w' : World} {id : Nat} {o : Ob} {L : Option Nat × Nat} (hid : S id = none)
    (hos : w'.os = w.os) (htape : w'.tape = w.tape) (hout : w'.output = w.output) (hsz : w.heap.size ≤ w'.heap.size) (hb : ∀ b, b < w.heap.size → w'.heap[b]? = w.heap[b]?)
    (hL : ∀ b, L.1 = some b → w.heap.size ≤ b) : FrameExt F S m w (upd S id o) (place m id L) w' := by
  have hne : ∀ i oi, S i = some oi → i ≠ id := fun i oi h e => by subst e; rw [hid] at h; cases h
  refine ⟨hos, htape, hout, hsz, fun b h _ => hb b h, fun i oi hi => ?_, fun i oi hi hn b hbk => ?_⟩
  · refine ⟨oi, by rw [upd_ne (hne i oi hi)]; exact hi, Nat.le_refl _, fun _ => place_ne (hne i oi hi), fun h => h, .inl (by rw [place_ne (hne i oi hi)]), oi.same_refl⟩
  · by_cases e : i = id
    · subst e; rw [place_same] at hbk; exact hL b hbk
    · rw [upd_ne e] at hi; rw [hi] at hn; cases hn

theorem SRel.new {F : Nat → Prop} {S : Store} {m : Place} {w w' : World} (hS : SRel F S m w) {id : Nat} {o : Ob} {L : Option Nat × Nat} (hid : S id = none)
    (hF : FrameExt F S m w (upd S id o) (place m id L) w') (hb : ∀ b, b < w.heap.size → w'.heap[b]? = w.heap[b]?) (hL : ∀ b, L.1 = some b → w.heap.size ≤ b)
    (ho : ORel (upd S id o) (place m id L) w' (okB F (upd S id o) (place m id L) w') o L) : SRel F (upd S id o) (place m id L) w' := by
  have hlt : ∀ i oi b, S i = some oi → (m i).1 = some b → b < w.heap.size := by
    intro i oi b hi hm
    have := hS.objs i oi hi
    cases oi with
    | box cs =>
      obtain ⟨b', us, e, h1, h2, _⟩ := this
      rw [h1] at hm; cases hm
      exact (Array.getElem?_eq_some_iff.1 h2).1
    | row k fz xs =>
      obtain ⟨_, _, _, _, h5⟩ := this
      rcases h5 with ⟨h1, _⟩ | ⟨b', us, e, h1, h2, _⟩
      · rw [h1] at hm; cases hm
      · rw [h1] at hm; cases hm
        exact (Array.getElem?_eq_some_iff.1 h2).1
  refine ⟨fun i oi hi => ?_, fun i j oi oj b hi hj h1 h2 => ?_, fun i oi b hi hm hFb => ?_, fun b h => Nat.lt_of_lt_of_le (hS.low b h) hF.size⟩
  · by_cases e : i = id
    · subst e
      rw [upd_same] at hi; cases hi
      rw [place_same]; exact ho
    · rw [upd_ne e] at hi
      rw [place_ne e]
      exact (hS.objs i oi hi).persist hF (fun b hm => hb b (hlt i oi b hi hm))
  · by_cases e : i = id
    · by_cases e' : j = id
      · rw [e, e']
      · subst e
        rw [place_same] at h1
        rw [place_ne e'] at h2
        rw [upd_ne e'] at hj
        have := hlt j oj b hj h2
        have := hL b h1
        omega
    · by_cases e' : j = id
      · subst e'
        rw [place_same] at h2
        rw [place_ne e] at h1
        rw [upd_ne e] at hi
        have := hlt i oi b hi h1
        have := hL b h2
        omega
      · rw [place_ne e] at h1
        rw [place_ne e'] at h2
        rw [upd_ne e] at hi
        rw [upd_ne e'] at hj
        exact hS.inj i j oi oj b hi hj h1 h2
  · by_cases e : i = id
    · subst e
      rw [place_same] at hm
      have := hL b hm
      have := hS.low b hFb
      omega
    · rw [upd_ne e] at hi
      rw [place_ne e] at hm
      exact hS.avoid i oi b hi hm hFb

end Go.Ab
