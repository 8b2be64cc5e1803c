/- How a function's text is gone through: rules for its forms, weakening, contracts. -/
import Derived.Test.YtbdbibmbfmlobaaAbDraw
set_option linter.unusedVariables false
namespace Go.Ab
variable {P : Program} {w : World} {F : Nat → Prop} {S st : Store} {m : Place}

/-! ### Renaming objects -/
def lk : List (Nat × Nat) → Nat → Option Nat
  | [], _ => none
  | (i, j) :: l, x => bif Nat.beq i x then some j else lk l x
mutual
def renV (τ : List (Nat × Nat)) : AVal → Option AVal
  | .t T => some (.t T)
  | .row id n => (lk τ id).map (.row · n)
  | .ptr id off => (lk τ id).map (.ptr · off)
  | .eptr id n i sub => (lk τ id).map (.eptr · n i sub)
  | .cptr cs => some (.cptr cs)
  | .agg cs => (renL τ cs).map .agg
  | .fn f cap => (renL τ cap).map (.fn f)
  | .tup vs => (renL τ vs).map .tup
  | .cond c v => (renV τ v).map (.cond c)
  | .junk => some .junk
def renL (τ : List (Nat × Nat)) : List AVal → Option (List AVal)
  | [] => some []
  | v :: l => match renV τ v, renL τ l with
    | some v', some l' => some (v' :: l')
    | _, _ => none
end
def renO (τ : List (Nat × Nat)) : Ob → Option Ob
  | .box cs => (renL τ cs).map .box
  | .row k fz xs => some (.row k fz xs)
def renStore (τ : List (Nat × Nat)) (st : Store) : List (Nat × Nat) → Option (List (Nat × Ob))
  | [] => some []
  | (i, j) :: l => match st i with
    | some o => match renO τ o, renStore τ st l with
      | some o', some r => some ((j, o') :: r)
      | _, _ => none
    | none => none
def renSlots (τ : List (Nat × Nat)) (sl : List (Nat × AVal)) : List Nat → Option (List (Nat × AVal))
  | [] => some []
  | k :: l => match renV τ (get sl k), renSlots τ sl l with
    | some v, some r => some ((k, v) :: r)
    | _, _ => none
def nodupB : List Nat → Bool
  | [] => true
  | i :: l => !(hasId l i) && nodupB l
def renSt (l0 : List (Nat × Ob)) (τ : List (Nat × Nat)) (keys : List Nat) (nx : Nat) (s : St) : Option (List (Nat × AVal) × List (Nat × Ob)) :=
  bif nodupB (τ.map (·.1)) && nodupB (τ.map (·.2)) && τ.all (fun p => Nat.blt p.2 nx) && l0.all (fun x => match lk τ x.1 with | some j => Nat.beq j x.1 | none => false) then
    match renStore τ s.st τ, renSlots τ s.sl keys with
    | some l, some sl => some (sl, l)
    | _, _ => none
  else none

theorem lk_mem : ∀ {τ : List (Nat × Nat)} {i j : Nat}, lk τ i = some j → (i, j) ∈ τ
  | [], i, j, h => by simp [lk] at h
  | (a, b) :: τ, i, j, h => by
    simp only [lk] at h
    by_cases e : a = i
    · subst e; simp at h; subst h; simp
    · rw [beq_ne e] at h
      exact List.mem_cons_of_mem _ (lk_mem h)

/-- 'st'' under 'm'' has what 'st' under 'm' has, by other numbers. -/
def Ren (τ : List (Nat × Nat)) (st st' : Store) (m m' : Place) : Prop := ∀ i j, lk τ i = some j → ∀ o, st i = some o → (∃ o', renO τ o = some o' ∧ st' j = some o') ∧ m' j = m i

theorem renL_some {τ : List (Nat × Nat)} : ∀ {l l' : List AVal}, renL τ l = some l' → l'.length = l.length ∧ ∀ (i : Nat) (v' : AVal), l'[i]? = some v' → ∃ v, l[i]? = some v ∧ renV τ v = some v'
  | [], l', h => by
    simp only [renL, Option.some.injEq] at h
    subst h
    exact ⟨rfl, fun i v' h => by simp at h⟩
  | v :: l, l', h => by
    simp only [renL] at h
    split at h
    rotate_left
    · cases h
    rename_i v1 l1 h1 h2
    simp only [Option.some.injEq] at h
    subst h
    obtain ⟨k1, k2⟩ := renL_some h2
    refine ⟨by simp [k1], fun i v' hv => ?_⟩
    cases i with
    | zero => simp at hv; subst hv; exact ⟨v, rfl, h1⟩
    | succ i => simp at hv; simpa using k2 i v' hv

theorem VRel.ren {τ : List (Nat × Nat)} {st' : Store} {m' : Place} {ok ok' : Nat → Prop} (hR : Ren τ S st' m m') (hok : ∀ b, ok b → ok' b) {v : AVal} {u : Value} (h : VRel S m w ok v u) :
    ∀ {v' : AVal}, renV τ v = some v' → VRel st' m' w ok' v' u := by
  induction h with
  | t T u hT => intro v' h; simp only [renV, Option.some.injEq] at h; subst h; exact .t T u (hT.mono hok (fun _ _ _ _ h => h))
  | row id n k fz xs L h1 h2 h3 =>
    intro v' h
    simp only [renV, Option.map_eq_some_iff] at h
    obtain ⟨j, hj, rfl⟩ := h
    obtain ⟨⟨o', ho', hs⟩, hm⟩ := hR id j hj _ h1
    simp only [renO, Option.some.injEq] at ho'
    subst ho'
    exact .row j n k fz xs L hs h2 (fun e => by rw [hm]; exact h3 e)
  | ptr id off cs b h1 h2 =>
    intro v' h
    simp only [renV, Option.map_eq_some_iff] at h
    obtain ⟨j, hj, rfl⟩ := h
    obtain ⟨⟨o', ho', hs⟩, hm⟩ := hR id j hj _ h1
    simp only [renO, Option.map_eq_some_iff] at ho'
    obtain ⟨cs', _, rfl⟩ := ho'
    exact .ptr j off cs' b hs (by rw [hm]; exact h2)
  | eptr id n i sub k fz xs b h1 h2 h3 =>
    intro v' h
    simp only [renV, Option.map_eq_some_iff] at h
    obtain ⟨j, hj, rfl⟩ := h
    obtain ⟨⟨o', ho', hs⟩, hm⟩ := hR id j hj _ h1
    simp only [renO, Option.some.injEq] at ho'
    subst ho'
    exact .eptr j n i sub k fz xs b hs h2 (fun e => by rw [hm]; exact h3 e)
  | cptr cs b o us h1 h2 h3 h4 h5 =>
    intro v' h
    simp only [renV, Option.some.injEq] at h
    subst h
    exact .cptr cs b o us (hok _ h1) h2 h3 h4 (fun j T u a b => (h5 j T u a b).mono hok (fun _ _ _ _ h => h))
  | agg cs us h1 _ h3 ih =>
    intro v' h
    simp only [renV, Option.map_eq_some_iff] at h
    obtain ⟨l, hl, rfl⟩ := h
    obtain ⟨k1, k2⟩ := renL_some hl
    refine .agg l us (by rw [h1, k1]) (fun i v' u hv hu => ?_) h3
    obtain ⟨v, hv1, hv2⟩ := k2 i v' hv
    exact ih i v u hv1 hu hv2
  | fn f cap us h1 _ ih =>
    intro v' h
    simp only [renV, Option.map_eq_some_iff] at h
    obtain ⟨l, hl, rfl⟩ := h
    obtain ⟨k1, k2⟩ := renL_some hl
    refine .fn f l us (by rw [h1, k1]) (fun i v' u hv hu => ?_)
    obtain ⟨v, hv1, hv2⟩ := k2 i v' hv
    exact ih i v u hv1 hu hv2
  | tup vs us h1 _ ih =>
    intro v' h
    simp only [renV, Option.map_eq_some_iff] at h
    obtain ⟨l, hl, rfl⟩ := h
    obtain ⟨k1, k2⟩ := renL_some hl
    refine .tup l us (by rw [h1, k1]) (fun i v' u hv hu => ?_)
    obtain ⟨v, hv1, hv2⟩ := k2 i v' hv
    exact ih i v u hv1 hu hv2
  | cond c v u _ h0 ih =>
    intro v' h
    simp only [renV, Option.map_eq_some_iff] at h
    obtain ⟨v1, hv1, rfl⟩ := h
    exact .cond c v1 u (fun e => ih e hv1) h0
  | junk u => intro v' h; simp only [renV, Option.some.injEq] at h; subst h; exact .junk u

/-- The inverse of a list of pairs, where the second numbers differ. -/
theorem nodupB_iff {l : List Nat} : nodupB l = true ↔ l.Nodup := by
  induction l with
  | nil => simp [nodupB]
  | cons i l ih =>
    simp only [nodupB, Bool.and_eq_true, Bool.not_eq_true', List.nodup_cons, ih]
    constructor
    · rintro ⟨h1, h2⟩
      exact ⟨fun hm => (by rw [hasId_iff.2 hm] at h1; cases h1), h2⟩
    · rintro ⟨h1, h2⟩
      refine ⟨?_, h2⟩
      cases hh : hasId l i with
      | false => rfl
      | true => exact absurd (hasId_iff.1 hh) h1

def inv (τ : List (Nat × Nat)) : List (Nat × Nat) := τ.map fun p => (p.2, p.1)
theorem lk_of_mem : ∀ {τ : List (Nat × Nat)}, (τ.map (·.1)).Nodup → ∀ {i j : Nat}, (i, j) ∈ τ → lk τ i = some j
  | [], _, i, j, h => by simp at h
  | (a, b) :: τ, hn, i, j, h => by
    simp only [List.map_cons, List.nodup_cons] at hn
    simp only [List.mem_cons, Prod.mk.injEq] at h
    simp only [lk]
    rcases h with ⟨rfl, rfl⟩ | h
    · simp
    · have : a ≠ i := fun e => hn.1 (e ▸ List.mem_map.2 ⟨(i, j), h, rfl⟩)
      rw [beq_ne this]
      exact lk_of_mem hn.2 h
theorem lk_inv {τ : List (Nat × Nat)} (h2 : (τ.map (·.2)).Nodup) {i j : Nat} (h : lk τ i = some j) : lk (inv τ) j = some i := by
  refine lk_of_mem (by simpa [inv, Function.comp_def] using h2) ?_
  exact List.mem_map.2 ⟨(i, j), lk_mem h, rfl⟩
theorem renStore_at {τ : List (Nat × Nat)} : ∀ {l : List (Nat × Nat)} {r : List (Nat × Ob)}, renStore τ S l = some r → r.map (·.1) = l.map (·.2) ∧
    ∀ i j, (i, j) ∈ l → ∃ o o', S i = some o ∧ renO τ o = some o' ∧ (j, o') ∈ r
  | [], r, h => by
    simp only [renStore, Option.some.injEq] at h
    subst h
    exact ⟨rfl, fun i j h => by simp at h⟩
  | (a, b) :: l, r, h => by
    simp only [renStore] at h
    split at h
    rotate_left
    · cases h
    rename_i o ho
    split at h
    rotate_left
    · cases h
    rename_i o' r' h1 h2
    simp only [Option.some.injEq] at h
    subst h
    obtain ⟨k1, k2⟩ := renStore_at h2
    refine ⟨by simp [k1], fun i j hij => ?_⟩
    simp only [List.mem_cons, Prod.mk.injEq] at hij
    rcases hij with ⟨rfl, rfl⟩ | hij
    · exact ⟨o, o', ho, h1, by simp⟩
    · obtain ⟨o1, o2, q1, q2, q3⟩ := k2 i j hij
      exact ⟨o1, o2, q1, q2, by simp [q3]⟩

theorem app_mem {S : Store} : ∀ {l : List (Nat × Ob)}, (l.map (·.1)).Nodup → ∀ {i : Nat} {o : Ob}, (i, o) ∈ l → app S l i = some o
  | [], _, i, o, h => by simp at h
  | (a, b) :: l, hn, i, o, h => by
    simp only [List.map_cons, List.nodup_cons] at hn
    simp only [List.mem_cons, Prod.mk.injEq] at h
    simp only [app]
    rcases h with ⟨rfl, rfl⟩ | h
    · rw [app_not hn.1, upd_same]
    · exact app_mem hn.2 h
theorem app_emp_some {l : List (Nat × Ob)} {i : Nat} {o : Ob} (h : app emp l i = some o) : i ∈ l.map (·.1) := by
  by_cases hm : i ∈ l.map (·.1)
  · exact hm
  · rw [app_not hm] at h; cases h

theorem ORel.ren {τ : List (Nat × Nat)} {st' : Store} {m' : Place} {ok ok' : Nat → Prop} (hR : Ren τ S st' m m') (hok : ∀ b, ok b → ok' b) {o o' : Ob} {L : Option Nat × Nat} (h : ORel S m w ok o L) (ho : renO τ o = some o') : ORel st' m' w ok' o' L := by
  cases o with
  | box cs =>
    simp only [renO, Option.map_eq_some_iff] at ho
    obtain ⟨cs', hcs, rfl⟩ := ho
    obtain ⟨k1, k2⟩ := renL_some hcs
    obtain ⟨b, us, e, h1, h2, h3, h4⟩ := h
    refine ⟨b, us, e, h1, h2, by rw [h3, k1], fun i v' u hv hu => ?_⟩
    obtain ⟨v, hv1, hv2⟩ := k2 i v' hv
    obtain ⟨q1, q2⟩ := h4 i v u hv1 hu
    exact ⟨q1.ren hR hok hv2, q2⟩
  | row k fz xs =>
    simp only [renO, Option.some.injEq] at ho
    subst ho
    obtain ⟨a1, a2, a3, a4, a5⟩ := h
    refine ⟨a1, a2, a3, a4, a5.imp (fun h => h) ?_⟩
    rintro ⟨b, us, e, h1, h2, h3, h4, h5⟩
    exact ⟨b, us, e, h1, h2, h3, h4, fun j T u p q => (h5 j T u p q).mono hok (fun _ _ _ _ h => h)⟩

theorem renO_same {τ : List (Nat × Nat)} {o o' : Ob} (h : renO τ o = some o') : o.len = o'.len ∧ o.live = o'.live ∧ o.same o' := by
  cases o with
  | box cs =>
    simp only [renO, Option.map_eq_some_iff] at h
    obtain ⟨cs', hcs, rfl⟩ := h
    obtain ⟨k1, k2⟩ := renL_some hcs
    exact ⟨k1.symm, rfl, k1.symm⟩
  | row k fz xs =>
    simp only [renO, Option.some.injEq] at h
    subst h
    exact ⟨rfl, rfl, rfl⟩

/-- Where the renamed objects lie. -/
def renPlace (τ : List (Nat × Nat)) (m : Place) : Place := fun j => match lk (inv τ) j with | some i => m i | none => (none, 0)

theorem ren_store {τ : List (Nat × Nat)} {r : List (Nat × Ob)} (h1 : (τ.map (·.1)).Nodup) (h2 : (τ.map (·.2)).Nodup) (hr : renStore τ S τ = some r) :
    Ren τ S (app emp r) m (renPlace τ m) ∧ (∀ j o', app emp r j = some o' → ∃ i o, lk τ i = some j ∧ S i = some o ∧ renO τ o = some o' ∧ renPlace τ m j = m i) := by
  obtain ⟨k1, k2⟩ := renStore_at hr
  have hnd : (r.map (·.1)).Nodup := by rw [k1]; exact h2
  have hpl : ∀ i j, lk τ i = some j → renPlace τ m j = m i := fun i j h => by simp only [renPlace, lk_inv h2 h]
  refine ⟨fun i j hij o ho => ?_, fun j o' ho' => ?_⟩
  · obtain ⟨o1, o2, q1, q2, q3⟩ := k2 i j (lk_mem hij)
    rw [ho] at q1; cases q1
    exact ⟨⟨o2, q2, app_mem hnd q3⟩, hpl i j hij⟩
  · have hm := app_emp_some ho'
    rw [k1] at hm
    obtain ⟨p, hp, rfl⟩ := List.mem_map.1 hm
    have hl := lk_of_mem h1 (i := p.1) (j := p.2) hp
    obtain ⟨o1, o2, q1, q2, q3⟩ := k2 p.1 p.2 hp
    have := app_mem (S := emp) hnd q3
    rw [ho'] at this; cases this
    exact ⟨p.1, o1, hl, q1, q2, hpl _ _ hl⟩

theorem SRel.ren {τ : List (Nat × Nat)} {r : List (Nat × Ob)} (hS : SRel F S m w) (h1 : (τ.map (·.1)).Nodup) (h2 : (τ.map (·.2)).Nodup) (hr : renStore τ S τ = some r) :
    SRel F (app emp r) (renPlace τ m) w ∧ ∀ b, okB F S m w b → okB F (app emp r) (renPlace τ m) w b := by
  obtain ⟨hR, hb⟩ := ren_store (m := m) h1 h2 hr
  have hok : ∀ b, okB F S m w b → okB F (app emp r) (renPlace τ m) w b := by
    rintro b ⟨b1, b2, b3⟩
    refine ⟨b1, b2, fun j o' ho' hl hm => ?_⟩
    obtain ⟨i, o, q1, q2, q3, q4⟩ := hb j o' ho'
    rw [q4] at hm
    exact b3 i o q2 (by rw [(renO_same q3).2.1]; exact hl) hm
  refine ⟨⟨fun j o' ho' => ?_, fun j j' oj oj' b hj hj' hb1 hb2 => ?_, fun j o' b ho' hm hf => ?_, hS.low⟩, hok⟩
  · obtain ⟨i, o, q1, q2, q3, q4⟩ := hb j o' ho'
    rw [q4]
    exact (hS.objs i o q2).ren hR hok q3
  · obtain ⟨i, o, q1, q2, q3, q4⟩ := hb j oj hj
    obtain ⟨i', o', q1', q2', q3', q4'⟩ := hb j' oj' hj'
    rw [q4] at hb1
    rw [q4'] at hb2
    have := hS.inj i i' o o' b q2 q2' hb1 hb2
    subst this
    rw [q1] at q1'; cases q1'; rfl
  · obtain ⟨i, o, q1, q2, q3, q4⟩ := hb j o' ho'
    rw [q4] at hm
    exact hS.avoid i o b q2 hm hf

theorem renSlots_get {τ : List (Nat × Nat)} {sl : List (Nat × AVal)} : ∀ {keys : List Nat} {r : List (Nat × AVal)}, renSlots τ sl keys = some r → ∀ t, get r t = .junk ∨ renV τ (get sl t) = some (get r t)
  | [], r, h, t => by
    simp only [renSlots, Option.some.injEq] at h
    subst h; exact .inl rfl
  | k :: keys, r, h, t => by
    simp only [renSlots] at h
    split at h
    rotate_left
    · cases h
    rename_i v r' h1 h2
    simp only [Option.some.injEq] at h
    subst h
    simp only [get]
    by_cases e : k = t
    · subst e; right; simpa using h1
    · rw [beq_ne e]; exact renSlots_get h2 t

/-! ### Going through the text -/
/-- From state s, the text c comes to an end that Q lets; 'st0': the objects that the function was handed. -/
def Sim (P : Program) (n : Nat) (l0 : List (Nat × Ob)) (c : Code) (s : St) (Q : Exit → St → Prop) : Prop :=
  ∀ (F : Nat → Prop) (m0 : Place) (w0 : World) (m : Place) (a : Act) (w : World), SRel F (app emp l0) m0 w0 → Rel F n s m a w → FrameExt F (app emp l0) m0 w0 s.st m w →
    c.wp P (fun e a' w' => ∃ s' m', Rel F n s' m' a' w' ∧ FrameExt F (app emp l0) m0 w0 s'.st m' w' ∧ Q e s') a w
/-- The same for the body of a loop, from the head of a round on. -/
def LoopSim (P : Program) (n : Nat) (l0 : List (Nat × Ob)) (c : Code) (s : St) (Q : Exit → St → Prop) : Prop :=
  ∀ (F : Nat → Prop) (m0 : Place) (w0 : World) (m : Place) (a : Act) (w : World), SRel F (app emp l0) m0 w0 → Rel F n s m a w → FrameExt F (app emp l0) m0 w0 s.st m w →
    ∀ (b : Frame) (k : List Item) (cs : List Frame), ∃ e a' w', (∃ s' m', Rel F n s' m' a' w' ∧ FrameExt F (app emp l0) m0 w0 s'.st m' w' ∧ Q e s') ∧
      Arrives P (lone (b.at a (.code c :: .inLoop c :: k)) cs w) b k cs e a' w'

variable {n : Nat} {l0 : List (Nat × Ob)} {s : St} {Q : Exit → St → Prop}

def andThen (R : St → Prop) (Q : Exit → St → Prop) : Exit → St → Prop
  | .normal, s => R s
  | e, s => Q e s
def inBlk (id : Nat) (Q : Exit → St → Prop) : Exit → St → Prop
  | .exit i, s => if i = id then Q .normal s else Q (.exit i) s
  | e, s => Q e s

theorem Sim.mono {c : Code} {Q' : Exit → St → Prop} (h : Sim P n l0 c s Q) (hq : ∀ e s, Q e s → Q' e s) : Sim P n l0 c s Q' :=
  fun F m0 w0 m a w h0 h1 h2 => wp_mono (h F m0 w0 m a w h0 h1 h2) (fun e a w ⟨s', m', q1, q2, q3⟩ => ⟨s', m', q1, q2, hq e s' q3⟩)
theorem Sim.seq {x y : Code} (h : Sim P n l0 x s (andThen (fun s' => Sim P n l0 y s' Q) Q)) : Sim P n l0 (.seq x y) s Q := by
  intro F m0 w0 m a w h0 h1 h2
  refine wp_seq (wp_mono (h F m0 w0 m a w h0 h1 h2) ?_)
  rintro e a' w' ⟨s', m', q1, q2, q3⟩
  cases e with
  | normal => exact q3 F m0 w0 m' a' w' h0 q1 q2
  | _ => exact ⟨s', m', q1, q2, q3⟩
theorem Sim.skip (h : Q .normal s) : Sim P n l0 .skip s Q := fun F m0 w0 m a w h0 h1 h2 => wp_skip ⟨s, m, h1, h2, h⟩
theorem Sim.ret (h : Q .ret s) : Sim P n l0 .ret s Q := fun F m0 w0 m a w h0 h1 h2 => wp_ret ⟨s, m, h1, h2, h⟩
theorem Sim.exit {id : Nat} (h : Q (.exit id) s) : Sim P n l0 (.exit id) s Q := fun F m0 w0 m a w h0 h1 h2 => wp_exit ⟨s, m, h1, h2, h⟩
theorem Sim.block {id : Nat} {c : Code} (h : Sim P n l0 c s (inBlk id Q)) : Sim P n l0 (.block id c) s Q := by
  intro F m0 w0 m a w h0 h1 h2
  refine wp_block (wp_mono (h F m0 w0 m a w h0 h1 h2) ?_)
  rintro e a' w' ⟨s', m', q1, q2, q3⟩
  cases e with
  | exit i =>
    simp only [inBlk] at q3
    simp only [Exit.inBlock]
    split
    · rename_i hi; rw [if_pos hi] at q3; exact ⟨s', m', q1, q2, q3⟩
    · rename_i hi; rw [if_neg hi] at q3; exact ⟨s', m', q1, q2, q3⟩
  | _ => exact ⟨s', m', q1, q2, q3⟩
theorem Sim.cond {c : Operand} {x y : Code} {b : Bool} (hb : ev s.sl c = .t (.sc (.bool b))) (ht : b = true → Sim P n l0 x s Q) (hf : b = false → Sim P n l0 y s Q) : Sim P n l0 (.cond c x y) s Q := by
  intro F m0 w0 m a w h0 h1 h2
  have hv : VRel s.st m w (okB F s.st m w) (ev s.sl c) (a.eval c) := ev_rel (fun t _ => h1.slots t)
  rw [hb] at hv
  have := VRel.sc_inv hv
  exact wp_cond_split this (fun e => ht e F m0 w0 m a w h0 h1 h2) (fun e => hf e F m0 w0 m a w h0 h1 h2)
theorem Sim.region {id : Nat} {ops : List Oper} {orcs : List (Nat × Orc)} {keys : List Nat} {s' : St} {C : List Prop} (h : runR P n ops false orcs keys s = some (s', C)) (hC : All C) (hq : Q .normal s') :
    Sim P n l0 (.region id ops.toArray false) s Q := by
  intro F m0 w0 m a w h0 h1 h2
  exact runR_text h hC h1 (fun m' a' w' q1 q2 => ⟨s', m', q1, h2.trans h0 q2, hq⟩) id
theorem Sim.region_draw {id : Nat} {ops : List Oper} {orcs : List (Nat × Orc)} {keys : List Nat} {s' : St} {C : List Prop} (hm : P.follows .mixedOrders = true) (h : runR P n ops true orcs keys s = some (s', C)) (hC : All C) (hq : Q .normal s') :
    Sim P n l0 (.region id ops.toArray true) s Q := by
  intro F m0 w0 m a w h0 h1 h2
  exact runR_draw hm h hC h1 (fun m' a' w' q1 q2 => ⟨s', m', q1, h2.trans h0 q2, hq⟩) id
theorem Sim.loop {c : Code} (h : LoopSim P n l0 c s Q) : Sim P n l0 (.loop c) s Q := by
  intro F m0 w0 m a w h0 h1 h2 b k cs
  obtain ⟨e, a', w', q, arr⟩ := h F m0 w0 m a w h0 h1 h2 b k cs
  exact ⟨e, a', w', q, .of_steps (.one step_loop) arr⟩
theorem LoopSim.step {c : Code} (h : Sim P n l0 c s (andThen (fun s' => LoopSim P n l0 c s' Q) Q)) : LoopSim P n l0 c s Q := by
  intro F m0 w0 m a w h0 h1 h2 b k cs
  obtain ⟨e, a₁, w₁, ⟨s', m', q1, q2, q3⟩, harr⟩ := h F m0 w0 m a w h0 h1 h2 b (.inLoop c :: k) cs
  cases e with
  | normal =>
    obtain ⟨e₂, a₂, w₂, hq₂, harr₂⟩ := q3 F m0 w0 m' a₁ w₁ h0 q1 q2 b k cs
    exact ⟨e₂, a₂, w₂, hq₂, .of_steps (Steps.trans harr (.one step_inLoop)) harr₂⟩
  | exit id => exact ⟨_, a₁, w₁, ⟨s', m', q1, q2, q3⟩, .pass (x := .inLoop c) rfl (fun _ _ => .inl (by simp)) harr⟩
  | goto l => exact ⟨_, a₁, w₁, ⟨s', m', q1, q2, q3⟩, .pass (x := .inLoop c) rfl (fun _ _ => .inl (by simp)) harr⟩
  | ret => exact ⟨_, a₁, w₁, ⟨s', m', q1, q2, q3⟩, .pass (x := .inLoop c) rfl (fun _ _ => .inl (by simp)) harr⟩
  | panic ch => exact ⟨_, a₁, w₁, ⟨s', m', q1, q2, q3⟩, .pass (x := .inLoop c) rfl (fun _ _ => .inl (by simp)) harr⟩
  | outgrown => exact ⟨_, a₁, w₁, ⟨s', m', q1, q2, q3⟩, .pass (x := .inLoop c) rfl (fun _ _ => .inl (by simp)) harr⟩

/-! ### A state seen with less, or by other numbers -/
def Le (n : Nat) (l0 : List (Nat × Ob)) (s s' : St) : Prop := ∀ (F : Nat → Prop) (m0 : Place) (w0 : World) (m : Place) (a : Act) (w : World), SRel F (app emp l0) m0 w0 → Rel F n s m a w → FrameExt F (app emp l0) m0 w0 s.st m w →
  ∃ m', Rel F n s' m' a w ∧ FrameExt F (app emp l0) m0 w0 s'.st m' w
theorem Le.refl (s : St) : Le n l0 s s := fun F m0 w0 m a w _ h1 h2 => ⟨m, h1, h2⟩
theorem Le.trans {s1 s2 s3 : St} (h : Le n l0 s1 s2) (k : Le n l0 s2 s3) : Le n l0 s1 s3 := fun F m0 w0 m a w h0 h1 h2 => by
  obtain ⟨m', q1, q2⟩ := h F m0 w0 m a w h0 h1 h2
  exact k F m0 w0 m' a w h0 q1 q2
theorem Sim.weaken {c : Code} {s' : St} (h : Le n l0 s s') (k : Sim P n l0 c s' Q) : Sim P n l0 c s Q := fun F m0 w0 m a w h0 h1 h2 => by
  obtain ⟨m', q1, q2⟩ := h F m0 w0 m a w h0 h1 h2
  exact k F m0 w0 m' a w h0 q1 q2
theorem LoopSim.weaken {c : Code} {s' : St} (h : Le n l0 s s') (k : LoopSim P n l0 c s' Q) : LoopSim P n l0 c s Q := fun F m0 w0 m a w h0 h1 h2 => by
  obtain ⟨m', q1, q2⟩ := h F m0 w0 m a w h0 h1 h2
  exact k F m0 w0 m' a w h0 q1 q2
theorem Le.ren {τ : List (Nat × Nat)} {keys : List Nat} {nx : Nat} {sl : List (Nat × AVal)} {l : List (Nat × Ob)} (h : renSt l0 τ keys nx s = some (sl, l)) : Le n l0 s ⟨sl, app emp l, nx⟩ := by
  intro F m0 w0 m a w h0 h1 h2
  unfold renSt at h
  obtain ⟨hc, h⟩ := bif_some h
  simp only [Bool.and_eq_true] at hc
  obtain ⟨⟨⟨c1, c2⟩, c3⟩, c4⟩ := hc
  split at h
  rotate_left
  · cases h
  rename_i l' sl' hst hsl
  simp only [Option.some.injEq, Prod.mk.injEq] at h
  obtain ⟨rfl, rfl⟩ := h
  have n1 := nodupB_iff.1 c1
  have n2 := nodupB_iff.1 c2
  obtain ⟨hR, hb⟩ := ren_store (m := m) n1 n2 hst
  obtain ⟨hS, hok⟩ := h1.srel.ren n1 n2 hst
  have hkeep : ∀ id, id ∈ l0.map (·.1) → lk τ id = some id := by
    intro id hid
    obtain ⟨x, hx, rfl⟩ := List.mem_map.1 hid
    have := List.all_eq_true.1 c4 x hx
    split at this
    · rename_i j hj; rw [hj, Nat.eq_of_beq_eq_true this]
    · cases this
  refine ⟨renPlace τ m, ⟨fun t => ?_, h1.size, h1.defers, hS, fun id hid => ?_⟩, ⟨h2.os, h2.tape, h2.output, h2.size, h2.block, fun id o ho => ?_, fun id o' ho' hn b hbk => ?_⟩⟩
  · rcases renSlots_get hsl t with e | e
    · rw [e]; exact .junk _
    · exact (h1.slots t).ren hR hok e
  · show app emp l' id = none
    cases hh : app emp l' id with
    | none => rfl
    | some o =>
      obtain ⟨i, o1, q1, _⟩ := hb id o hh
      have := Nat.lt_of_succ_le (Nat.le_of_ble_eq_true (List.all_eq_true.1 c3 (i, id) (lk_mem q1)))
      simp only at this hid
      omega
  · have hl := hkeep id (app_emp_some ho)
    obtain ⟨o1, k1, k2, k3, k4, k5, k6⟩ := h2.keep id o ho
    obtain ⟨⟨o2, q1, q2⟩, q3⟩ := hR id id hl o1 k1
    obtain ⟨r1, r2, r3⟩ := renO_same q1
    refine ⟨o2, q2, by omega, fun e => by rw [q3]; exact k3 (by omega), fun e => by rw [← r2]; exact k4 e, by rw [q3]; exact k5, ?_⟩
    cases o <;> cases o1 <;> cases o2 <;> simp_all [Ob.same]
  · obtain ⟨i, o, q1, q2, q3, q4⟩ := hb id o' ho'
    rw [q4] at hbk
    cases h3 : app emp l0 i with
    | none => exact h2.new i o q2 h3 b hbk
    | some o0 =>
      have := hkeep i (app_emp_some h3)
      rw [this] at q1; cases q1
      rw [h3] at hn; cases hn

/-! ### The contract of a function -/
def resT : List ResultVar → Option (List Nat)
  | [] => some []
  | .tmp t :: l => (resT l).map (t :: ·)
  | .cell _ _ :: _ => none
def resV (rs : List ResultVar) (sl : List (Nat × AVal)) : Option AVal :=
  match resT rs with
  | some [t] => some (get sl t)
  | some ts => some (.tup (ts.map (get sl)))
  | none => none
/-- What a function's last state must be. -/
def Fin (n : Nat) (l0 : List (Nat × Ob)) (rs : List ResultVar) (res : AVal) (l1 : List (Nat × Ob)) (e : Exit) (s : St) : Prop :=
  (e = .ret ∨ e = .normal) ∧ ∃ s', Le n l0 s s' ∧ s'.st = app emp l1 ∧ resV rs s'.sl = some res

theorem resT_some : ∀ {rs : List ResultVar} {ts : List Nat}, resT rs = some ts → rs = ts.map .tmp
  | [], ts, h => by simp [resT] at h; subst h; rfl
  | .tmp t :: l, ts, h => by
    simp only [resT, Option.map_eq_some_iff] at h
    obtain ⟨r, hr, rfl⟩ := h
    simp [resT_some hr]
  | .cell _ _ :: _, ts, h => by simp [resT] at h

def argSlots : Nat → List AVal → List (Nat × AVal)
  | _, [] => []
  | i, v :: l => (i, v) :: argSlots (i + 1) l
theorem argSlots_get : ∀ (l : List AVal) (i t : Nat), get (argSlots i l) t = if i ≤ t then (l[t - i]?).getD .junk else .junk
  | [], i, t => by simp [argSlots, get]
  | v :: l, i, t => by
    simp only [argSlots, get]
    by_cases e : i = t
    · subst e; simp
    · rw [beq_ne e, cond_false, argSlots_get l (i + 1) t]
      by_cases h : i ≤ t
      · rw [if_pos (by omega), if_pos h, show t - i = (t - (i + 1)) + 1 by omega]
        simp
      · rw [if_neg (by omega), if_neg h]

theorem FC.of_sim {f : FuncId} {fn : Func} {c : Code} {args : List AVal} {res : AVal} {l1 : List (Nat × Ob)} {nx : Nat} (hf : P.funcs[f]? = some fn) (hb : fn.body = some c) (hn : (args.length).ble fn.ntmps = true)
    (hnx : l0.all (fun x => Nat.blt x.1 nx) = true) (h : Sim P fn.ntmps l0 c ⟨argSlots 0 args, app emp l0, nx⟩ (Fin fn.ntmps l0 fn.results.toList res l1)) : FC P f args (app emp l0) res (app emp l1) := by
  intro F m w us hS hl hr
  have hn := Nat.le_of_ble_eq_true hn
  refine calls_of_wp hf hb ?_
  have hrel : Rel F fn.ntmps ⟨argSlots 0 args, app emp l0, nx⟩ m { tmps := us.toArray ++ Array.replicate (fn.ntmps - us.toArray.size) undef, defers := [] } w := by
    refine ⟨fun t => ?_, by simp; omega, rfl, hS, fun id hid => ?_⟩
    · rw [argSlots_get, if_pos (Nat.zero_le _), Nat.sub_zero]
      cases ha : args[t]? with
      | none => exact .junk _
      | some v =>
        have hlt : t < us.length := by rw [hl]; exact (List.getElem?_eq_some_iff.1 ha).1
        have := hr t v us[t] ha (List.getElem?_eq_getElem hlt)
        have e : (us.toArray ++ Array.replicate (fn.ntmps - us.toArray.size) undef).getD t undef = us[t] := by
          have hlt' : t < (us.toArray ++ Array.replicate (fn.ntmps - us.toArray.size) undef).size := by simp; omega
          simp [Array.getElem?_append, hlt]
        rw [e]; exact this
    · show app emp l0 id = none
      cases hh : app emp l0 id with
      | none => rfl
      | some o =>
        obtain ⟨x, hx, rfl⟩ := List.mem_map.1 (app_emp_some hh)
        have := Nat.lt_of_succ_le (Nat.le_of_ble_eq_true (List.all_eq_true.1 hnx x hx))
        simp only at hid
        omega
  refine wp_mono (h F m w m _ w hS hrel (FrameExt.refl F _ m w)) ?_
  rintro e a' w' ⟨s, m1, q1, q2, he, s', hle, hst, hres⟩
  obtain ⟨m2, r1, r2⟩ := hle F m w m1 a' w' hS q1 q2
  have hrun : ∃ v, (results fn a'.tmps).run P w' = .ok v w' ∧ VRel s'.st m2 w' (okB F s'.st m2 w') res v := by
    unfold resV at hres
    have key : ∀ ts, resT fn.results.toList = some ts → (results fn a'.tmps).run P w' = .ok (if h : (ts.map (fun t => a'.tmps.getD t undef)).toArray.size = 1 then (ts.map (fun t => a'.tmps.getD t undef)).toArray[0] else .tuple (ts.map (fun t => a'.tmps.getD t undef)).toArray) w' := by
      intro ts hts
      have e2 : fn.results = (ts.map ResultVar.tmp).toArray := Array.ext' (by simpa using resT_some hts)
      have hm : ∀ (g : ResultVar → Sem Value), (∀ t, g (.tmp t) = pure (a'.tmps.getD t undef)) → ∀ l : List Nat, ((l.map ResultVar.tmp).mapM g).run P w' = .ok (l.map fun t => a'.tmps.getD t undef) w' := by
        intro g hg l
        induction l with
        | nil => simp
        | cons t l ih =>
          simp only [List.map_cons, List.mapM_cons, hg, Sem.run_bind, Sem.run_pure, Result.andThen_ok, ih]
      unfold results
      rw [e2, List.mapM_toArray]
      simp only [Sem.run_bind, Sem.run_map]
      rw [hm _ (fun t => rfl)]
      simp only [Result.andThen_ok, Sem.run_pure]
    split at hres
    · rename_i t ht
      simp only [Option.some.injEq] at hres
      subst hres
      exact ⟨_, by rw [key [t] ht]; rfl, r1.slots t⟩
    · rename_i ts hne hts
      simp only [Option.some.injEq] at hres
      subst hres
      have h1 : (ts.map (fun t => a'.tmps.getD t undef)).toArray.size ≠ 1 := by
        intro e
        simp at e
        match ts, e with
        | [t], _ => exact hne t rfl
      refine ⟨_, by rw [key ts hts, dif_neg h1], .tup _ _ (by simp) (fun i v u hv hu => ?_)⟩
      simp only [List.getElem?_map, Option.map_eq_some_iff] at hv hu
      obtain ⟨t, ht, rfl⟩ := hv
      obtain ⟨t', ht', rfl⟩ := hu
      rw [ht] at ht'; cases ht'
      exact r1.slots t
    · cases hres
  obtain ⟨v, hv1, hv2⟩ := hrun
  rw [hst] at hv2 r2
  have hs1 := r1.srel
  rw [hst] at hs1
  rcases he with rfl | rfl
  · exact ⟨q1.defers, v, hv1, v, m2, rfl, hs1, r2, hv2⟩
  · exact ⟨q1.defers, v, hv1, v, m2, rfl, hs1, r2, hv2⟩

end Go.Ab
