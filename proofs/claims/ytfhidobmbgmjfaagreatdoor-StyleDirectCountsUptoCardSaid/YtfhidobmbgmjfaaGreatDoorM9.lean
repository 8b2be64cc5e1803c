/- A function value is handed in: the objects behind it become one, and come back. -/
import Derived.Test.YtfhidobmbgmjfaaGreatDoorM1
import Derived.Test.YtfhidobmbgmjfaaGreatDoorM2
import Derived.Test.YtfhidobmbgmjfaaGreatDoorM3
import Derived.Test.YtfhidobmbgmjfaaGreatDoorM4
import Derived.Test.YtfhidobmbgmjfaaGreatDoorM5
import Derived.Test.YtfhidobmbgmjfaaGreatDoorM6
import Derived.Test.YtfhidobmbgmjfaaGreatDoorM7
import Derived.Test.YtfhidobmbgmjfaaGreatDoorM8
import Derived.RangeFuncNested
section
set_option linter.unusedVariables false
namespace Go.Ab
variable {P : Program}

/-- The parts of a store: what goes behind the function value ('SR'), and what is handed over as it is ('SC'). -/
structure Parts (F : Fen P) (S SR SC : Store) (m : Place) (wb w0 : World) (g0 gC : List Nat) (X : Nat → Prop) : Prop where
  rel : SRel F S m wb
  r : ∀ id o, SR id = some o → S id = some o
  c : ∀ id o, SC id = some o → S id = some o
  cov : ∀ id o, S id = some o → SR id = some o ∨ SC id = some o
  dis : ∀ id o, SC id = some o → SR id = none
  rc : ∀ id o, SR id = some o → ∀ i ∈ idsO o, SR i = S i
  cc : ∀ id o, SC id = some o → ∀ i ∈ idsO o, SC i = S i
  lr : ∀ id o, SR id = some o → o.live = true
  lc : ∀ id o, SC id = some o → o.live = true
  g0 : ∀ b, b ∈ g0 ↔ (∃ id o, SR id = some o ∧ m.has id b) ∨ X b
  gC : ∀ b, b ∈ gC ↔ ∃ id o, SC id = some o ∧ m.has id b
  xb : ∀ b, X b → wb.heap.size ≤ b ∧ b < w0.heap.size
  sz : wb.heap.size ≤ w0.heap.size
  os : w0.os = wb.os
  tape : w0.tape = wb.tape
  output : w0.output = wb.output
  same : ∀ b, b < wb.heap.size → w0.heap[b]? = wb.heap[b]?
variable {F : Fen P} {S SR SC : Store} {m : Place} {wb w0 : World} {g0 gC : List Nat} {X : Nat → Prop}
theorem Parts.still (h : Parts F S SR SC m wb w0 g0 gC X) : ∀ b, okB F S m wb b → w0.heap[b]? = wb.heap[b]? := fun b hb => h.same b hb.1
theorem Parts.hx (h : Parts F S SR SC m wb w0 g0 gC X) {id : Nat} {Y : YSpec} {p : List (List Tree)} (hi : S id = some (.ext Y p)) (hh : Y.holds p (m.g id) wb) (hD : ∀ b, Y.D b → okB F S m wb b) : Y.holds p (m.g id) w0 :=
  Y.stab _ _ _ _ hh h.sz (fun b hb => h.same b (h.rel.lt id _ b hi (.inr hb))) (fun b hb => h.still b (hD b hb))
/-- A value that names only what is in a part, in the world ahead of the call. -/
theorem Parts.val (h : Parts F S SR SC m wb w0 g0 gC X) {S1 : Store} {m1 : Place} {ok1 : Nat → Prop} (hok : ∀ b, okB F S m wb b → ok1 b) {v : AVal} {u : Value} (hv : VRel S m wb (okB F S m wb) v u)
    (hi : ∀ i ∈ idsV v, S1 i = S i ∧ m1 i = m i) : VRel S1 m1 w0 ok1 v u := by
  have h1 : VRel (fun i => if i ∈ idsV v then S i else none) m wb ok1 v u := hv.restrict hok (fun i hi => if_pos hi)
  have h2 : VRel S1 m1 wb ok1 v u := h1.ext (fun id o ho => by
    by_cases q : id ∈ idsV v
    · rw [if_pos q] at ho; exact ⟨(hi id q).1.trans ho, (hi id q).2⟩
    · rw [if_neg q] at ho; cases ho) (fun _ h => h)
  -- only blocks that may be read are looked at
  have key : ∀ {v : AVal} {u : Value}, VRel S m wb (okB F S m wb) v u → VRel S m w0 (okB F S m wb) v u := fun hv => hv.still (fun _ h => h) (fun b us e z hb _ => h.still b hb)
  have h3 := key hv
  have h4 : VRel (fun i => if i ∈ idsV v then S i else none) m w0 ok1 v u := h3.restrict hok (fun i hi => if_pos hi)
  exact h4.ext (fun id o ho => by
    by_cases q : id ∈ idsV v
    · rw [if_pos q] at ho; exact ⟨(hi id q).1.trans ho, (hi id q).2⟩
    · rw [if_neg q] at ho; cases ho) (fun _ h => h)
theorem Parts.obj (h : Parts F S SR SC m wb w0 g0 gC X) {S1 : Store} {m1 : Place} {ok1 : Nat → Prop} (hok : ∀ b, okB F S m wb b → ok1 b) {id : Nat} {o : Ob} (ho : S id = some o) (hi : ∀ i ∈ idsO o, S1 i = S i ∧ m1 i = m i) :
    ORel S1 m1 w0 ok1 o (m id) (m.g id) := by
  have h1 := h.rel.objs id o ho
  have h2 : ORel S m w0 (okB F S m wb) o (m id) (m.g id) := h1.still (fun _ h => h) (fun b us e z hb _ => h.still b hb) (fun Y p e hh hD => h.hx (e ▸ ho) hh hD) (fun b hb => h.same b (h.rel.lt id o b ho hb))
  refine h2.tq hok (fun v u hids hv => ?_) (fun mid n s e => ?_)
  · have h4 : VRel (fun i => if i ∈ idsV v then S i else none) m w0 ok1 v u := hv.restrict hok (fun i hi => if_pos hi)
    exact h4.ext (fun id o ho => by
      by_cases q : id ∈ idsV v
      · rw [if_pos q] at ho; exact ⟨(hi id (hids id q)).1.trans ho, (hi id (hids id q)).2⟩
      · rw [if_neg q] at ho; cases ho) (fun _ h => h)
  · subst e
    have := hi mid (by simp [idsO])
    exact ⟨this.2, fun es hh q => ⟨es, hh, this.1.trans q⟩⟩
variable {k : Pk P} {pre0 : List (List Tree)}
/-- What is packed, as it stands at first. -/
structure Pk.Of (k : Pk P) (pre0 : List (List Tree)) (F : Fen P) (SR : Store) (m : Place) (w0 : World) (g0 gC : List Nat) (X : Nat → Prop) : Prop where
  F : k.F = F
  w0 : k.w0 = w0
  g0 : k.g0 = g0
  gC : k.gC = gC
  X : k.X = X
  St : k.St pre0 = SR
  S0 : k.S0 = SR
  m0 : k.m0 = m
theorem Parts.start (h : Parts F S SR SC m wb w0 g0 gC X) (hk : k.Of pre0 F SR m w0 g0 gC X) (hv : ∀ t, VRel S m wb (okB F S m wb) (k.va t) (k.vu t)) (hvi : ∀ t, ∀ i ∈ idsV (k.va t), SR i = S i) : k.At pre0 g0 m w0 := by
  obtain ⟨e1, e2, e3, e4, e5, e6, e7, e8⟩ := hk
  have hD : ∀ b, okB F S m wb b → k.may g0 b := fun b hb => by
    refine .inr ⟨by rw [e2]; have := h.sz; have := hb.1; omega, ?_, ?_, by rw [e1]; exact hb.2.1⟩
    · rw [e3, h.g0]
      rintro (⟨id, o, q1, q2⟩ | q)
      · exact hb.2.2 id o (h.r id o q1) (h.lr id o q1) q2
      · have := (h.xb b q).1; have := hb.1; omega
    · rw [e4, h.gC]
      rintro ⟨id, o, q1, q2⟩
      exact hb.2.2 id o (h.c id o q1) (h.lc id o q1) q2
  have hok : ∀ b, okB F S m wb b → okB (k.fy g0 w0.heap.size) SR m w0 b := fun b hb => Pk.ok_mk (by have := hb.1; have := h.sz; omega) (hD b hb) (fun id o q1 q2 q3 => hb.2.2 id o (h.r id o q1) q2 q3)
  have own : ∀ id o b, SR id = some o → m.has id b → b ∈ g0 ∧ ¬ k.X b := fun id o b ho hm => by
    refine ⟨(h.g0 b).2 (.inl ⟨id, o, ho, hm⟩), fun hx => ?_⟩
    rw [e5] at hx
    have := (h.xb b hx).1
    have := h.rel.lt id o b (h.r id o ho) hm
    omega
  have gl : ∀ b ∈ g0, b < w0.heap.size := fun b hb => by
    rcases (h.g0 b).1 hb with ⟨id, o, q1, q2⟩ | q
    · have := h.rel.lt id o b (h.r id o q1) q2; have := h.sz; omega
    · exact (h.xb b q).2
  refine ⟨?_, by rw [e6, e7, e8]; exact KN.refl _ _ _, by rw [e6]; exact own, fun b hb => by rw [e3] at hb; exact hb, fun b hb => .inl (by rw [e3]; exact hb), gl, by rw [e2]; exact Nat.le_refl _, fun t => ?_⟩
  · rw [e6]
    refine ⟨fun id o ho => h.obj hok (h.r id o ho) (fun i hi => ⟨h.rc id o ho i hi, rfl⟩), fun i j oi oj b hi hj => h.rel.inj i j oi oj b (h.r i oi hi) (h.r j oj hj), fun id o b ho hm hf => ?_, fun id o b ho hm => gl b (own id o b ho hm).1, fun b hf => ?_, fun b o hh => ?_⟩
    · rcases hf with hf | hf
      · rw [e1] at hf; exact h.rel.avoid id o b (h.r id o ho) hm hf
      · exact hf.2 (.inl (own id o b ho hm))
    · rcases hf with hf | hf
      · have := k.low b hf; rw [e2] at this; exact this
      · exact hf.1
    · have hh : F.says b o := by rw [← e1]; exact hh
      rw [h.same b (h.rel.low b (F.sub b o hh))]
      exact h.rel.hold b o hh
  · rw [e6]; exact h.val hok (hv t) (fun i hi => ⟨hvi t i hi, rfl⟩)

/-- The place of the objects that are handed over. -/
def yPlace (m : Place) (e : Nat) (g : List Nat) : Place := ⟨fun j => if j = e then (none, 0) else m j, fun j => if j = e then g else m.g j⟩
theorem yPlace_e (m : Place) (e : Nat) (g : List Nat) (b : Nat) : (yPlace m e g).has e b ↔ b ∈ g := by unfold Place.has yPlace; simp
theorem yPlace_ne {m : Place} {e i : Nat} {g : List Nat} (h : i ≠ e) : yPlace m e g i = m i := by unfold yPlace; simp [h]
theorem yPlace_g {m : Place} {e i : Nat} {g : List Nat} (h : i ≠ e) : (yPlace m e g).g i = m.g i := by unfold yPlace; simp [h]
theorem yPlace_has {m : Place} {e i b : Nat} {g : List Nat} (h : i ≠ e) : (yPlace m e g).has i b ↔ m.has i b := by unfold Place.has; rw [yPlace_ne h, yPlace_g h]
theorem Parts.packed (h : Parts F S SR SC m wb w0 g0 gC X) (hk : k.Of pre0 F SR m w0 g0 gC X) (hA : k.At pre0 g0 m w0) (hE : k.E pre0 w0) {e : Nat} (he : SC e = none) (he2 : ∀ id o, SC id = some o → e ∉ idsO o) {fn : Value} {kind : (∃ f cap, fn = .func (.func f) #[] cap) ∨ ∃ l, fn = .func (.yield l) #[] #[]} {goes : List (List Tree) → Bool} {adm : List (List Tree) → List Tree → Prop} :
    SRel F (upd SC e (.ext (k.spec fn kind goes adm) pre0)) (yPlace m e g0) w0 ∧ (∀ b, okB F S m wb b → okB F (upd SC e (.ext (k.spec fn kind goes adm) pre0)) (yPlace m e g0) w0 b) := by
  obtain ⟨e1, e2, e3, e4, e5, e6, e7, e8⟩ := hk
  have ne : ∀ id o, SC id = some o → id ≠ e := fun id o ho q => by subst q; rw [he] at ho; cases ho
  have notg : ∀ b, b ∈ g0 → b < wb.heap.size → ∃ id o, SR id = some o ∧ m.has id b := fun b hb hlt => by
    rcases (h.g0 b).1 hb with q | q
    · exact q
    · have := (h.xb b q).1; omega
  have hok : ∀ b, okB F S m wb b → okB F (upd SC e (.ext (k.spec fn kind goes adm) pre0)) (yPlace m e g0) w0 b := fun b hb => by
    refine ⟨by have := hb.1; have := h.sz; omega, hb.2.1, fun id o ho hl hm => ?_⟩
    by_cases q : id = e
    · subst q
      obtain ⟨id, o, q1, q2⟩ := notg b ((yPlace_e _ _ _ _).1 hm) hb.1
      exact hb.2.2 id o (h.r id o q1) (h.lr id o q1) q2
    · rw [upd_ne q] at ho
      exact hb.2.2 id o (h.c id o ho) hl ((yPlace_has q).1 hm)
  have own : ∀ id o b, upd SC e (.ext (k.spec fn kind goes adm) pre0) id = some o → (yPlace m e g0).has id b → (id = e ∧ b ∈ g0) ∨ (id ≠ e ∧ SC id = some o ∧ m.has id b) := fun id o b ho hm => by
    by_cases q : id = e
    · subst q; exact .inl ⟨rfl, (yPlace_e _ _ _ _).1 hm⟩
    · rw [upd_ne q] at ho; exact .inr ⟨q, ho, (yPlace_has q).1 hm⟩
  refine ⟨⟨fun id o ho => ?_, fun i j oi oj b hi hj h1 h2 => ?_, fun id o b ho hm hf => ?_, fun id o b ho hm => ?_, fun b hf => Nat.lt_of_lt_of_le (h.rel.low b hf) h.sz, fun b o hh => ?_⟩, hok⟩
  · by_cases q : id = e
    · subst q
      rw [upd_same] at ho; cases ho
      refine ⟨by simp [yPlace], ?_, fun b hb => ?_⟩
      · have : (yPlace m id g0).g id = g0 := by simp [yPlace]
        rw [this]; exact ⟨⟨m, hA⟩, hE⟩
      · obtain ⟨q1, q2, q3, q4⟩ := hb
        rw [e2] at q1; rw [e3] at q2; rw [e4] at q3; rw [e1] at q4
        refine ⟨q1, q4, fun i o ho hl hm => ?_⟩
        rcases own i o b ho hm with ⟨-, r⟩ | ⟨-, r1, r2⟩
        · exact q2 r
        · exact q3 ((h.gC b).2 ⟨i, o, r1, r2⟩)
    · rw [upd_ne q] at ho
      rw [yPlace_ne q, yPlace_g q]
      refine h.obj hok (h.c id o ho) (fun i hi => ?_)
      have r : i ≠ e := fun q => he2 id o ho (q ▸ hi)
      exact ⟨by rw [upd_ne r]; exact h.cc id o ho i hi, yPlace_ne r⟩
  · rcases own i oi b hi h1 with ⟨q1, q2⟩ | ⟨q1, q2, q3⟩ <;> rcases own j oj b hj h2 with ⟨r1, r2⟩ | ⟨r1, r2, r3⟩
    · rw [q1, r1]
    · exfalso
      have hlt := h.rel.lt j oj b (h.c j oj r2) r3
      obtain ⟨id, o, s1, s2⟩ := notg b q2 hlt
      have := h.rel.inj id j _ _ b (h.r id o s1) (h.c j oj r2) s2 r3
      subst this
      rw [h.dis id oj r2] at s1; cases s1
    · exfalso
      have hlt := h.rel.lt i oi b (h.c i oi q2) q3
      obtain ⟨id, o, s1, s2⟩ := notg b r2 hlt
      have := h.rel.inj id i _ _ b (h.r id o s1) (h.c i oi q2) s2 q3
      subst this
      rw [h.dis id oi q2] at s1; cases s1
    · exact h.rel.inj i j _ _ b (h.c i oi q2) (h.c j oj r2) q3 r3
  · rcases own id o b ho hm with ⟨q1, q2⟩ | ⟨q1, q2, q3⟩
    · have hlt := h.rel.low b hf
      obtain ⟨id, o, s1, s2⟩ := notg b q2 hlt
      exact h.rel.avoid id o b (h.r id o s1) s2 hf
    · exact h.rel.avoid id o b (h.c id o q2) q3 hf
  · rcases own id o b ho hm with ⟨q1, q2⟩ | ⟨q1, q2, q3⟩
    · exact hA.gl b q2
    · have := h.rel.lt id o b (h.c id o q2) q3; have := h.sz; omega
  · rw [h.same b (h.rel.low b (F.sub b o hh))]; exact h.rel.hold b o hh
/-- The store behind the call. -/
def bothS (SC R : Store) : Store := fun id => match SC id with | some o => some o | none => R id
theorem bothS_c {SC R : Store} {id : Nat} {o : Ob} (h : SC id = some o) : bothS SC R id = some o := by unfold bothS; rw [h]
theorem bothS_r {SC R : Store} {id : Nat} (h : SC id = none) : bothS SC R id = R id := by unfold bothS; rw [h]
open Classical in
noncomputable def bothP (SC : Store) (m1 mR : Place) : Place := ⟨fun j => if (SC j).isSome then m1 j else mR j, fun j => if (SC j).isSome then m1.g j else mR.g j⟩
theorem Parts.unpack (h : Parts F S SR SC m wb w0 g0 gC X) (hk : k.Of pre0 F SR m w0 g0 gC X) {e : Nat} (he : SC e = none) (he2 : ∀ id o, SC id = some o → e ∉ idsO o) {Y : YSpec} {pre' : List (List Tree)} {m1 : Place} {w1 : World} (h1 : SRel F (upd SC e (.ext Y pre')) m1 w1)
    (h2 : FrameExt F (upd SC e (.ext Y pre0)) (yPlace m e g0) w0 (upd SC e (.ext Y pre')) m1 w1) {mR : Place} (hA : k.At pre' (m1.g e) mR w1) (hdis : ∀ id o, SC id = some o → k.St pre' id = none) :
    ∃ mf, SRel F (bothS SC (k.St pre')) mf w1 ∧ FrameExt F S m wb (bothS SC (k.St pre')) mf w1 ∧ (∀ t, VRel (bothS SC (k.St pre')) mf w1 (okB F (bothS SC (k.St pre')) mf w1) (k.va t) (k.vu t)) ∧
      (∀ id o b, bothS SC (k.St pre') id = some o → mf.has id b → b < w0.heap.size → ∃ i oi, S i = some oi ∧ m.has i b) := by
  obtain ⟨e1, e2, e3, e4, e5, e6, e7, e8⟩ := hk
  have ne : ∀ id o, SC id = some o → id ≠ e := fun id o ho q => by subst q; rw [he] at ho; cases ho
  have ce : ∀ (p : List (List Tree)) id o, SC id = some o → upd SC e (.ext Y p) id = some o := fun p id o ho => by rw [upd_ne (ne id o ho)]; exact ho
  let mf : Place := ⟨fun j => if (SC j).isSome then m1 j else mR j, fun j => if (SC j).isSome then m1.g j else mR.g j⟩
  have fc : ∀ id o, SC id = some o → mf id = m1 id := fun id o ho => by simp [mf, ho]
  have fr : ∀ id, SC id = none → mf id = mR id := fun id ho => by simp [mf, ho]
  have gc : ∀ id o, SC id = some o → mf.g id = m1.g id := fun id o ho => by simp [mf, ho]
  have gr : ∀ id, SC id = none → mf.g id = mR.g id := fun id ho => by simp [mf, ho]
  have hc : ∀ id o b, SC id = some o → (mf.has id b ↔ m1.has id b) := fun id o b ho => by unfold Place.has; rw [fc id o ho, gc id o ho]
  have hr : ∀ id b, SC id = none → (mf.has id b ↔ mR.has id b) := fun id b ho => by unfold Place.has; rw [fr id ho, gr id ho]
  have rn : ∀ id o, k.St pre' id = some o → SC id = none := fun id o ho => by
    cases hs : SC id with
    | none => rfl
    | some o' => have := hdis id o' hs; rw [this] at ho; cases ho
  have eg : ∀ b, b ∈ m1.g e → m1.has e b := fun b hb => .inr hb
  have se : upd SC e (.ext Y pre') e = some (.ext Y pre') := upd_same _ _ _
  -- a block that is read behind the function value
  have okR : ∀ b, okB (k.fy (m1.g e) w1.heap.size) (k.St pre') mR w1 b → okB F (bothS SC (k.St pre')) mf w1 b := fun b hb => by
    have hm := Pk.ok_may hb hb.1
    refine ⟨hb.1, fun hf => ?_, fun id o ho hl hmh => ?_⟩
    · rcases hm with q | q
      · exact h1.avoid e _ b se (eg b q.1) (F.sup b hf)
      · exact q.2.2.2 (by rw [e1]; exact hf)
    · cases hs : SC id with
      | none =>
        rw [bothS_r hs] at ho
        exact hb.2.2 id o ho hl ((hr id b hs).1 hmh)
      | some o' =>
        have hmh := (hc id o' b hs).1 hmh
        rcases hm with q | q
        · exact ne id o' hs (h1.inj id e _ _ b (ce pre' id o' hs) se hmh (eg b q.1))
        · obtain ⟨q1, q2, q3, q4⟩ := q
          rw [e2] at q1; rw [e3] at q2; rw [e4] at q3
          rcases h2.back (ce pre' id o' hs) (h.lc id o' hs) hmh with r | ⟨i, oi, r1, r2, r3⟩
          · omega
          · by_cases s : i = e
            · subst s; exact q2 ((yPlace_e _ _ _ _).1 r3)
            · rw [upd_ne s] at r1
              exact q3 ((h.gC b).2 ⟨i, oi, r1, (yPlace_has s).1 r3⟩)
  have okC : ∀ b, okB F (upd SC e (.ext Y pre')) m1 w1 b → okB F (bothS SC (k.St pre')) mf w1 b := fun b hb => by
    refine ⟨hb.1, hb.2.1, fun id o ho hl hmh => ?_⟩
    cases hs : SC id with
    | none =>
      rw [bothS_r hs] at ho
      exact hb.2.2 e _ se rfl (eg b (hA.own id o b ho ((hr id b hs).1 hmh)).1)
    | some o' =>
      rw [bothS_c hs] at ho; cases ho
      exact hb.2.2 id o (ce pre' id o hs) hl ((hc id o b hs).1 hmh)
  have hF : FrameExt F S m wb (bothS SC (k.St pre')) mf w1 := by
    refine ⟨h2.os.trans h.os, h2.tape.trans h.tape, h2.output.trans h.output, Nat.le_trans h.sz h2.size, fun b hb hf => ?_, fun id o ho => ?_, fun id o ho hn b hb => ?_⟩
    · rw [← h.same b hb]
      refine h2.block b (Nat.lt_of_lt_of_le hb h.sz) (hf.imp (fun q => q) (fun hf id o ho hl hm => ?_))
      by_cases s : id = e
      · subst s
        rcases (h.g0 b).1 ((yPlace_e _ _ _ _).1 hm) with ⟨i, oi, q1, q2⟩ | q
        · exact hf i oi (h.r i oi q1) (h.lr i oi q1) q2
        · have := (h.xb b q).1; omega
      · rw [upd_ne s] at ho
        exact hf id o (h.c id o ho) hl ((yPlace_has s).1 hm)
    · rcases h.cov id o ho with q | q
      · have hs : SC id = none := by
          cases hs : SC id with
          | none => rfl
          | some o' => rw [h.dis id o' hs] at q; cases q
        obtain ⟨o', k1, k2, k3, k4, k5, k6⟩ := hA.kn.keep id o (by rw [e7]; exact q)
        refine ⟨o', by rw [bothS_r hs]; exact k1, k2, fun z => by rw [fr id hs, k3 z, e8], k4, fun b hb => ?_, k6⟩
        rcases k5 b ((hr id b hs).1 hb) with z | z | ⟨i, oi, z1, z2, z3⟩
        · rw [e8] at z; exact .inl z
        · rw [e2] at z; have := h.sz; exact .inr (.inl (by omega))
        · rw [e7] at z1; rw [e8] at z3; exact .inr (.inr ⟨i, oi, h.r i oi z1, z2, z3⟩)
      · have hne := ne id o q
        obtain ⟨o', k1, k2, k3, k4, k5, k6⟩ := h2.keep id o (ce pre0 id o q)
        rw [upd_ne hne] at k1
        rw [q] at k1; cases k1
        refine ⟨o, bothS_c q, Nat.le_refl _, fun z => by rw [fc id o q, k3 z, yPlace_ne hne], fun z => z, fun b hb => ?_, o.same_refl⟩
        rcases k5 b ((hc id o b q).1 hb) with z | z | ⟨i, oi, z1, z2, z3⟩
        · exact .inl ((yPlace_has hne).1 z)
        · have := h.sz; exact .inr (.inl (by omega))
        · by_cases s : i = e
          · subst s
            rcases (h.g0 b).1 ((yPlace_e _ _ _ _).1 z3) with ⟨j, oj, q1, q2⟩ | q
            · exact .inr (.inr ⟨j, oj, h.r j oj q1, h.lr j oj q1, q2⟩)
            · exact .inr (.inl (h.xb b q).1)
          · rw [upd_ne s] at z1
            exact .inr (.inr ⟨i, oi, h.c i oi z1, z2, (yPlace_has s).1 z3⟩)
    · have hs : SC id = none := by
        cases hs : SC id with
        | none => rfl
        | some o' => have := h.c id o' hs; rw [hn] at this; cases this
      rw [bothS_r hs] at ho
      have hR : SR id = none := by
        cases hq : SR id with
        | none => rfl
        | some o' => have := h.r id o' hq; rw [hn] at this; cases this
      rcases hA.kn.new id o ho (by rw [e7]; exact hR) b ((hr id b hs).1 hb) with z | ⟨i, oi, z1, z2, z3⟩
      · rw [e2] at z; have := h.sz; exact .inl (by omega)
      · rw [e7] at z1; rw [e8] at z3; exact .inr ⟨i, oi, h.r i oi z1, z2, z3⟩
  have extR : ∀ id o, k.St pre' id = some o → bothS SC (k.St pre') id = some o ∧ mf id = mR id := fun id o ho => ⟨by rw [bothS_r (rn id o ho)]; exact ho, fr id (rn id o ho)⟩
  refine ⟨mf, ⟨fun id o ho => ?_, fun i j oi oj b hi hj hb1 hb2 => ?_, fun id o b ho hm hf => ?_, fun id o b ho hm => ?_, h1.low, h1.hold⟩, hF, fun t => (hA.val t).ext extR okR, fun id o b ho hm hb => ?_⟩
  · cases hs : SC id with
    | none =>
      rw [bothS_r hs] at ho
      rw [fr id hs, gr id hs]
      exact (hA.rel.objs id o ho).ext extR okR
    | some o' =>
      rw [bothS_c hs] at ho; cases ho
      rw [fc id o hs, gc id o hs]
      have hO := h1.objs id o (ce pre' id o hs)
      have hin : ∀ i ∈ idsO o, i ≠ e := fun i hi q => he2 id o hs (q ▸ hi)
      refine hO.tq okC (fun v u hids hv => ?_) (fun mid n s q => ?_)
      · have h5 : VRel SC m1 w1 (okB F (bothS SC (k.St pre')) mf w1) v u := hv.restrict okC (fun i hi => (upd_ne (hin i (hids i hi))).symm)
        exact h5.ext (fun id o ho => ⟨bothS_c ho, fc id o ho⟩) (fun _ h => h)
      · subst q
        have hme := hin mid (by simp [idsO])
        obtain ⟨b, bm, _, _, ⟨es, hh, q3⟩, _⟩ := hO
        rw [upd_ne hme] at q3
        refine ⟨fc mid _ q3, fun es' hh' q => ?_⟩
        rw [upd_ne hme] at q
        exact ⟨es', hh', bothS_c q⟩
  · cases hs : SC i with
    | none =>
      rw [bothS_r hs] at hi
      have q1 := hA.own i oi b hi ((hr i b hs).1 hb1)
      cases ht : SC j with
      | none =>
        rw [bothS_r ht] at hj
        exact hA.rel.inj i j oi oj b hi hj ((hr i b hs).1 hb1) ((hr j b ht).1 hb2)
      | some o' => exact absurd (h1.inj j e _ _ b (ce pre' j o' ht) se ((hc j o' b ht).1 hb2) (eg b q1.1)) (ne j o' ht)
    | some o' =>
      cases ht : SC j with
      | none =>
        rw [bothS_r ht] at hj
        have q1 := hA.own j oj b hj ((hr j b ht).1 hb2)
        exact absurd (h1.inj i e _ _ b (ce pre' i o' hs) se ((hc i o' b hs).1 hb1) (eg b q1.1)) (ne i o' hs)
      | some o'' => exact h1.inj i j _ _ b (ce pre' i o' hs) (ce pre' j o'' ht) ((hc i o' b hs).1 hb1) ((hc j o'' b ht).1 hb2)
  · cases hs : SC id with
    | none =>
      rw [bothS_r hs] at ho
      exact h1.avoid e _ b se (eg b (hA.own id o b ho ((hr id b hs).1 hm)).1) hf
    | some o' => exact h1.avoid id o' b (ce pre' id o' hs) ((hc id o' b hs).1 hm) hf
  · cases hs : SC id with
    | none =>
      rw [bothS_r hs] at ho
      exact hA.rel.lt id o b ho ((hr id b hs).1 hm)
    | some o' => exact h1.lt id o' b (ce pre' id o' hs) ((hc id o' b hs).1 hm)
  · cases hs : SC id with
    | none =>
      rw [bothS_r hs] at ho
      obtain ⟨q1, q2⟩ := hA.own id o b ho ((hr id b hs).1 hm)
      rcases hA.gn b q1 with q | q
      · rw [e3] at q
        rcases (h.g0 b).1 q with ⟨i, oi, z1, z2⟩ | z
        · exact ⟨i, oi, h.r i oi z1, z2⟩
        · rw [e5] at q2; exact absurd z q2
      · rw [e2] at q; omega
    | some o' =>
      have hne := ne id o' hs
      obtain ⟨o2, _, _, _, _, k5, _⟩ := h2.keep id o' (ce pre0 id o' hs)
      rcases k5 b ((hc id o' b hs).1 hm) with z | z | ⟨i, oi, z1, z2, z3⟩
      · exact ⟨id, o', h.c id o' hs, (yPlace_has hne).1 z⟩
      · omega
      · by_cases s : i = e
        · subst s
          have hb1 : b ∈ g0 := (yPlace_e _ _ _ _).1 z3
          rcases (h.g0 b).1 hb1 with ⟨j, oj, q1, q2⟩ | q
          · exact ⟨j, oj, h.r j oj q1, q2⟩
          · -- a block that no object has
            exact absurd (h1.inj id i _ _ b (ce pre' id o' hs) se ((hc id o' b hs).1 hm) (eg b (hA.g0 b (by rw [e3]; exact hb1)))) hne
        · rw [upd_ne s] at z1
          exact ⟨i, oi, h.c i oi z1, (yPlace_has s).1 z3⟩

end Go.Ab
end
section
set_option linter.unusedVariables false
namespace Go.Ab
variable {P : Program}

theorem app_emp_mem : ∀ {l : List (Nat × Ob)} {S : Store} {id : Nat} {o : Ob}, app S l id = some o → (id, o) ∈ l ∨ (id ∉ l.map (·.1) ∧ S id = some o)
  | [], S, id, o, h => .inr ⟨by simp, h⟩
  | (i, x) :: l, S, id, o, h => by
    rcases app_emp_mem (l := l) (S := upd S i x) h with q | ⟨q1, q2⟩
    · exact .inl (List.mem_cons_of_mem _ q)
    · by_cases e : id = i
      · subst e; rw [upd_same] at q2; cases q2; exact .inl List.mem_cons_self
      · rw [upd_ne e] at q2
        exact .inr ⟨by simp only [List.map_cons, List.mem_cons, not_or]; exact ⟨e, q1⟩, q2⟩
theorem app_mem0 {l : List (Nat × Ob)} {id : Nat} {o : Ob} (h : app emp l id = some o) : (id, o) ∈ l := (app_emp_mem h).resolve_right (fun q => by cases q.2)
theorem app_emp_none {l : List (Nat × Ob)} {id : Nat} (h : id ∉ l.map (·.1)) : app emp l id = none := app_not h
theorem app_emp_isSome {l : List (Nat × Ob)} {id : Nat} (h : id ∈ l.map (·.1)) : ∃ o, app emp l id = some o := app_some h
/-- The blocks of some objects. -/
def blks (m : Place) (ids : List Nat) : List Nat := ids.flatMap fun i => (m i).1.toList ++ m.g i
theorem mem_blks {m : Place} {ids : List Nat} {b : Nat} : b ∈ blks m ids ↔ ∃ i ∈ ids, m.has i b := by
  unfold blks Place.has
  rw [List.mem_flatMap]
  constructor
  · rintro ⟨i, h1, h2⟩
    refine ⟨i, h1, ?_⟩
    rcases List.mem_append.1 h2 with h | h
    · left; cases hm : (m i).1 with
      | none => rw [hm] at h; cases h
      | some c => rw [hm] at h; simp at h; rw [h]
    · exact .inr h
  · rintro ⟨i, h1, h2⟩
    refine ⟨i, h1, List.mem_append.2 ?_⟩
    rcases h2 with h | h
    · left; rw [h]; simp
    · exact .inr h
def subIds (l : List Nat) (r : List (Nat × Ob)) : Bool := l.all (hasId (r.map (·.1)))
def sideB (r c : List (Nat × Ob)) (e : Nat) : Bool :=
  r.all (fun x => x.2.live) && c.all (fun x => x.2.live) && r.all (fun x => !hasId (c.map (·.1)) x.1) && !hasId (c.map (·.1)) e && r.all (fun x => subIds (idsO x.2) r) && c.all (fun x => subIds (idsO x.2) c)
structure Side (r c : List (Nat × Ob)) (e : Nat) : Prop where
  lr : ∀ x ∈ r, x.2.live = true
  lc : ∀ x ∈ c, x.2.live = true
  dis : ∀ x ∈ r, x.1 ∉ c.map (·.1)
  e : e ∉ c.map (·.1)
  rc : ∀ x ∈ r, ∀ i ∈ idsO x.2, i ∈ r.map (·.1)
  cc : ∀ x ∈ c, ∀ i ∈ idsO x.2, i ∈ c.map (·.1)
theorem subIds_iff {l : List Nat} {r : List (Nat × Ob)} : subIds l r = true ↔ ∀ i ∈ l, i ∈ r.map (·.1) := by
  unfold subIds
  rw [List.all_eq_true]
  exact ⟨fun h i hi => hasId_iff.1 (h i hi), fun h i hi => hasId_iff.2 (h i hi)⟩
theorem side_of {r c : List (Nat × Ob)} {e : Nat} (h : sideB r c e = true) : Side r c e := by
  unfold sideB at h
  simp only [Bool.and_eq_true, List.all_eq_true, Bool.not_eq_true'] at h
  obtain ⟨⟨⟨⟨⟨h1, h2⟩, h3⟩, h4⟩, h5⟩, h6⟩ := h
  have hn : ∀ i, hasId (c.map (·.1)) i = false → i ∉ c.map (·.1) := fun i q hm => by rw [hasId_iff.2 hm] at q; cases q
  exact ⟨fun x hx => h1 x hx, fun x hx => h2 x hx, fun x hx => hn _ (h3 x hx), hn _ h4, fun x hx => subIds_iff.1 (h5 x hx), fun x hx => subIds_iff.1 (h6 x hx)⟩
theorem app_both {r c : List (Nat × Ob)} {id : Nat} : app emp (r ++ c) id = match app emp c id with | some o => some o | none => app emp r id := by
  rw [app_append]
  by_cases h : id ∈ c.map (·.1)
  · obtain ⟨o, ho⟩ := app_emp_isSome h
    rw [ho]
    have : app (app emp r) c id = app emp c id := app_at (.inl h)
    rw [this, ho]
  · rw [app_not h, app_emp_none h]
theorem parts_of {F : Fen P} {r c : List (Nat × Ob)} {e : Nat} {m : Place} {wb w0 : World} (hs : Side r c e) (hS : SRel F (app emp (r ++ c)) m wb) {X : Nat → Prop} {g0 : List Nat} (hg : ∀ b, b ∈ g0 ↔ (∃ i ∈ r.map (·.1), m.has i b) ∨ X b)
    (xb : ∀ b, X b → wb.heap.size ≤ b ∧ b < w0.heap.size) (sz : wb.heap.size ≤ w0.heap.size) (os : w0.os = wb.os) (tape : w0.tape = wb.tape) (output : w0.output = wb.output) (same : ∀ b, b < wb.heap.size → w0.heap[b]? = wb.heap[b]?) :
    Parts F (app emp (r ++ c)) (app emp r) (app emp c) m wb w0 g0 (blks m (c.map (·.1))) X := by
  have dis : ∀ id o, app emp c id = some o → app emp r id = none := fun id o ho => by
    cases hr : app emp r id with
    | none => rfl
    | some o' => exact absurd (app_emp_some ho) (hs.dis (id, o') (app_mem0 hr))
  have r' : ∀ id o, app emp r id = some o → app emp (r ++ c) id = some o := fun id o ho => by
    rw [app_both]
    cases hc : app emp c id with
    | none => exact ho
    | some o' => rw [dis id o' hc] at ho; cases ho
  have c' : ∀ id o, app emp c id = some o → app emp (r ++ c) id = some o := fun id o ho => by rw [app_both, ho]
  refine ⟨hS, r', c', fun id o ho => ?_, dis, fun id o ho i hi => ?_, fun id o ho i hi => ?_, fun id o ho => hs.lr _ (app_mem0 ho), fun id o ho => hs.lc _ (app_mem0 ho), fun b => ?_, fun b => ?_, xb, sz, os, tape, output, same⟩
  · rw [app_both] at ho
    cases hc : app emp c id with
    | none => rw [hc] at ho; exact .inl ho
    | some o' => rw [hc] at ho; exact .inr ho
  · obtain ⟨o', ho'⟩ := app_emp_isSome (hs.rc _ (app_mem0 ho) i hi)
    rw [ho', r' i o' ho']
  · obtain ⟨o', ho'⟩ := app_emp_isSome (hs.cc _ (app_mem0 ho) i hi)
    rw [ho', c' i o' ho']
  · rw [hg]
    refine or_congr ⟨?_, ?_⟩ Iff.rfl
    · rintro ⟨i, h1, h2⟩
      obtain ⟨o, ho⟩ := app_emp_isSome h1
      exact ⟨i, o, ho, h2⟩
    · rintro ⟨i, o, h1, h2⟩
      exact ⟨i, app_emp_some h1, h2⟩
  · rw [mem_blks]
    constructor
    · rintro ⟨i, h1, h2⟩
      obtain ⟨o, ho⟩ := app_emp_isSome h1
      exact ⟨i, o, ho, h2⟩
    · rintro ⟨i, o, h1, h2⟩
      exact ⟨i, app_emp_some h1, h2⟩
/-- A closure, call by call, as a function value that is handed in. -/
theorem Pk.calls {k : Pk P} {fid : FuncId} {caps : List AVal} {R : List (List Tree) → List (Nat × Ob)} {cs : List Value} {G : List (List Tree) → Bool} {A : List (List Tree) → List Tree → Prop} (hcl : callable P fid = true)
    (hC : ∀ pre xs, A pre xs → FC P fid (xs.map .t ++ caps) (app emp (R pre)) (.t (.sc (.bool (G (pre ++ [xs]))))) (app emp (R (pre ++ [xs])))) (hR : k.St = fun pre => app emp (R pre)) (hE : k.E = fun _ _ => True)
    (hva : ∀ i v u, caps[i]? = some v → cs[i]? = some u → k.va i = v ∧ k.vu i = u) (hl : cs.length = caps.length) {kind} : YCalls P (k.spec (.func (.func fid) #[] cs.toArray) kind G A) := by
  intro pre xs us g w hA hh hgl hul hx
  obtain ⟨⟨m, hAt⟩, -⟩ := hh
  have hAt := hAt
  have hFC := hC pre xs hA
  have hSt : ∀ p, k.St p = app emp (R p) := fun p => by rw [hR]
  have hcall := hFC (k.fy g w.heap.size) m w (us ++ cs) (by rw [← hSt]; exact hAt.rel) (by simp [hul, hl]) (fun i v u hv hu => by
    by_cases hi : i < xs.length
    · rw [List.getElem?_append_left (by simpa using hi), List.getElem?_map, Option.map_eq_some_iff] at hv
      obtain ⟨x, hx1, rfl⟩ := hv
      rw [List.getElem?_append_left (by omega)] at hu
      exact .t _ _ ((hx i x u hx1 hu).mono (fun _ h => h.elim) (fun _ _ _ h => h.elim))
    · rw [List.getElem?_append_right (by simpa using hi)] at hv
      rw [List.getElem?_append_right (by omega)] at hu
      simp only [List.length_map] at hv
      rw [hul] at hu
      obtain ⟨q1, q2⟩ := hva _ v u hv hu
      have := hAt.val (i - xs.length)
      rw [q1, q2] at this
      rw [← hSt]; exact this)
  unfold callable at hcl
  split at hcl
  rotate_left
  · cases hcl
  rename_i fn hfn
  simp only [Bool.and_eq_true, Bool.not_eq_true'] at hcl
  obtain ⟨code, hcode⟩ := Option.isSome_iff_exists.1 hcl.1
  refine ⟨.func fid, cs.toArray, .enter fid (us ++ cs).toArray, rfl, ?_, callsIn_wide.2 (hcall.mono ?_)⟩
  · have e : us.toArray ++ cs.toArray = (us ++ cs).toArray := by simp
    simp only [invoke, e]
    exact run_enter hfn hcl.2 hcode _ w
  · rintro e w' ⟨v, m', rfl, k1, k2, k3⟩
    have := VRel.sc_inv k3
    subst this
    rw [← hSt] at k1 k2
    rw [← hSt] at k2
    have hn := hAt.next k1 k2.kn k2.size (fun t => k2.val (hAt.val t))
    exact ⟨rfl, k2.os, k2.tape, k2.output, k2.size, fun b hb hg => k2.block b hb (.inr fun id o ho _ hm => hg (hAt.own id o b ho hm).1), grow g w.heap.size w'.heap.size, fun b hb => mem_grow.2 (.inl hb), fun b hb => mem_grow.1 hb, ⟨m', hn⟩, by show k.E _ _; rw [hE]; trivial⟩
/-- A contract over a function value that is handed in, at a closure. -/
theorem FC.pack {W fid : FuncId} {a1 a2 caps : List AVal} {R : List (List Tree) → List (Nat × Ob)} {C : List (Nat × Ob)} {pre0 pre' : List (List Tree)} {res : AVal} {e : Nat} {G : List (List Tree) → Bool} {A : List (List Tree) → List Tree → Prop}
    (hC : ∀ pre xs, A pre xs → FC P fid (xs.map .t ++ caps) (app emp (R pre)) (.t (.sc (.bool (G (pre ++ [xs]))))) (app emp (R (pre ++ [xs]))))
    (hW : ∀ Y : YSpec, Y.goes = G → Y.adm = A → YCalls P Y → FC P W (a1 ++ .yl e :: a2) (app emp ((e, .ext Y pre0) :: C)) res (app emp ((e, .ext Y pre') :: C)))
    (hcl : callable P fid = true) (hside : sideB (R pre0) C e = true) (hids : (R pre').map (·.1) = (R pre0).map (·.1)) (ha : subIds (idsL (a1 ++ a2)) C = true) (hcaps : subIds (idsL caps) (R pre0) = true) (hres : memfree res = true) :
    FC P W (a1 ++ .fn fid caps :: a2) (app emp (R pre0 ++ C)) res (app emp (R pre' ++ C)) := by
  intro F m w us hS hl hr
  have hs := side_of hside
  -- the closure among the arguments
  have hlen : a1.length < us.length := by rw [hl]; simp
  have hf := hr a1.length (.fn fid caps) us[a1.length] (by simp) (List.getElem?_eq_getElem hlen)
  generalize huf : us[a1.length] = uf at hf
  cases hf with
  | fn _ _ cs hcl2 hcr =>
  have hp := parts_of (X := fun _ => False) (g0 := blks m ((R pre0).map (·.1))) (w0 := w) hs hS (fun b => by rw [mem_blks]; simp) (fun b h => h.elim) (Nat.le_refl _) rfl rfl rfl (fun _ _ => rfl)
  have hSR : ∀ i, i ∈ (R pre0).map (·.1) → app emp (R pre0) i = app emp (R pre0 ++ C) i := fun i hi => by
    obtain ⟨o, ho⟩ := app_emp_isSome hi
    rw [ho, hp.r i o ho]
  have hsD : ∀ b o, F.says b o → b < w.heap.size ∧ b ∉ blks m ((R pre0).map (·.1)) ∧ b ∉ blks m (C.map (·.1)) := fun b o h => by
    refine ⟨hS.low b (F.sub b o h), fun hb => ?_, fun hb => ?_⟩
    · obtain ⟨i, h1, h2⟩ := mem_blks.1 hb
      obtain ⟨o', ho'⟩ := app_emp_isSome h1
      exact hS.avoid i o' b (hp.r i o' ho') h2 (F.sub b o h)
    · obtain ⟨i, h1, h2⟩ := mem_blks.1 hb
      obtain ⟨o', ho'⟩ := app_emp_isSome h1
      exact hS.avoid i o' b (hp.c i o' ho') h2 (F.sub b o h)
  let k : Pk P := ⟨F, w, blks m ((R pre0).map (·.1)), blks m (C.map (·.1)), fun _ => False, fun _ h => h.elim, fun pre => app emp (R pre), app emp (R pre0), m, fun t => caps.getD t .junk, fun t => cs.getD t undef, fun _ _ => True, fun _ _ _ _ _ => trivial, hsD, hS.low, none⟩
  have hk : k.Of pre0 F (app emp (R pre0)) m w (blks m ((R pre0).map (·.1))) (blks m (C.map (·.1))) (fun _ => False) := ⟨rfl, rfl, rfl, rfl, rfl, rfl, rfl, rfl⟩
  have hvv : ∀ t, VRel (app emp (R pre0 ++ C)) m w (okB F (app emp (R pre0 ++ C)) m w) (k.va t) (k.vu t) := fun t => by
    show VRel _ _ _ _ (caps.getD t .junk) (cs.getD t undef)
    cases hc : caps[t]? with
    | none => simp only [List.getD, hc, Option.getD_none]; exact .junk _
    | some v =>
      have ht : t < cs.length := by rw [hcl2]; exact (List.getElem?_eq_some_iff.1 hc).1
      have := hcr t v cs[t] hc (List.getElem?_eq_getElem ht)
      simpa [List.getD, hc, ht] using this
  have hvi : ∀ t, ∀ i ∈ idsV (k.va t), app emp (R pre0) i = app emp (R pre0 ++ C) i := fun t i hi => by
    refine hSR i (subIds_iff.1 hcaps i ?_)
    have hi : i ∈ idsV (caps.getD t .junk) := hi
    cases hc : caps[t]? with
    | none => simp only [List.getD, hc, Option.getD_none] at hi; simp [idsV] at hi
    | some v =>
      simp only [List.getD, hc, Option.getD_some] at hi
      exact mem_idsL.2 ⟨v, List.mem_of_getElem? hc, hi⟩
  have hA := hp.start hk hvv hvi
  have he : app emp C e = none := app_emp_none hs.e
  have he2 : ∀ id o, app emp C id = some o → e ∉ idsO o := fun id o ho hm => hs.e (hs.cc _ (app_mem0 ho) e hm)
  obtain ⟨g1, g2⟩ := hp.packed hk hA trivial he he2 (fn := .func (.func fid) #[] cs.toArray) (kind := .inl ⟨fid, cs.toArray, rfl⟩) (goes := G) (adm := A)
  have hY : YCalls P (k.spec (.func (.func fid) #[] cs.toArray) (.inl ⟨fid, cs.toArray, rfl⟩) G A) := Pk.calls hcl hC rfl rfl (fun i v u hv hu => by
    refine ⟨?_, ?_⟩
    · show caps.getD i .junk = v; simp [List.getD, hv]
    · show cs.getD i undef = u; simp [List.getD, hu]) hcl2
  have hst : ∀ (Y : YSpec) (p : List (List Tree)), app emp ((e, .ext Y p) :: C) = upd (app emp C) e (.ext Y p) := fun Y p => by
    funext id
    show app (upd emp e _) C id = _
    by_cases q : id ∈ C.map (·.1)
    · have : id ≠ e := fun r => hs.e (r ▸ q)
      rw [upd_ne this]; exact app_at (.inl q)
    · rw [app_not q]
      by_cases r : id = e
      · subst r; rw [upd_same, upd_same]
      · rw [upd_ne r, upd_ne r, app_emp_none q]; rfl
  have hcall := hW (k.spec (.func (.func fid) #[] cs.toArray) (.inl ⟨fid, cs.toArray, rfl⟩) G A) rfl rfl hY F (yPlace m e (blks m ((R pre0).map (·.1)))) w us (by rw [hst]; exact g1) (by rw [hl]; simp) (fun i v u hv hu => by
    rw [hst]
    have same : ∀ v u, VRel (app emp (R pre0 ++ C)) m w (okB F (app emp (R pre0 ++ C)) m w) v u → (∀ i ∈ idsV v, i ∈ idsL (a1 ++ a2)) → VRel (upd (app emp C) e (.ext (k.spec (.func (.func fid) #[] cs.toArray) (.inl ⟨fid, cs.toArray, rfl⟩) G A) pre0)) (yPlace m e (blks m ((R pre0).map (·.1)))) w (okB F (upd (app emp C) e (.ext (k.spec (.func (.func fid) #[] cs.toArray) (.inl ⟨fid, cs.toArray, rfl⟩) G A) pre0)) (yPlace m e (blks m ((R pre0).map (·.1)))) w) v u := fun v u hv hi =>
      hp.val g2 hv (fun i hh => by
        have hc := subIds_iff.1 ha i (hi i hh)
        have hne : i ≠ e := fun q => hs.e (q ▸ hc)
        obtain ⟨o, ho⟩ := app_emp_isSome hc
        exact ⟨by rw [upd_ne hne, ho, hp.c i o ho], yPlace_ne hne⟩)
    rcases Nat.lt_trichotomy i a1.length with q | q | q
    · rw [List.getElem?_append_left q] at hv
      exact same v u (hr i v u (by rw [List.getElem?_append_left q]; exact hv) hu) (fun j hj => mem_idsL.2 ⟨v, List.mem_append_left _ (List.mem_of_getElem? hv), hj⟩)
    · subst q
      rw [List.getElem?_append_right (Nat.le_refl _), Nat.sub_self, List.getElem?_cons_zero] at hv
      cases hv
      have : us[a1.length]? = some (.func (.func fid) #[] cs.toArray) := by rw [List.getElem?_eq_getElem hlen, huf]
      rw [this] at hu; cases hu
      exact .yl e _ pre0 (upd_same _ _ _)
    · obtain ⟨j, rfl⟩ : ∃ j, i = a1.length + (j + 1) := ⟨i - a1.length - 1, by omega⟩
      rw [List.getElem?_append_right (by omega), show a1.length + (j + 1) - a1.length = j + 1 by omega, List.getElem?_cons_succ] at hv
      exact same v u (hr _ v u (by rw [List.getElem?_append_right (by omega), show a1.length + (j + 1) - a1.length = j + 1 by omega, List.getElem?_cons_succ]; exact hv) hu) (fun j' hj => mem_idsL.2 ⟨v, List.mem_append_right _ (List.mem_of_getElem? hv), hj⟩))
  refine hcall.mono ?_
  rintro en w1 ⟨v, m1, rfl, k1, k2, k3⟩
  rw [hst] at k1 k2 k3
  rw [hst] at k2
  have hext := (k1.objs e _ (upd_same _ _ _)).2.1
  obtain ⟨⟨mR, hA'⟩, -⟩ := hext
  have hdis : ∀ id o, app emp C id = some o → k.St pre' id = none := fun id o ho => by
    show app emp (R pre') id = none
    refine app_emp_none (fun hm => ?_)
    rw [hids] at hm
    obtain ⟨x, hx, rfl⟩ := List.mem_map.1 hm
    exact hs.dis x hx (app_emp_some ho)
  obtain ⟨mf, r1, r2, r3, -⟩ := hp.unpack hk he he2 k1 k2 hA' hdis
  have hfin : bothS (app emp C) (k.St pre') = app emp (R pre' ++ C) := by
    funext id
    rw [app_both]; rfl
  rw [hfin] at r1 r2
  exact ⟨v, mf, rfl, r1, r2, memfree_rel hres k3⟩
end Go.Ab
end
section
set_option linter.unusedVariables false
namespace Go.Ab
variable {P : Program}

/-- The record of a loop is turned: what we have lies as it lay. -/
theorem turn {F : Fen P} {st : Store} {m : Place} {w w' : World} {l : Nat} (hS : SRel F st m w) (hsz : w'.heap.size = w.heap.size) (hb : ∀ b, b ≠ l → w'.heap[b]? = w.heap[b]?) {r : Loop} (hl : w.heap[l]? = some (.loop r)) (hn : ∀ id o, st id = some o → ¬ m.has id l)
    (hY : ∀ id Y p, st id = some (.ext Y p) → ¬ Y.D l) : SRel F st m w' ∧ Still (okB F st m w) w w' := by
  have hs : Still (okB F st m w) w w' := fun b us e z _ hc => hb b (fun q => by subst q; rw [hl] at hc; cases hc)
  refine ⟨hS.still hs (fun id Y p hi hh _ => Y.stab _ _ _ _ hh (by omega) (fun b hg => hb b (fun q => hn id _ hi (q ▸ .inr hg))) (fun b hD => hb b (fun q => hY id Y p hi (q ▸ hD)))) (by omega) (fun id o b ho hm => hb b (fun q => hn id o ho (q ▸ hm))) (fun b o h => ?_), hs⟩
  rw [hb b (fun q => ?_)]
  · exact hS.hold b o h
  · subst q
    obtain ⟨us, e, z, rfl⟩ := F.cel b o h
    have := hS.hold b _ h
    rw [hl] at this; cases this
theorem putObjF (w : World) (l : Nat) (o : Obj) : (w.putObj l o).heap.size = w.heap.size ∧ ∀ b, b ≠ l → (w.putObj l o).heap[b]? = w.heap[b]? := ⟨by simp, fun b h => World.putObj_heap_other h⟩

/-- How a round may be left, as the loop's record has it. -/
def exitOf : Option Code → Option Exit
  | none => some .normal
  | some .ret => some .ret
  | some (.exit id) => some (.exit id)
  | _ => none
/-- The slots of a round: what yield was handed in its parameters. -/
def bindS (ps : List Nat) (xs : List Tree) (sl : List (Nat × AVal)) : List (Nat × AVal) := (ps.zip xs).foldl (fun s p => (p.1, .t p.2) :: s) sl
theorem bind_rel {st : Store} {m : Place} {w : World} {ok : Nat → Prop} : ∀ (ps : List Nat) (xs : List Tree) (us : List Value) (sl : List (Nat × AVal)) (tmps : Array Value), us.length = xs.length → (∀ p ∈ ps, p < tmps.size) →
    (∀ (i : Nat) (x : Tree) (u : Value), xs[i]? = some x → us[i]? = some u → TRep w ok x u) → SlotsRel st m w ok sl tmps → SlotsRel st m w ok (bindS ps xs sl) ((ps.zip us).foldl (fun t p => t.setIfInBounds p.1 p.2) tmps) ∧ ((ps.zip us).foldl (fun t p => t.setIfInBounds p.1 p.2) tmps).size = tmps.size
  | [], xs, us, sl, tmps, _, _, _, h => ⟨by simpa [bindS] using h, by simp⟩
  | p :: ps, [], [], sl, tmps, _, _, _, h => ⟨by simpa [bindS] using h, by simp⟩
  | p :: ps, x :: xs, u :: us, sl, tmps, hl, hp, hx, h => by
    have h1 : SlotsRel st m w ok ((p, .t x) :: sl) (tmps.setIfInBounds p u) := fun t => by
      have hpt := hp p List.mem_cons_self
      simp only [get]
      by_cases e : p = t
      · subst e
        have : (tmps.setIfInBounds p u).getD p undef = u := by simp [hpt]
        rw [this]; simp only [show Nat.beq p p = true from Nat.beq_refl p, cond_true]
        exact .t _ _ (hx 0 x u rfl rfl)
      · rw [beq_ne e, cond_false]
        have : (tmps.setIfInBounds p u).getD t undef = tmps.getD t undef := by simp [Array.getElem?_setIfInBounds_ne e]
        rw [this]; exact h t
    obtain ⟨i1, i2⟩ := bind_rel ps xs us ((p, .t x) :: sl) (tmps.setIfInBounds p u) (by simpa using hl) (fun q hq => by simpa using hp q (List.mem_cons_of_mem _ hq)) (fun i x' u' a b => hx (i + 1) x' u' (by simpa using a) (by simpa using b)) h1
    exact ⟨by simpa [bindS] using i1, by simpa using i2⟩
/-- What a loop over a function lays as it begins. -/
structure Entered (F : Fen P) (fn : FuncId) (tmps : Array Value) (ps : Array Tmp) (asg body : Code) (w : World) (l : Nat) (mark : List Deferred) (w1 : World) : Prop where
  run : (Instr.enterLoop fn tmps ps asg body F.rnd).run P w = .ok (l, mark) w1
  lt : w.heap.size ≤ l ∧ l < w1.heap.size
  sz : w.heap.size ≤ w1.heap.size
  same : ∀ b, b < w.heap.size → w1.heap[b]? = w.heap[b]?
  os : w1.os = w.os
  tape : w1.tape = w.tape
  output : w1.output = w.output
  rcd : ∃ d, w1.heap[l]? = some (.loop { state := .ready, pending := none, fn, tmps, params := ps, assign := asg, body, defers := d })
  mks : mark = [] ∨ ∃ D, mark = [markD D] ∧ w.heap.size ≤ D ∧ D < w1.heap.size ∧ D ≠ l ∧ w1.heap[D]? = some (.deferred (some []))
theorem enter_any (F : Fen P) (fn : FuncId) (tmps : Array Value) (ps : Array Tmp) (asg body : Code) (w : World) (h : ∀ l, F.rnd = some l → ∃ r, w.heap[l]? = some (.loop r)) : ∃ l mark w1, Entered F fn tmps ps asg body w l mark w1 := by
  cases hr : F.rnd with
  | none =>
    refine ⟨w.heap.size + 1, [markD w.heap.size], (w.alloc (.deferred (some []))).alloc (.loop { state := .ready, pending := none, fn, tmps, params := ps, assign := asg, body, defers := w.heap.size }), ?_, ⟨by omega, by simp⟩, by simp; omega, fun b hb => ?_, rfl, rfl, rfl, ⟨w.heap.size, ?_⟩, .inr ⟨w.heap.size, rfl, Nat.le_refl _, by simp; omega, by omega, ?_⟩⟩
    · rw [hr]; exact run_enterLoop_outer _ _ _ _ _
    · rw [RowKit.Below.heap_alloc _ _ b (by simp; omega), RowKit.Below.heap_alloc _ _ b hb]
    · have := World.alloc_heap_new (w.alloc (.deferred (some []))) (.loop { state := .ready, pending := none, fn, tmps, params := ps, assign := asg, body, defers := w.heap.size })
      rwa [World.size_alloc] at this
    · exact (RowKit.Below.heap_alloc _ _ _ (by simp)).trans (World.alloc_heap_new w _)
  | some l0 =>
    obtain ⟨r, hl⟩ := h l0 hr
    refine ⟨w.heap.size, [], w.alloc (.loop { state := .ready, pending := none, fn, tmps, params := ps, assign := asg, body, defers := r.defers }), ?_, ⟨Nat.le_refl _, by simp⟩, by simp, fun b hb => RowKit.Below.heap_alloc _ _ b hb, rfl, rfl, rfl, ⟨r.defers, World.alloc_heap_new w _⟩, .inl rfl⟩
    rw [hr]; exact run_enterLoop_inner hl _ _ _ _ _

variable {n : Nat} {l0 : List (Nat × Ob)} {Q : Exit → St → Prop}
def okSlots (sl slB : List (Nat × AVal)) (r : List (Nat × Ob)) : Prop := ∀ t, get slB t = .junk ∨ (get slB t = get sl t ∧ ∀ i ∈ idsV (get sl t), i ∈ r.map (·.1))
def okSlotsB (sl : List (Nat × AVal)) (r : List (Nat × Ob)) : List Nat → Bool
  | [] => true
  | t :: ts => subIds (idsV (get sl t)) r && okSlotsB sl r ts
theorem okSlots_keep {sl : List (Nat × AVal)} {r : List (Nat × Ob)} : ∀ {ts : List Nat}, okSlotsB sl r ts = true → okSlots sl (keepS sl ts) r
  | [], _ => fun t => .inl rfl
  | t :: ts, h => fun t' => by
    simp only [okSlotsB, Bool.and_eq_true] at h
    simp only [keepS, get]
    by_cases e : t = t'
    · subst e; right; simp only [show Nat.beq t t = true from Nat.beq_refl t, cond_true]; exact ⟨trivial, subIds_iff.1 h.1⟩
    · rw [beq_ne e, cond_false]; exact okSlots_keep h.2 t'
theorem Sim.rng {g : Operand} {ps : Array Tmp} {asg body : Code} {gf : FuncId} {caps : List AVal} {R : List (List Tree) → List (Nat × Ob)} {C : List (Nat × Ob)} {sl slB : List (Nat × AVal)} {nx e : Nat} {res : AVal} {vs : List (List Tree)}
    {J : List (List Tree) → Option Code} {A : List (List Tree) → List Tree → Prop} {ex : Exit}
    (hg : ev sl g = .fn gf caps)
    (hW : ∀ Y : YSpec, Y.goes = (fun p => (J p).isNone) → Y.adm = A → YCalls P Y → FC P gf (.yl e :: caps) (app emp ((e, .ext Y []) :: C)) res (app emp ((e, .ext Y vs) :: C)))
    (hA : ∀ pre xs, A pre xs → J pre = none ∧ xs.length = ps.size)
    (hbody : ∀ pre xs, A pre xs → ∃ slA RA nxA, (∀ id, nxA ≤ id → app emp RA id = none) ∧
      Sim P n (R pre) asg ⟨bindS ps.toList xs slB, app emp (R pre), nx⟩ (fun e1 s1 => e1 = .normal ∧ Le n (R pre) s1 ⟨slA, app emp RA, nxA⟩) ∧
      Sim P n (R pre) body ⟨slA, app emp RA, nxA⟩ (fun e2 s2 => exitOf (J (pre ++ [xs])) = some e2 ∧ ∃ nx2, Le n (R pre) s2 ⟨[], app emp (R (pre ++ [xs])), nx2⟩))
    (hcl : callable P gf = true) (hJ0 : J [] = none) (hside : sideB (R []) C e = true) (hids : ∀ pre, (R pre).map (·.1) = (R []).map (·.1)) (hcaps : subIds (idsL caps) C = true) (hsl : okSlots sl slB (R []))
    (hps : ps.toList.all (fun p => Nat.blt p n) = true) (hnx : (R []).all (fun x => Nat.blt x.1 nx) = true) (hex : exitOf (J vs) = some ex) (hq : Q ex ⟨slB, app emp (R vs ++ C), nx⟩) :
    Sim P n l0 (.rangeFunc g ps asg body) ⟨sl, app emp (R [] ++ C), nx⟩ Q := by
  intro F m0 w0 m a w h0 h1 h2
  have hs := side_of hside
  have hS := h1.srel
  -- the iterator
  have hgv : VRel (app emp (R [] ++ C)) m w (okB F (app emp (R [] ++ C)) m w) (ev sl g) (a.eval g) := ev_rel (fun t _ => h1.slots t)
  rw [hg] at hgv
  generalize hu : a.eval g = uf at hgv
  cases hgv with
  | fn _ _ cs hcl2 hcr =>
  unfold callable at hcl
  split at hcl
  rotate_left
  · cases hcl
  rename_i gfn hgfn
  simp only [Bool.and_eq_true, Bool.not_eq_true'] at hcl
  obtain ⟨gcode, hgcode⟩ := Option.isSome_iff_exists.1 hcl.1
  refine wpIn_rangeFunc ?_
  intro fn hfn
  obtain ⟨⟨mds, hm1, hm2, hm3⟩, hlo, hout⟩ := h1.defers
  obtain ⟨l, mark, w1, hE⟩ := enter_any F fn a.tmps ps asg body w (fun l hl => (hout l hl).2)
  obtain ⟨dd, hrec⟩ := hE.rcd
  obtain ⟨rec, hrecD⟩ : ∃ rec : LoopState → Option Code → Loop, rec = fun st pe => { state := st, pending := pe, fn, tmps := a.tmps, params := ps, assign := asg, body, defers := dd } := ⟨_, rfl⟩
  have hrec : w1.heap[l]? = some (.loop (rec .ready none)) := by rw [hrecD]; exact hrec
  have hE2 : Entered F fn a.tmps ps asg body w l mark w1 := hE
  obtain ⟨erun, ⟨elt1, elt2⟩, esz, esame, eos, etape, eout, -, emk⟩ := hE
  -- what is packed
  have hg0 : ∀ b, b ∈ blks m ((R []).map (·.1)) ++ [l] ↔ (∃ i ∈ (R []).map (·.1), m.has i b) ∨ b = l := fun b => by
    rw [List.mem_append, mem_blks, List.mem_singleton]
  have hp := parts_of (X := fun b => b = l) (g0 := blks m ((R []).map (·.1)) ++ [l]) (w0 := w1) hs hS hg0 (fun b hb => by subst hb; exact ⟨elt1, elt2⟩) esz eos etape eout esame
  have hSR : ∀ i, i ∈ (R []).map (·.1) → app emp (R []) i = app emp (R [] ++ C) i := fun i hi => by
    obtain ⟨o, ho⟩ := app_emp_isSome hi
    rw [ho, hp.r i o ho]
  have hsD : ∀ b o, F.says b o → b < w1.heap.size ∧ b ∉ blks m ((R []).map (·.1)) ++ [l] ∧ b ∉ blks m (C.map (·.1)) := fun b o h => by
    have hlt := hS.low b (F.sub b o h)
    refine ⟨by omega, fun hb => ?_, fun hb => ?_⟩
    · rcases (hg0 b).1 hb with ⟨i, q1, q2⟩ | q
      · obtain ⟨o', ho'⟩ := app_emp_isSome q1
        exact hS.avoid i o' b (hp.r i o' ho') q2 (F.sub b o h)
      · omega
    · obtain ⟨i, q1, q2⟩ := mem_blks.1 hb
      obtain ⟨o', ho'⟩ := app_emp_isSome q1
      exact hS.avoid i o' b (hp.c i o' ho') q2 (F.sub b o h)
  obtain ⟨stt, hstt⟩ : ∃ stt : List (List Tree) → LoopState, stt = fun pre => if (J pre).isNone then .ready else .done := ⟨_, rfl⟩
  let k : Pk P := ⟨F, w1, blks m ((R []).map (·.1)) ++ [l], blks m (C.map (·.1)), fun b => b = l, fun b hb => (hg0 b).2 (.inr hb), fun pre => app emp (R pre), app emp (R []), m, fun t => get slB t, fun t => a.tmps.getD t undef,
    fun pre W => W.heap[l]? = some (.loop (rec (stt pre) (J pre))), fun pre W W' h hb => (hb l ((hg0 l).2 (.inr rfl))).trans h, hsD, fun b hb => Nat.lt_of_lt_of_le (hS.low b hb) esz, some l⟩
  have hk : k.Of [] F (app emp (R [])) m w1 (blks m ((R []).map (·.1)) ++ [l]) (blks m (C.map (·.1))) (fun b => b = l) := ⟨rfl, rfl, rfl, rfl, rfl, rfl, rfl, rfl⟩
  have hvv : ∀ t, VRel (app emp (R [] ++ C)) m w (okB F (app emp (R [] ++ C)) m w) (k.va t) (k.vu t) := fun t => by
    show VRel _ _ _ _ (get slB t) _
    rcases hsl t with q | ⟨q, -⟩
    · rw [q]; exact .junk _
    · rw [q]; exact h1.slots t
  have hvi : ∀ t, ∀ i ∈ idsV (k.va t), app emp (R []) i = app emp (R [] ++ C) i := fun t i hi => by
    have hi : i ∈ idsV (get slB t) := hi
    rcases hsl t with q | ⟨q, q2⟩
    · rw [q] at hi; cases hi
    · rw [q] at hi; exact hSR i (q2 i hi)
  have hAt := hp.start hk hvv hvi
  have hE0 : k.E [] w1 := by
    show w1.heap[l]? = some (.loop (rec (stt []) (J [])))
    rw [show stt [] = .ready by rw [hstt]; simp [hJ0], hJ0]; exact hrec
  have he : app emp C e = none := app_emp_none hs.e
  have he2 : ∀ id o, app emp C id = some o → e ∉ idsO o := fun id o ho hm => hs.e (hs.cc _ (app_mem0 ho) e hm)
  obtain ⟨g1, g2⟩ := hp.packed hk hAt hE0 he he2 (fn := .func (.yield l) #[] #[]) (kind := .inr ⟨l, rfl⟩) (goes := fun p => (J p).isNone) (adm := A)
  -- a round
  have hY : YCalls P (k.spec (.func (.yield l) #[] #[]) (.inr ⟨l, rfl⟩) (fun p => (J p).isNone) A) := by
    intro pre xs us gg W hAd hh hgl hul hx
    obtain ⟨⟨mm, hW0⟩, hEW⟩ := hh
    obtain ⟨hJp, hxl⟩ := hA pre xs hAd
    have hEW : W.heap[l]? = some (.loop (rec .ready none)) := by
      have : W.heap[l]? = some (.loop (rec (stt pre) (J pre))) := hEW
      rw [show stt pre = .ready by rw [hstt]; simp [hJp], hJp] at this; exact this
    have hlW : l < W.heap.size := (Array.getElem?_eq_some_iff.1 hEW).1
    have hlg : l ∈ gg := hW0.g0 l ((hg0 l).2 (.inr rfl))
    refine ⟨.yield l, #[], .round l fn ((ps.zip us.toArray).foldl (fun t (p, v) => t.setIfInBounds p v) a.tmps) asg body, rfl, ?_, ?_⟩
    · have hy := run_yield (P := P) (args := us.toArray) hEW (by rw [hrecD]; simp; omega)
      rw [hrecD] at hy
      simpa only [invoke] using hy
    have hzip : (ps.zip us.toArray).foldl (fun t (p, v) => t.setIfInBounds p v) a.tmps = (ps.toList.zip us).foldl (fun t p => t.setIfInBounds p.1 p.2) a.tmps := by
      rw [← Array.foldl_toList, Array.toList_zip]
    obtain ⟨slA, RA, nxA, hfrA, hsa, hsb⟩ := hbody pre xs hAd
    have hok0 : SlotsRel (app emp (R pre)) mm W (okB (k.fy gg W.heap.size) (app emp (R pre)) mm W) slB a.tmps := fun t => hW0.val t
    have hpsn : ∀ p ∈ ps.toList, p < a.tmps.size := fun p hp => by
      rw [h1.size]; exact Nat.lt_of_succ_le (Nat.le_of_ble_eq_true (List.all_eq_true.1 hps p hp))
    obtain ⟨b1, b2⟩ := bind_rel ps.toList xs us slB a.tmps hul hpsn (fun i x u p q => (hx i x u p q).mono (fun _ h => h.elim) (fun _ _ _ h => h.elim)) hok0
    have notX : ∀ id o b, app emp (R pre) id = some o → mm.has id b → b ≠ l := fun id o b ho hm => (hW0.own id o b ho hm).2
    have hrel0 : Rel (k.fy gg W.heap.size) n ⟨bindS ps.toList xs slB, app emp (R pre), nx⟩ mm { tmps := (ps.toList.zip us).foldl (fun t p => t.setIfInBounds p.1 p.2) a.tmps, defers := [] } W :=
      ⟨b1, by rw [b2]; exact h1.size, Marks.nil (Nat.zero_le _) (fun l' hl' => by
        have : l = l' := by simpa [Pk.fy, k] using hl'
        subst this
        exact ⟨fun id o ho hm => notX id o l ho hm rfl, _, hEW⟩), hW0.rel, fun id hid => by
        refine app_emp_none (fun hm => ?_)
        rw [hids] at hm
        obtain ⟨x, hx, rfl⟩ := List.mem_map.1 hm
        have := Nat.lt_of_succ_le (Nat.le_of_ble_eq_true (List.all_eq_true.1 hnx x hx))
        simp only at hid; omega⟩
    refine roundIn_of_wpIn (F := Fence.wide) trivial ?_
    rw [hzip]
    have hsim := hsa (k.fy gg W.heap.size) mm W mm _ W hW0.rel hrel0 (FrameExt.refl _ _ _ _)
    refine wpIn_mono hsim ?_
    rintro e1 a1 W1 ⟨s1, m1, hR1, hF1, rfl, hle1⟩
    obtain ⟨m2, hR2, hF2⟩ := hle1 (k.fy gg W.heap.size) mm W m1 a1 W1 hW0.rel hR1 hF1
    have hl1 : W1.heap[l]? = some (.loop (rec .ready none)) := (hF2.block l hlW (.inr fun id o ho _ hm => notX id o l ho hm rfl)).trans hEW
    have own1 : ∀ (st' : Store) (m' : Place) (W' : World), KN (app emp (R pre)) mm W.heap.size st' m' → ∀ id o, st' id = some o → ¬ m'.has id l := fun st' m' W' hkn id o ho hm => by
      cases hr : app emp (R pre) id with
      | none =>
        rcases hkn.new id o ho hr l hm with q | ⟨i, oi, q1, _, q2⟩
        · omega
        · exact notX i oi l q1 q2 rfl
      | some o0 =>
        obtain ⟨o', _, _, _, _, hpp, _⟩ := hkn.keep id o0 hr
        rcases hpp l hm with q | q | ⟨i, oi, q1, _, q2⟩
        · exact notX id o0 l hr q rfl
        · omega
        · exact notX i oi l q1 q2 rfl
    have dl : ∀ (st' : Store) (m' : Place) (W' : World), SRel (k.fy gg W.heap.size) st' m' W' → ∀ id Y p, st' id = some (.ext Y p) → ¬ Y.D l := fun st' m' W' hSS id Y p hi hD => by
      have h3 := (hSS.objs id _ hi).2.2 l hD
      rcases Pk.ok_may h3 hlW with q | q
      · exact q.2 rfl
      · exact q.2.1 ((hg0 l).2 (.inr rfl))
    show Exit.then _ _ Exit.normal a1 W1
    refine ⟨_, run_beginRound hl1 (by rw [hrecD]), ?_⟩
    obtain ⟨z1, z2⟩ := putObjF W1 l (.loop { rec .ready none with state := .busy })
    obtain ⟨t1, t2⟩ := turn hR2.srel z1 z2 hl1 (own1 _ _ W1 hF2.kn) (dl _ _ W1 hR2.srel)
    have hl2 : (W1.putObj l (.loop { rec .ready none with state := .busy })).heap[l]? = some (.loop { rec .ready none with state := .busy }) := World.putObj_heap_same (Array.getElem?_eq_some_iff.1 hl1).1
    have z3 : (W1.putObj l (.loop { rec .ready none with state := .busy })).os = W1.os ∧ (W1.putObj l (.loop { rec .ready none with state := .busy })).tape = W1.tape ∧ (W1.putObj l (.loop { rec .ready none with state := .busy })).output = W1.output := ⟨rfl, rfl, rfl⟩
    generalize W1.putObj l (.loop { rec .ready none with state := .busy }) = W2 at z1 z2 z3 t1 t2 hl2
    have hrelB : Rel (k.fy gg W.heap.size) n ⟨slA, app emp RA, nxA⟩ m2 a1 W2 :=
      ⟨fun t => (hR2.slots t).still (fun b hb => hb.grow (by omega)) t2, hR2.size, by
        obtain ⟨⟨ml, q1, q2, q3⟩, q4, q5⟩ := hR2.defers
        refine ⟨⟨ml, q1, q2, fun D hD => ⟨(q3 D hD).1, (q3 D hD).2.1, (z2 D (fun hh => ?_)).trans (q3 D hD).2.2⟩⟩, by omega, fun l' hl' => ?_⟩
        · have := (q3 D hD).2.2; rw [hh, hl1] at this; cases this
        · have : l = l' := by simpa [Pk.fy, k] using hl'
          subst this
          exact ⟨(q5 l hl').1, _, hl2⟩, t1, hfrA⟩
    obtain ⟨v1, v2⟩ := putObjF W l (.loop { rec .ready none with state := .busy })
    obtain ⟨p1, p2⟩ := turn hW0.rel v1 v2 hEW (fun id o ho hm => notX id o l ho hm rfl) (dl _ _ W hW0.rel)
    have hlP : (W.putObj l (.loop { rec .ready none with state := .busy })).heap[l]? = some (.loop { rec .ready none with state := .busy }) := World.putObj_heap_same hlW
    have v3 : (W.putObj l (.loop { rec .ready none with state := .busy })).os = W.os ∧ (W.putObj l (.loop { rec .ready none with state := .busy })).tape = W.tape ∧ (W.putObj l (.loop { rec .ready none with state := .busy })).output = W.output := ⟨rfl, rfl, rfl⟩
    generalize W.putObj l (.loop { rec .ready none with state := .busy }) = WP at v1 v2 v3 p1 p2 hlP
    have hFP : FrameExt (k.fy gg W.heap.size) (app emp (R pre)) mm WP (app emp RA) m2 W2 := by
      refine ⟨z3.1.trans (hF2.os.trans v3.1.symm), z3.2.1.trans (hF2.tape.trans v3.2.1.symm), z3.2.2.trans (hF2.output.trans v3.2.2.symm), by have := hF2.size; omega, fun b hb hf => ?_, by rw [v1]; exact hF2.keep, by rw [v1]; exact hF2.new⟩
      by_cases e : b = l
      · subst e; rw [hl2, hlP]
      · rw [z2 b e, v2 b e]; exact hF2.block b (by omega) hf
    have hsim2 := hsb (k.fy gg W.heap.size) mm WP m2 a1 W2 p1 hrelB hFP
    refine wpIn_mono hsim2 ?_
    rintro e2 a2 W3 ⟨s2, m3, hR3, hF3, hex2, nx2, hle2⟩
    obtain ⟨m4, hR4, hF4⟩ := hle2 (k.fy gg W.heap.size) mm WP m3 a2 W3 p1 hR3 hF3
    have hl3 : W3.heap[l]? = some (.loop { rec .ready none with state := .busy }) := (hF4.block l (by omega) (.inr fun id o ho _ hm => notX id o l ho hm rfl)).trans hlP
    have hkn : KN (app emp (R pre)) mm W.heap.size (app emp (R (pre ++ [xs]))) m4 := by have := hF4.kn; rw [v1] at this; exact this
    have hsz3 : W.heap.size ≤ W3.heap.size := by have := hF4.size; omega
    have hval : ∀ t, VRel (app emp (R (pre ++ [xs]))) m4 W3 (okB (k.fy gg W.heap.size) (app emp (R (pre ++ [xs]))) m4 W3) (k.va t) (k.vu t) := fun t =>
      hF4.val ((hW0.val t).still (fun b hb => hb.grow (by omega)) p2)
    have fin : ∀ jump : Option Code, jump = J (pre ++ [xs]) → ∃ v W4, (Instr.endRound l jump).run P W3 = .ok v W4 ∧ YPost (k.spec (.func (.yield l) #[] #[]) (.inr ⟨l, rfl⟩) (fun p => (J p).isNone) A) pre xs gg W (.returned v) W4 := by
      intro jump hj
      refine ⟨_, _, run_endRound jump hl3, ?_⟩
      obtain ⟨y1, y2⟩ := putObjF W3 l (.loop { rec .ready none with state := if jump.isNone then .ready else .done, pending := jump })
      obtain ⟨u1, u2⟩ := turn hR4.srel y1 y2 hl3 (own1 _ _ W3 hkn) (dl _ _ W3 hR4.srel)
      have hl4 : (W3.putObj l (.loop { rec .ready none with state := if jump.isNone then .ready else .done, pending := jump })).heap[l]? = some (.loop (rec (stt (pre ++ [xs])) (J (pre ++ [xs])))) := by
        rw [World.putObj_heap_same (Array.getElem?_eq_some_iff.1 hl3).1, hstt, hj, hrecD]
      have e0 : ({ rec .ready none with state := .busy, pending := none } : Loop) = { rec .ready none with state := .busy } := by rw [hrecD]
      have os4 : (W3.putObj l (.loop { rec .ready none with state := if jump.isNone then .ready else .done, pending := jump })).os = W.os ∧ (W3.putObj l (.loop { rec .ready none with state := if jump.isNone then .ready else .done, pending := jump })).tape = W.tape ∧ (W3.putObj l (.loop { rec .ready none with state := if jump.isNone then .ready else .done, pending := jump })).output = W.output :=
        ⟨hF4.os.trans v3.1, hF4.tape.trans v3.2.1, hF4.output.trans v3.2.2⟩
      generalize W3.putObj l (.loop { rec .ready none with state := if jump.isNone then .ready else .done, pending := jump }) = W4 at y1 y2 u1 u2 hl4 os4
      refine ⟨by simp [Pk.spec, hj], os4.1, os4.2.1, os4.2.2, by omega, fun b hb hg => ?_, grow gg W.heap.size W4.heap.size, fun b hb => mem_grow.2 (.inl hb), fun b hb => mem_grow.1 hb, ⟨m4, ?_⟩, hl4⟩
      · have hbl : b ≠ l := fun q => hg (q ▸ hlg)
        rw [y2 b hbl]
        have n1 : ∀ id o, app emp (R pre) id = some o → ¬ mm.has id b := fun id o ho hm => hg (hW0.own id o b ho hm).1
        rw [hF4.block b (by omega) (.inr fun id o ho _ hm => n1 id o ho hm), v2 b hbl]
      · exact Pk.At.next (k := k) hW0 u1 hkn (by omega) (fun t => (hval t).still (fun b hb => hb.grow (by omega)) u2)
    -- the ways out of a round
    cases hjj : J (pre ++ [xs]) with
    | none =>
      rw [hjj] at hex2
      obtain rfl : Exit.normal = e2 := by simpa [exitOf] using hex2
      exact fin none hjj.symm
    | some cj =>
      rw [hjj] at hex2
      cases cj with
      | ret => obtain rfl : Exit.ret = e2 := by simpa [exitOf] using hex2
               exact fin (some .ret) hjj.symm
      | exit id => obtain rfl : Exit.exit id = e2 := by simpa [exitOf] using hex2
                   exact fin (some (.exit id)) hjj.symm
      | _ => simp [exitOf] at hex2
  have hst : ∀ (Y : YSpec) (p : List (List Tree)), app emp ((e, .ext Y p) :: C) = upd (app emp C) e (.ext Y p) := fun Y p => by
    funext id
    show app (upd emp e _) C id = _
    by_cases q : id ∈ C.map (·.1)
    · have : id ≠ e := fun r => hs.e (r ▸ q)
      rw [upd_ne this]; exact app_at (.inl q)
    · rw [app_not q]
      by_cases r : id = e
      · subst r; rw [upd_same, upd_same]
      · rw [upd_ne r, upd_ne r, app_emp_none q]; rfl
  have hcall := hW (k.spec (.func (.yield l) #[] #[]) (.inr ⟨l, rfl⟩) (fun p => (J p).isNone) A) rfl rfl hY F (yPlace m e (blks m ((R []).map (·.1)) ++ [l])) w1 (.func (.yield l) #[] #[] :: cs) (by rw [hst]; exact g1) (by simp [hcl2]) (fun i v u hv hu => by
    rw [hst]
    cases i with
    | zero =>
      simp only [List.getElem?_cons_zero, Option.some.injEq] at hv hu
      subst hv; subst hu
      exact .yl e _ [] (upd_same _ _ _)
    | succ i =>
      simp only [List.getElem?_cons_succ] at hv hu
      refine hp.val g2 (hcr i v u hv hu) (fun j hj => ?_)
      have hc := subIds_iff.1 hcaps j (mem_idsL.2 ⟨v, List.mem_of_getElem? hv, hj⟩)
      have hne : j ≠ e := fun q => hs.e (q ▸ hc)
      obtain ⟨o, ho⟩ := app_emp_isSome hc
      exact ⟨by rw [upd_ne hne, ho, hp.c j o ho], yPlace_ne hne⟩)
  refine ⟨l, mark, w1, { target := .fn (.func gf) cs.toArray, args := #[.func (.yield l) #[] #[]] }, w1, gf, (Value.func (.yield l) #[] #[] :: cs).toArray, w1, erun, ?_, ?_, ?_, ?_, ?_⟩
  · simp only [resolve, hu]; simp [go_sem]
  · intro f' hf'; trivial
  · have e2 : #[Value.func (.yield l) #[] #[]] ++ cs.toArray = (Value.func (.yield l) #[] #[] :: cs).toArray := by simp
    simp only [invoke, e2]
    exact run_enter hgfn hcl.2 hgcode _ w1
  · intro h; simp [fw, Fence.wide] at h
  refine CallsIn.mono (F := fw F) (callsIn_wide.2 hcall) ?_
  rintro en w2 ⟨v, m1, rfl, k1, k2, k3⟩
  rw [hst] at k1 k2 k3
  rw [hst] at k2
  obtain ⟨⟨mR, hA'⟩, hEv⟩ := (k1.objs e _ (upd_same _ _ _)).2.1
  have hEv : w2.heap[l]? = some (.loop (rec (stt vs) (J vs))) := hEv
  have hidm : ∀ pre i, i ∈ (R pre).map (·.1) ↔ i ∈ (R []).map (·.1) := fun pre i => by rw [hids]
  have hdis : ∀ id o, app emp C id = some o → k.St vs id = none := fun id o ho => by
    show app emp (R vs) id = none
    refine app_emp_none (fun hm => ?_)
    rw [hidm] at hm
    obtain ⟨x, hx, rfl⟩ := List.mem_map.1 hm
    exact hs.dis x hx (app_emp_some ho)
  obtain ⟨mf, r1, r2, r3, r4⟩ := hp.unpack hk he he2 k1 k2 hA' hdis
  have hfin : bothS (app emp C) (k.St vs) = app emp (R vs ++ C) := by
    funext id
    rw [app_both]; rfl
  rw [hfin] at r1 r2 r3 r4
  have fresh2 : ∀ id, app emp (R [] ++ C) id = none → app emp (R vs ++ C) id = none := fun id hid => by
    refine app_emp_none (fun hm => ?_)
    have : id ∈ (R [] ++ C).map (·.1) := by
      rw [List.map_append, List.mem_append] at hm ⊢
      exact hm.imp (fun q => (hidm vs id).1 q) (fun q => q)
    obtain ⟨o, ho⟩ := app_emp_isSome this
    rw [hid] at ho; cases ho
  have nl : ∀ id o, app emp (R vs ++ C) id = some o → ¬ mf.has id l := fun id o ho hm => by
    obtain ⟨i, oi, q1, q2⟩ := r4 id o l ho hm elt2
    have := hS.lt i oi l q1 q2; omega
  have dl : ∀ id Y p, app emp (R vs ++ C) id = some (.ext Y p) → ¬ Y.D l := fun id Y p hi hD => by
    cases hq : app emp (R [] ++ C) id with
    | none => rw [fresh2 id hq] at hi; cases hi
    | some o =>
      obtain ⟨o', q1, _, _, _, _, q6⟩ := r2.keep id o hq
      rw [hi] at q1; cases q1
      cases o <;> simp [Ob.same] at q6
      subst q6
      have := ((hS.objs id _ hq).2.2 l hD).1
      omega
  show ∃ jump w4, _ ∧ _
  have hnb : (rec (stt vs) (J vs)).state ≠ .busy := by
    rw [hrecD, hstt]
    simp only
    split <;> simp
  have hpend : (rec (stt vs) (J vs)).pending = J vs := by rw [hrecD]
  refine ⟨J vs, _, by rw [← hpend]; exact run_endLoop hEv hnb, ?_⟩
  obtain ⟨z1, z2⟩ := putObjF w2 l (.loop { rec (stt vs) (J vs) with state := .exhausted })
  obtain ⟨t1, t2⟩ := turn r1 z1 z2 hEv nl dl
  have os4 : (w2.putObj l (.loop { rec (stt vs) (J vs) with state := .exhausted })).os = w2.os ∧ (w2.putObj l (.loop { rec (stt vs) (J vs) with state := .exhausted })).tape = w2.tape ∧ (w2.putObj l (.loop { rec (stt vs) (J vs) with state := .exhausted })).output = w2.output := ⟨rfl, rfl, rfl⟩
  generalize w2.putObj l (.loop { rec (stt vs) (J vs) with state := .exhausted }) = w3 at z1 z2 t1 t2 os4
  have hF3 : FrameExt F (app emp (R [] ++ C)) m w (app emp (R vs ++ C)) mf w3 := by
    refine ⟨os4.1.trans r2.os, os4.2.1.trans r2.tape, os4.2.2.trans r2.output, by have := r2.size; omega, fun b hb hf => ?_, r2.keep, r2.new⟩
    rw [z2 b (by omega)]
    exact r2.block b hb hf
  have hmk : Marks F (app emp (R vs ++ C)) mf w3 (mark ++ a.defers) := by
    have h5 := h1.defers.ext hF3
    rcases emk with rfl | ⟨D, rfl, d1, d2, d3, d4⟩
    · exact h5
    · obtain ⟨⟨ml, q1, q2, q3⟩, q4, q5⟩ := h5
      refine ⟨⟨D :: ml, by rw [q1]; rfl, List.nodup_cons.2 ⟨fun hm => ?_, q2⟩, fun D' hD' => ?_⟩, q4, q5⟩
      · have hml : ml = mds := by
          have := q1.symm.trans hm1
          exact (List.map_inj_right (fun x y hxy => by simpa [markD] using hxy)).1 this
        rw [hml] at hm
        have := (Array.getElem?_eq_some_iff.1 (hm3 D hm).2.2).1
        omega
      · rcases List.mem_cons.1 hD' with rfl | hD'
        · refine ⟨by omega, fun id o ho hm => ?_, ?_⟩
          · obtain ⟨i, oi, p1, p2⟩ := r4 id o D' ho hm d2
            have := hS.lt i oi D' p1 p2; omega
          · rw [z2 D' d3]
            rw [k2.block D' d2 (.inr fun id o ho _ hm => ?_)]
            · exact d4
            · by_cases s : id = e
              · rw [s] at hm
                rcases (hg0 D').1 ((yPlace_e _ _ _ _).1 hm) with ⟨i, p1, p2⟩ | p
                · obtain ⟨oi, ho'⟩ := app_emp_isSome p1
                  have := hS.lt i oi D' (hp.r i oi ho') p2; omega
                · exact d3 p
              · rw [upd_ne s] at ho
                have := hS.lt id o D' (hp.c id o ho) ((yPlace_has s).1 hm); omega
        · exact q3 D' hD'
  have hrelF : Rel F n ⟨slB, app emp (R vs ++ C), nx⟩ mf { a with defers := mark ++ a.defers } w3 :=
    ⟨fun t => (r3 t).still (fun b hb => hb.grow (by omega)) t2, h1.size, hmk, t1, fun id hid => fresh2 id (h1.fresh id hid)⟩
  have hF0 := h2.trans h0 hF3
  cases hjj : J vs with
  | none =>
    rw [hjj] at hex
    obtain rfl : Exit.normal = ex := by simpa [exitOf] using hex
    exact ⟨_, mf, hrelF, hF0, hq⟩
  | some cj =>
    rw [hjj] at hex
    cases cj with
    | ret =>
      obtain rfl : Exit.ret = ex := by simpa [exitOf] using hex
      exact wpIn_ret ⟨_, mf, hrelF, hF0, hq⟩
    | exit id =>
      obtain rfl : Exit.exit id = ex := by simpa [exitOf] using hex
      exact wpIn_exit ⟨_, mf, hrelF, hF0, hq⟩
    | _ => simp [exitOf] at hex
end Go.Ab
end
section
set_option linter.unusedVariables false
namespace Go.Ab
variable {P : Program} {n : Nat} {l0 : List (Nat × Ob)} {Q : Exit → St → Prop}

/-- What the iterator is said to do: it hands over the first m of the values 'vl', one by one. -/
structure Iter (P : Program) (gf : FuncId) (caps : List AVal) (C : List (Nat × Ob)) (e : Nat) {V : Type} (enc : V → List Tree) (d : V) (vl : List V) (J : Nat → Option Code) (m : Nat) (res : AVal) : Prop where
  fc : ∀ Y : YSpec, Y.goes = (fun p => (J p.length).isNone) → (∀ k, k < vl.length → J k = none → Y.adm ((vl.take k).map enc) (enc (vl.getD k d))) → YCalls P Y →
    FC P gf (.yl e :: caps) (app emp ((e, .ext Y []) :: C)) res (app emp ((e, .ext Y ((vl.take m).map enc)) :: C))
  le : m ≤ vl.length
def rgG : Option (At × List Prop) → Operand
  | some (.mid (.rangeFunc g _ _ _) _ _, _) => g
  | _ => default
def rgP : Option (At × List Prop) → Array Tmp
  | some (.mid (.rangeFunc _ ps _ _) _ _, _) => ps
  | _ => #[]
def rgA : Option (At × List Prop) → Code
  | some (.mid (.rangeFunc _ _ a _) _ _, _) => a
  | _ => default
def rgB : Option (At × List Prop) → Code
  | some (.mid (.rangeFunc _ _ _ b) _ _, _) => b
  | _ => default
def rgK : Option (At × List Prop) → List Fr
  | some (.mid (.rangeFunc _ _ _ _) K _, _) => K
  | _ => []
def rgQ (l0 : List (Nat × Ob)) (nx : Nat) (p : List (Nat × AVal) × List (Nat × Ob)) : Option (At × List Prop) → Option ((List (Nat × AVal) × List (Nat × Ob)) × List Prop)
  | some (.mid (.rangeFunc _ _ _ _) _ s, C) => match renSt l0 (idT p.2) (keysT p.1) nx s with
    | some p => some (p, C)
    | none => none
  | _ => none
def QA (n : Nat) (l : List (Nat × Ob)) (p : List (Nat × AVal) × List (Nat × Ob)) (nx : Nat) (e : Exit) (s : St) : Prop := e = .normal ∧ Le n l s (mkSt p nx)
def QB (n : Nat) (l : List (Nat × Ob)) (j : Option Code) (r : List (Nat × Ob)) (e : Exit) (s : St) : Prop := exitOf j = some e ∧ ∃ nx, Le n l s (mkSt ([], r) nx)
theorem QA_le {l : List (Nat × Ob)} {p : List (Nat × AVal) × List (Nat × Ob)} {nx : Nat} : LeClosed n l (QA n l p nx) := fun e s s' h k => ⟨k.1, h.trans k.2⟩
theorem QB_le {l r : List (Nat × Ob)} {j : Option Code} : LeClosed n l (QB n l j r) := fun e s s' h k => ⟨k.1, k.2.elim fun nx q => ⟨nx, h.trans q⟩⟩
/-- A round: the loop's variables are set ('asg'), then the body runs. -/
structure Rnd (P : Program) (n : Nat) (asg body : Code) (ps : List Nat) (xs : List Tree) (slB : List (Nat × AVal)) (nx : Nat) (r r' : List (Nat × Ob)) (j : Option Code) (p : List (Nat × AVal) × List (Nat × Ob)) (nxA : Nat) : Prop where
  fr : p.2.all (fun x => Nat.blt x.1 nxA) = true
  a : SimC P n r (QA n r p nxA) ⟨.run asg, [], mkSt (bindS ps xs slB, r) nx⟩
  b : SimC P n r (QB n r j r') ⟨.run body, [], mkSt p nxA⟩
theorem SimC.rng {c : Cfg} (sc : List It) {gf : FuncId} {caps : List AVal} {V : Type} (enc : V → List Tree) (d : V) (vl : List V) (R : Nat → List (Nat × Ob)) (C : List (Nat × Ob)) (J : Nat → Option Code) (m e nx : Nat) (sl : List (Nat × AVal)) (ts : List Nat) (pA : Nat → List (Nat × AVal) × List (Nat × Ob)) (nxA : Nat) {res : AVal}
    (hit : Iter P gf caps C e enc d vl J m res)
    (hbody : ∀ k, k < vl.length → J k = none → Rnd P n (rgA (runP P n sc c)) (rgB (runP P n sc c)) (rgP (runP P n sc c)).toList (enc (vl.getD k d)) (keepS sl ts) nx (R k) (R (k + 1)) (J (k + 1)) (pA k) nxA)
    (ex : Exit) (k : SimC P n l0 Q ⟨.out ex, rgK (runP P n sc c), mkSt (keepS sl ts, R m ++ C) nx⟩)
    (hl : ∀ k, (enc (vl.getD k d)).length = (rgP (runP P n sc c)).size)
    (hJ0 : J 0 = none := by rfl) (hids : ∀ k, (R k).map (·.1) = (R 0).map (·.1) := by intro _; rfl)
    (hg : ev sl (rgG (runP P n sc c)) = .fn gf caps := by kernel_rfl) (hex : exitOf (J m) = some ex := by rfl)
    (hside : (sideB (R 0) C e && subIds (idsL caps) C && okSlotsB sl (R 0) ts && (R 0).all (fun x => Nat.blt x.1 nx) && callable P gf && (rgP (runP P n sc c)).toList.all (fun p => Nat.blt p n)) = true := by kernel_rfl)
    (h : rgQ l0 nx (sl, R 0 ++ C) (runP P n sc c) = some ((sl, R 0 ++ C), csL sc) := by kernel_rfl) : SimC P n l0 Q c := by
  generalize hr : runP P n sc c = r at *
  simp only [Bool.and_eq_true] at hside
  obtain ⟨⟨⟨⟨⟨s1, s2⟩, s3⟩, s4⟩, s5⟩, s6⟩ := hside
  match r, h with
  | some (.mid (.rangeFunc g ps asg body) K s, C'), h =>
    simp only [rgQ] at h
    split at h
    · rename_i p hp
      simp only [Option.some.injEq, Prod.mk.injEq] at h
      obtain ⟨rfl, rfl⟩ := h
      refine run_sound hr (csL_all sc) (fun hm hQ => ?_)
      have hle : Le n l0 s (mkSt (sl, R 0 ++ C) nx) := Le.ren hp
      show Sim P n l0 (.rangeFunc g ps asg body) s (wrapK P n l0 K Q)
      refine Sim.weaken hle ?_
      have hlen : ∀ k, k ≤ vl.length → ((vl.take k).map enc).length = k := fun k hk => by simp [List.length_take, Nat.min_eq_left hk]
      have hR0 : (fun p : List (List Tree) => R p.length) [] = R 0 := rfl
      refine Sim.rng (R := fun p => R p.length) (J := fun p => J p.length) (A := fun pre xs => ∃ k, k < vl.length ∧ J k = none ∧ pre = (vl.take k).map enc ∧ xs = enc (vl.getD k d)) (C := C) (e := e) (vs := (vl.take m).map enc) (ex := ex) (slB := keepS sl ts) (nx := nx) (res := res) (gf := gf) (caps := caps)
        hg (fun Y h1 h2 h3 => hit.fc Y h1 (fun k hk hj => by rw [h2]; exact ⟨k, hk, hj, rfl, rfl⟩) h3) ?_ ?_ s5 hJ0 s1 (fun pre => hids _) s2 (okSlots_keep s3) s6 s4 (by rw [hlen m hit.le]; exact hex) ?_
      · rintro pre xs ⟨k, hk, hj, rfl, rfl⟩
        exact ⟨by rw [hlen k (by omega)]; exact hj, hl k⟩
      · rintro pre xs ⟨k, hk, hj, rfl, rfl⟩
        obtain ⟨b1, b2, b3⟩ := hbody k hk hj
        have e1 : ((vl.take k).map enc).length = k := hlen k (by omega)
        have e2 : ((vl.take k).map enc ++ [enc (vl.getD k d)]).length = k + 1 := by rw [List.length_append, e1]; rfl
        refine ⟨(pA k).1, (pA k).2, nxA, fun id hid => ?_, ?_, ?_⟩
        · refine app_emp_none (fun hm => ?_)
          obtain ⟨x, hx, rfl⟩ := List.mem_map.1 hm
          have := Nat.lt_of_succ_le (Nat.le_of_ble_eq_true (List.all_eq_true.1 b1 x hx))
          omega
        · have := b2.run hm QA_le
          simp only [e1]
          exact this
        · have := b3.run hm QB_le
          simp only [e1, e2]
          refine Sim.mono this (fun e2' s2 hq => ?_)
          obtain ⟨q1, nx2, q2⟩ := hq
          exact ⟨q1, nx2, q2⟩
      · have := k.run hm hQ
        rw [hlen m hit.le]
        exact this
    · cases h
def rbQ (τ : List (Nat × Nat)) (l0 : List (Nat × Ob)) (nx : Nat) : Option (At × List Prop) → Option (Exit × List (Nat × Ob) × List Prop)
  | some (.fin e s, C) => match renSt l0 τ [] nx s with
    | some (_, l) => some (e, l, C)
    | none => none
  | _ => none
/-- The end of a round's body. -/
theorem SimC.rend {c : Cfg} {j : Option Code} {r : List (Nat × Ob)} (sc : List It) (τ : List (Nat × Nat)) (ex : Exit) (l : List (Nat × Ob)) (he : exitOf j = some ex) (hl : l = r) (h : rbQ τ l0 (nxT τ) (runP P n sc c) = some (ex, l, csL sc) := by kernel_rfl) : SimC P n l0 (QB n l0 j r) c := by
  generalize hr : runP P n sc c = q at *
  subst hl
  match q, h with
  | some (.fin e s, C'), h =>
    simp only [rbQ] at h
    split at h
    · rename_i sl' l' hp
      simp only [Option.some.injEq, Prod.mk.injEq] at h
      obtain ⟨rfl, rfl, rfl⟩ := h
      refine run_sound hr (csL_all sc) (fun hm hQ => ?_)
      have hsl : sl' = [] := by
        unfold renSt at hp
        obtain ⟨-, hp⟩ := bif_some hp
        split at hp
        · rename_i hsl
          simp only [renSlots, Option.some.injEq] at hsl
          simp only [Option.some.injEq, Prod.mk.injEq] at hp
          rw [← hp.1, ← hsl]
        · cases hp
      subst hsl
      exact ⟨he, _, Le.ren hp⟩
    · cases h
def raQ (τ : List (Nat × Nat)) (l0 : List (Nat × Ob)) (p : List (Nat × AVal) × List (Nat × Ob)) (nx : Nat) : Option (At × List Prop) → Option ((List (Nat × AVal) × List (Nat × Ob)) × List Prop)
  | some (.fin .normal s, C) => match renSt l0 τ (keysT p.1) nx s with
    | some q => some (q, C)
    | none => none
  | _ => none
/-- The loop's variables are set. -/
theorem SimC.rass {c : Cfg} {p : List (Nat × AVal) × List (Nat × Ob)} {nx : Nat} (sc : List It) (τ : List (Nat × Nat)) (h : raQ τ l0 p nx (runP P n sc c) = some (p, csL sc) := by kernel_rfl) : SimC P n l0 (QA n l0 p nx) c := by
  generalize hr : runP P n sc c = q at *
  match q, h with
  | some (.fin .normal s, C'), h =>
    simp only [raQ] at h
    split at h
    · rename_i q' hp
      simp only [Option.some.injEq, Prod.mk.injEq] at h
      obtain ⟨rfl, rfl⟩ := h
      exact run_sound hr (csL_all sc) (fun hm hQ => ⟨rfl, Le.ren hp⟩)
    · cases h
/-- A function value that was handed in is called. -/
def Xy (P : Program) (Y : YSpec) (pre : List (List Tree)) (xs : List Tree) : Px (YCalls P Y ∧ Y.adm pre xs) := ⟨Orc.no, [YCalls P Y, Y.adm pre xs], fun h => ⟨h.1, h.2, trivial⟩⟩
/-- A bool that is known. -/
def Xbv (b b' : Bool) : Px (b = b') := ⟨oV (VB b'), [Weak (VB b) (VB b')], fun h => ⟨Weak.of_eq (by rw [h]), trivial⟩⟩
end Go.Ab
end
section
set_option linter.unusedVariables false
namespace Go.Ch
open Go Go.Ab

/-! ### Rectangles that hold a place -/
def inQ (q : Rect) (r c : Int) : Bool := decide (q.row ≤ r ∧ r - q.row < q.h ∧ q.col ≤ c ∧ c - q.col < q.w)
def covQ (l : List Rect) (r c : Int) (i : Nat) : Rect := if i < l.length then (if inQ (l.getD i default) r c = true then l.getD i default else covQ l r c (i + 1)) else ⟨r, c, 1, 1⟩
termination_by l.length - i
theorem merg_all {l : List Rect} {m n : Int} : ∀ (k i : Nat), l.length - i = k → mergE l m n i = 0 → ∀ j, i ≤ j → j < l.length → insB (l.getD j default) m n = true
  | 0, i, h, _ => fun j h1 h2 => by omega
  | k + 1, i, h, he => by
    have hi : i < l.length := by omega
    rw [mergE, if_pos hi] at he
    split at he
    · cases he
    rename_i h1
    split at he
    · cases he
    split at he
    · cases he
    split at he
    · cases he
    intro j q1 q2
    by_cases q : j = i
    · subst q; simpa using h1
    · exact merg_all k (i + 1) (by omega) he j (by omega) q2
theorem cells_all {l : List Cell} {m n : Int} {o : Bool} : ∀ (k i : Nat), l.length - i = k → cellsE l m n o i = 0 → ∀ j, i ≤ j → j < l.length → (0 ≤ (l.getD j default).row ∧ (l.getD j default).row < m) ∧ 0 ≤ (l.getD j default).col ∧ (l.getD j default).col < n
  | 0, i, h, _ => fun j h1 h2 => by omega
  | k + 1, i, h, he => by
    have hi : i < l.length := by omega
    rw [cellsE, if_pos hi] at he
    split at he
    · rename_i q; exact absurd he q
    rename_i h1
    split at he
    · cases he
    intro j q1 q2
    by_cases q : j = i
    · subst q
      have h2 : cellE (l.getD j default) m n o = 0 := Classical.byContradiction h1
      unfold cellE at h2
      split at h2
      · cases h2
      · omega
    · exact cells_all k (i + 1) (by omega) he j (by omega) q2
/-- Numbers in the grid of a valid node. -/
theorem grid_of {n : Node} (h : nodeE n = 0) : AllRB n.grid.merges ∧ ∀ c ∈ n.grid.cells, (0 ≤ c.row ∧ c.row ≤ 2147483647) ∧ 0 ≤ c.col ∧ c.col ≤ 2147483647 := by
  have key : gridE n.grid = 0 → AllRB n.grid.merges ∧ ∀ c ∈ n.grid.cells, (0 ≤ c.row ∧ c.row ≤ 2147483647) ∧ 0 ≤ c.col ∧ c.col ≤ 2147483647 := by
    intro hg
    unfold gridE at hg
    split at hg
    · cases hg
    rename_i h1
    split at hg
    · rename_i q; exact absurd hg q
    rename_i h2
    refine ⟨fun q hq => ?_, fun c hc => ?_⟩
    · obtain ⟨k, hk, rfl⟩ := List.mem_iff_getElem.1 hq
      have := merg_all _ 0 rfl hg k (Nat.zero_le _) hk
      rw [List.getD_eq_getElem?_getD, List.getElem?_eq_getElem hk] at this
      exact RB_ins this (by omega) (by omega)
    · obtain ⟨k, hk, rfl⟩ := List.mem_iff_getElem.1 hc
      have := cells_all _ 0 rfl (Classical.byContradiction h2) k (Nat.zero_le _) hk
      rw [List.getD_eq_getElem?_getD, List.getElem?_eq_getElem hk] at this
      simp only [Option.getD_some] at this
      omega
  unfold nodeE at h
  split at h
  · cases h
  split at h
  · cases h
  split at h
  · rename_i q; exact absurd h q
  split at h
  · cases h
  rename_i q1
  have hz : hasG n.kind = false → AllRB n.grid.merges ∧ ∀ c ∈ n.grid.cells, (0 ≤ c.row ∧ c.row ≤ 2147483647) ∧ 0 ≤ c.col ∧ c.col ≤ 2147483647 := by
    intro hg
    have z : zeroG n.grid = true := by
      cases hq : zeroG n.grid
      · exact absurd (.inr (.inl ⟨hq, hg⟩)) q1
      · rfl
    unfold zeroG at z
    simp only [Bool.and_eq_true, beq_iff_eq] at z
    have e1 : n.grid.cells = [] := List.eq_nil_of_length_eq_zero (by omega)
    have e2 : n.grid.merges = [] := List.eq_nil_of_length_eq_zero (by omega)
    rw [e1, e2]
    exact ⟨fun q hq => (by cases hq), fun c hc => (by cases hc)⟩
  split at h
  · rename_i q2
    refine hz ?_
    cases hg : hasG n.kind
    · rfl
    · exfalso
      unfold hasG at hg
      unfold hasT hasL at q2
      simp only [Bool.or_eq_true, beq_iff_eq] at hg q2
      omega
  split at h
  · rename_i q2
    split at h
    · rename_i q; exact absurd h q
    · rename_i q; exact key (Classical.byContradiction q)
  · rename_i q2
    exact hz (by simpa using q2)

/-! ### Valid documents -/
structure DocV (d : Doc) : Prop where
  b : DocB d
  e : docE d = 0
theorem DocV.nodes {d : Doc} (h : DocV d) : nodesE d.nodes 0 = 0 ∧ allRefsE d.nodes 0 = 0 ∧ d.nodes.length ≠ 0 := by
  have := h.e
  unfold docE at this
  split at this
  · cases this
  · rename_i h1
    split at this
    · rename_i q; exact absurd this q
    · rename_i q; exact ⟨Classical.byContradiction q, this, h1⟩
theorem DocV.srt {d : Doc} (h : DocV d) : SortN d.nodes := sort_of h.nodes.1
theorem DocV.node {d : Doc} (h : DocV d) {n : Node} (hn : n ∈ d.nodes) : nodeE n = 0 := by
  obtain ⟨k, hk, rfl⟩ := List.mem_iff_getElem.1 hn
  have := (nodesE_all _ 0 rfl h.nodes.1).1 k (Nat.zero_le _) hk
  rwa [List.getD_eq_getElem?_getD, List.getElem?_eq_getElem hk] at this
def nodeOf (l : List Node) (k : Int) : Node := l.getD (lobN l k) default
theorem nodeOf_mem {l : List Node} {k : Int} (h : hasN l k = true) : nodeOf l k ∈ l ∧ (nodeOf l k).id = k := ⟨getDX_mem (hasN_iff.1 h).1, (hasN_iff.1 h).2⟩
theorem refsE_all {l : List Node} {k : Int} {rs : List Int} (hs : SortN l) : ∀ (n i : Nat), rs.length - i = n → refsE l k rs i = 0 → ∀ j, i ≤ j → j < rs.length → hasN l (rs.getD j default) = true
  | 0, i, h, _ => fun j h1 h2 => by omega
  | n + 1, i, h, he => by
    have hi : i < rs.length := by omega
    rw [refsE, if_pos hi] at he
    split at he
    · cases he
    rename_i h1
    split at he
    · cases he
    intro j q1 q2
    by_cases q : j = i
    · subst q
      cases hh : hasN l (rs.getD j default)
      · exact absurd (find_no hs hh) h1
      · rfl
    · exact refsE_all hs n (i + 1) (by omega) he j (by omega) q2
theorem allR_all {l : List Node} : ∀ (n i : Nat), l.length - i = n → allRefsE l i = 0 → ∀ j, i ≤ j → j < l.length → refsE l (l.getD j default).kind (refsN (l.getD j default)) 0 = 0
  | 0, i, h, _ => fun j h1 h2 => by omega
  | n + 1, i, h, he => by
    have hi : i < l.length := by omega
    rw [allRefsE, if_pos hi] at he
    split at he
    · rename_i q; exact absurd he q
    rename_i h1
    intro j q1 q2
    by_cases q : j = i
    · subst q; exact Classical.byContradiction h1
    · exact allR_all n (i + 1) (by omega) he j (by omega) q2
theorem DocV.ref {d : Doc} (h : DocV d) {n : Node} (hn : n ∈ d.nodes) {r : Int} (hr : r ∈ refsN n) : hasN d.nodes r = true := by
  obtain ⟨k, hk, rfl⟩ := List.mem_iff_getElem.1 hn
  have h1 := allR_all _ 0 rfl h.nodes.2.1 k (Nat.zero_le _) hk
  rw [List.getD_eq_getElem?_getD, List.getElem?_eq_getElem hk] at h1
  simp only [Option.getD_some] at h1
  obtain ⟨j, hj, rfl⟩ := List.mem_iff_getElem.1 hr
  have := refsE_all h.srt _ 0 rfl h1 j (Nat.zero_le _) hj
  rwa [List.getD_eq_getElem?_getD, List.getElem?_eq_getElem hj] at this
theorem items_has {l : List Node} {n : Node} {r : Int} (h : r ∈ itemsD l n) : hasN l r = true := by
  unfold itemsD at h
  obtain ⟨x, _, hx⟩ := List.mem_filterMap.1 h
  unfold itemD at hx
  obtain ⟨v, _, hv⟩ := Option.bind_eq_some_iff.1 hx
  split at hv
  · rename_i q; cases hv; exact q.1
  · cases hv
theorem DocV.one {d : Doc} (h : DocV d) : hasN d.nodes 1 = true := by
  have h1 := (nodesE_all _ 0 rfl h.nodes.1).2 0 (Nat.zero_le _) (by have := h.nodes.2.2; omega)
  have h2 := h1.1 rfl
  have h3 := lobN_ge (l := d.nodes) (k := 1) (m := 0) (by omega)
  exact hasN_iff.2 ⟨by have := h.nodes.2.2; omega, by rw [show lobN d.nodes 1 = 0 by omega]; exact h2⟩

/-! ### Visits -/
structure Vis where
  id : Int
  parent : Int
  vis : Bool
instance : Inhabited Vis := ⟨⟨0, 0, false⟩⟩
def visT (v : Vis) : Tree := .agg [TI v.id, TI v.parent, TB v.vis]
def enc1 (v : Vis) : List Tree := [visT v]
def kidR (v : Vis) (k : Int) : Vis := ⟨k, v.id, v.vis⟩
def visC (g : Grid) (b : Bool) (c : Cell) : Bool := (b && (covQ g.merges c.row c.col 0).row == c.row) && (covQ g.merges c.row c.col 0).col == c.col
def kidC (g : Grid) (v : Vis) (c : Cell) : List Vis := if c.ref ≠ 0 then [⟨c.ref, v.id, visC g v.vis c⟩] else []
def kidsV (l : List Node) (v : Vis) : List Vis := (refsF (nodeOf l v.id).flow).map (kidR v) ++ (nodeOf l v.id).grid.cells.flatMap (kidC (nodeOf l v.id).grid v) ++ (itemsD l (nodeOf l v.id)).map (kidR v)
def idsV9 (l : List Vis) : List Int := l.map Vis.id
def walkL (f : List Int → Vis → List Vis) : List Int → List Vis → List Vis
  | _, [] => []
  | S, k :: ks => f S k ++ walkL f (S ++ idsV9 (f S k)) ks
/-- The visits that a call makes, where S are the nodes that were met. -/
def walkV (l : List Node) : Nat → List Int → Vis → List Vis
  | 0, _, _ => []
  | n + 1, S, v => if v.id ∈ S then [] else v :: walkL (walkV l n) (S ++ [v.id]) (kidsV l v)
theorem idsV9_app (a b : List Vis) : idsV9 (a ++ b) = idsV9 a ++ idsV9 b := List.map_append
theorem walkL_app (f : List Int → Vis → List Vis) : ∀ (S : List Int) (a b : List Vis), walkL f S (a ++ b) = walkL f S a ++ walkL f (S ++ idsV9 (walkL f S a)) b
  | S, [], b => by simp [walkL, idsV9]
  | S, k :: a, b => by rw [List.cons_append, walkL, walkL, walkL_app f _ a b, idsV9_app, List.append_assoc, List.append_assoc]
theorem walkL_one (f : List Int → Vis → List Vis) (S : List Int) (k : Vis) : walkL f S [k] = f S k := by simp [walkL]

/-! ### With a function that may stop -/
/-- The calls that are made of those that are meant. -/
def stopY (g : List (List Tree) → Bool) : List (List Tree) → List Vis → List Vis
  | _, [] => []
  | pre, x :: l => x :: (if g (pre ++ [enc1 x]) = true then stopY g (pre ++ [enc1 x]) l else [])
/-- Whether it goes on to the end. -/
def contY (g : List (List Tree) → Bool) : List (List Tree) → List Vis → Bool
  | _, [] => true
  | pre, x :: l => if g (pre ++ [enc1 x]) = true then contY g (pre ++ [enc1 x]) l else false
/-- What is called with may be called with. -/
def AdmY (Y : YSpec) : List (List Tree) → List Vis → Prop
  | _, [] => True
  | pre, x :: l => Y.adm pre (enc1 x) ∧ (Y.goes (pre ++ [enc1 x]) = true → AdmY Y (pre ++ [enc1 x]) l)
theorem snoc_map (pre : List (List Tree)) (x : Vis) (a : List Vis) : pre ++ [enc1 x] ++ a.map enc1 = pre ++ (x :: a).map enc1 := by simp
theorem stop_go {g : List (List Tree) → Bool} : ∀ {pre : List (List Tree)} {a b : List Vis}, contY g pre a = true → stopY g pre (a ++ b) = a ++ stopY g (pre ++ a.map enc1) b ∧ contY g pre (a ++ b) = contY g (pre ++ a.map enc1) b
  | pre, [], b, _ => by simp
  | pre, x :: a, b, h => by
    rw [contY] at h
    split at h
    · rename_i hg
      obtain ⟨h1, h2⟩ := stop_go (b := b) h
      rw [snoc_map] at h1 h2
      rw [List.cons_append, stopY, contY, if_pos hg, if_pos hg, h1, h2]
      exact ⟨rfl, rfl⟩
    · cases h
theorem stop_end {g : List (List Tree) → Bool} : ∀ {pre : List (List Tree)} {a b : List Vis}, contY g pre a = false → stopY g pre (a ++ b) = stopY g pre a ∧ contY g pre (a ++ b) = false
  | pre, [], b, h => by simp [contY] at h
  | pre, x :: a, b, h => by
    rw [contY] at h
    split at h
    · rename_i hg
      obtain ⟨h1, h2⟩ := stop_end (b := b) h
      rw [List.cons_append, stopY, stopY, contY, if_pos hg, if_pos hg, if_pos hg, h1, h2]
      exact ⟨rfl, rfl⟩
    · rename_i hg
      rw [List.cons_append, stopY, stopY, contY, if_neg hg, if_neg hg, if_neg hg]
      exact ⟨rfl, rfl⟩
theorem stop_all {g : List (List Tree) → Bool} {pre : List (List Tree)} {a : List Vis} (h : contY g pre a = true) : stopY g pre a = a := by
  have := (stop_go (b := []) h).1
  simpa [stopY] using this
theorem adm_app {Y : YSpec} : ∀ {pre : List (List Tree)} {a b : List Vis}, AdmY Y pre (a ++ b) → AdmY Y pre a ∧ (contY Y.goes pre a = true → AdmY Y (pre ++ a.map enc1) b)
  | pre, [], b, h => ⟨trivial, fun _ => by simpa using h⟩
  | pre, x :: a, b, h => by
    obtain ⟨h1, h2⟩ := h
    refine ⟨⟨h1, fun hg => (adm_app (h2 hg)).1⟩, fun hc => ?_⟩
    rw [contY] at hc
    split at hc
    · rename_i hg
      have := (adm_app (h2 hg)).2 hc
      rwa [snoc_map] at this
    · cases hc

/-! ### The number of nodes that were not met -/
def muS (l : List Node) (S : List Int) : Nat := (l.filter fun n => decide (n.id ∉ S)).length
theorem muS_le {l : List Node} {S S' : List Int} (h : ∀ k ∈ S, k ∈ S') : muS l S' ≤ muS l S := by
  unfold muS
  induction l with
  | nil => exact Nat.le_refl _
  | cons n l ih =>
    rw [List.filter_cons, List.filter_cons]
    by_cases q : n.id ∈ S
    · rw [if_neg (by simp [h _ q]), if_neg (by simp [q])]; exact ih
    · rw [if_pos (show decide (n.id ∉ S) = true by simp [q])]
      split
      · simp only [List.length_cons]; omega
      · simp only [List.length_cons]; omega
theorem muS_lt {l : List Node} {S : List Int} {k : Int} (hk : hasN l k = true) (h : k ∉ S) : muS l (S ++ [k]) < muS l S := by
  obtain ⟨hm, hid⟩ := nodeOf_mem hk
  generalize nodeOf l k = m at *
  unfold muS
  induction l with
  | nil => cases hm
  | cons n l ih =>
    have hle : (l.filter fun n => decide (n.id ∉ S ++ [k])).length ≤ (l.filter fun n => decide (n.id ∉ S)).length := muS_le (l := l) (S := S) (S' := S ++ [k]) (fun x hx => List.mem_append_left _ hx)
    rw [List.filter_cons, List.filter_cons]
    by_cases q : n.id = k
    · rw [if_neg (by simp [q]), if_pos (by simp [q, h])]
      simp only [List.length_cons]; omega
    · have hm' : m ∈ l := by
        rcases List.mem_cons.1 hm with rfl | hm
        · exact absurd hid q
        · exact hm
      have hi : (l.filter fun n => decide (n.id ∉ S ++ [k])).length < (l.filter fun n => decide (n.id ∉ S)).length := by
        clear ih hm q hk
        induction l with
        | nil => cases hm'
        | cons n' l ih2 =>
          have hle2 : (l.filter fun n => decide (n.id ∉ S ++ [k])).length ≤ (l.filter fun n => decide (n.id ∉ S)).length := muS_le (l := l) (S := S) (S' := S ++ [k]) (fun x hx => List.mem_append_left _ hx)
          rw [List.filter_cons, List.filter_cons]
          by_cases q : n'.id = k
          · rw [if_neg (by simp [q]), if_pos (by simp [q, h])]
            simp only [List.length_cons]; omega
          · have hm2 : m ∈ l := by
              rcases List.mem_cons.1 hm' with rfl | hm'
              · exact absurd hid q
              · exact hm'
            have := ih2 hle2 hm2
            by_cases q2 : n'.id ∈ S
            · rw [if_neg (by simp [q2]), if_neg (by simp [q2])]; exact this
            · rw [if_pos (by simp [q, q2]), if_pos (by simp [q2])]
              simp only [List.length_cons]; omega
      by_cases q2 : n.id ∈ S
      · rw [if_neg (by simp [q2]), if_neg (by simp [q2])]; exact hi
      · rw [if_pos (by simp [q, q2]), if_pos (by simp [q2])]
        simp only [List.length_cons]; omega
end Go.Ch
end
section
set_option linter.unusedVariables false
namespace Go.Ch
open Go Go.Ab

def endS (g : List (List Tree) → Bool) (S : List Int) (pre : List (List Tree)) (W : List Vis) : List Int := S ++ idsV9 (stopY g pre W)
def endP (g : List (List Tree) → Bool) (pre : List (List Tree)) (W : List Vis) : List (List Tree) := pre ++ (stopY g pre W).map enc1
structure WOk (d : Doc) (Y : YSpec) (n : Nat) (S : List Int) (pre : List (List Tree)) (v : Vis) : Prop where
  has : hasN d.nodes v.id = true
  mu : muS d.nodes S < n
  adm : AdmY Y pre (walkV d.nodes n S v)
variable {d : Doc} {Y : YSpec} {n : Nat} {S0 S : List Int} {pre0 pre : List (List Tree)} {v : Vis} {X R : List Vis} {k : Vis}
/-- What was done for the kids X of v. -/
structure KI (d : Doc) (Y : YSpec) (n : Nat) (S0 : List Int) (pre0 : List (List Tree)) (v : Vis) (X : List Vis) (S : List Int) (pre : List (List Tree)) : Prop where
  s : S = S0 ++ idsV9 (v :: walkL (walkV d.nodes n) (S0 ++ [v.id]) X)
  p : pre = pre0 ++ (v :: walkL (walkV d.nodes n) (S0 ++ [v.id]) X).map enc1
  go : contY Y.goes pre0 (v :: walkL (walkV d.nodes n) (S0 ++ [v.id]) X) = true
theorem walkV_in (h : v.id ∈ S0) : walkV d.nodes (n + 1) S0 v = [] := by rw [walkV, if_pos h]
theorem walkV_new (h : v.id ∉ S0) : walkV d.nodes (n + 1) S0 v = v :: walkL (walkV d.nodes n) (S0 ++ [v.id]) (kidsV d.nodes v) := by rw [walkV, if_neg h]
theorem WOk.adm0 (h : WOk d Y (n + 1) S0 pre0 v) (hv : v.id ∉ S0) : Y.adm pre0 [visT v] := by
  have := h.adm
  rw [walkV_new hv] at this
  exact this.1
theorem KI.start (hg : Y.goes (pre0 ++ [[visT v]]) = true) : KI d Y n S0 pre0 v [] (S0 ++ [v.id]) (pre0 ++ [[visT v]]) :=
  ⟨by simp [walkL, idsV9], by simp [walkL, enc1], by rw [walkL, contY, if_pos (show Y.goes (pre0 ++ [enc1 v]) = true from hg)]; rfl⟩
theorem walkL_kid (S : List Int) (X R : List Vis) (k : Vis) : walkL (walkV d.nodes n) S (X ++ k :: R) = walkL (walkV d.nodes n) S X ++ (walkV d.nodes n (S ++ idsV9 (walkL (walkV d.nodes n) S X)) k ++ walkL (walkV d.nodes n) (S ++ idsV9 (walkL (walkV d.nodes n) S X) ++ idsV9 (walkV d.nodes n (S ++ idsV9 (walkL (walkV d.nodes n) S X)) k)) R) := by
  rw [walkL_app, walkL]
theorem KI.sEq (h : KI d Y n S0 pre0 v X S pre) : S = S0 ++ [v.id] ++ idsV9 (walkL (walkV d.nodes n) (S0 ++ [v.id]) X) := by rw [h.s]; simp [idsV9]
theorem KI.call (h : KI d Y n S0 pre0 v X S pre) (hw : WOk d Y (n + 1) S0 pre0 v) (hv : v.id ∉ S0) (hk : kidsV d.nodes v = X ++ k :: R) (hh : hasN d.nodes k.id = true) : WOk d Y n S pre k := by
  refine ⟨hh, ?_, ?_⟩
  · have h1 := muS_lt hw.has hv
    have h2 : muS d.nodes S ≤ muS d.nodes (S0 ++ [v.id]) := muS_le (fun x hx => by rw [h.sEq]; exact List.mem_append_left _ hx)
    have := hw.mu
    omega
  · have ha := hw.adm
    rw [walkV_new hv, hk, walkL_kid, ← h.sEq, ← List.cons_append] at ha
    have h1 := (adm_app ha).2 h.go
    rw [← h.p] at h1
    exact (adm_app h1).1
theorem KI.next (h : KI d Y n S0 pre0 v X S pre) (hc : contY Y.goes pre (walkV d.nodes n S k) = true) : KI d Y n S0 pre0 v (X ++ [k]) (endS Y.goes S pre (walkV d.nodes n S k)) (endP Y.goes pre (walkV d.nodes n S k)) := by
  have e : walkL (walkV d.nodes n) (S0 ++ [v.id]) (X ++ [k]) = walkL (walkV d.nodes n) (S0 ++ [v.id]) X ++ walkV d.nodes n S k := by
    rw [walkL_app, walkL_one, ← h.sEq]
  refine ⟨?_, ?_, ?_⟩
  · unfold endS
    rw [stop_all hc, e, ← List.cons_append, idsV9_app, ← List.append_assoc, ← h.s]
  · unfold endP
    rw [stop_all hc, e, ← List.cons_append, List.map_append, ← List.append_assoc, ← h.p]
  · rw [e, ← List.cons_append, (stop_go h.go).2, ← h.p]; exact hc
theorem KI.stop (h : KI d Y n S0 pre0 v X S pre) (hv : v.id ∉ S0) (hk : kidsV d.nodes v = X ++ k :: R) (hc : contY Y.goes pre (walkV d.nodes n S k) = false) :
    contY Y.goes pre0 (walkV d.nodes (n + 1) S0 v) = false ∧ endS Y.goes S0 pre0 (walkV d.nodes (n + 1) S0 v) = endS Y.goes S pre (walkV d.nodes n S k) ∧ endP Y.goes pre0 (walkV d.nodes (n + 1) S0 v) = endP Y.goes pre (walkV d.nodes n S k) := by
  rw [walkV_new hv, hk, walkL_kid, ← h.sEq, ← List.cons_append]
  unfold endS endP
  obtain ⟨h1, h2⟩ := stop_go (b := walkV d.nodes n S k ++ walkL (walkV d.nodes n) (S ++ idsV9 (walkV d.nodes n S k)) R) h.go
  rw [← h.p] at h1 h2
  obtain ⟨h3, h4⟩ := stop_end (b := walkL (walkV d.nodes n) (S ++ idsV9 (walkV d.nodes n S k)) R) hc
  refine ⟨h2.trans h4, ?_, ?_⟩
  · rw [h1, h3, idsV9_app, ← List.append_assoc, ← h.s]
  · rw [h1, h3, List.map_append, ← List.append_assoc, ← h.p]
theorem KI.done (h : KI d Y n S0 pre0 v X S pre) (hv : v.id ∉ S0) (hk : kidsV d.nodes v = X) :
    contY Y.goes pre0 (walkV d.nodes (n + 1) S0 v) = true ∧ endS Y.goes S0 pre0 (walkV d.nodes (n + 1) S0 v) = S ∧ endP Y.goes pre0 (walkV d.nodes (n + 1) S0 v) = pre := by
  rw [walkV_new hv, hk]
  unfold endS endP
  rw [stop_all h.go]
  exact ⟨h.go, h.s.symm, h.p.symm⟩
theorem stop_first (hv : v.id ∉ S0) (hg : Y.goes (pre0 ++ [[visT v]]) = false) :
    contY Y.goes pre0 (walkV d.nodes (n + 1) S0 v) = false ∧ endS Y.goes S0 pre0 (walkV d.nodes (n + 1) S0 v) = S0 ++ [v.id] ∧ endP Y.goes pre0 (walkV d.nodes (n + 1) S0 v) = pre0 ++ [[visT v]] := by
  rw [walkV_new hv]
  unfold endS endP
  have hg' : ¬ Y.goes (pre0 ++ [enc1 v]) = true := by rw [show enc1 v = [visT v] from rfl, hg]; decide
  rw [contY, stopY, if_neg hg', if_neg hg']
  exact ⟨rfl, rfl, rfl⟩
theorem end_in (hv : v.id ∈ S0) : contY Y.goes pre0 (walkV d.nodes (n + 1) S0 v) = true ∧ endS Y.goes S0 pre0 (walkV d.nodes (n + 1) S0 v) = S0 ∧ endP Y.goes pre0 (walkV d.nodes (n + 1) S0 v) = pre0 := by
  rw [walkV_in hv]
  unfold endS endP
  simp [stopY, contY, idsV9]
theorem putS_new {S : List Int} {k : Int} (h : k ∉ S) : putE (S.map onM) k (.im (TB true)) = (S ++ [k]).map onM := by
  rw [putS]
  congr 1
  induction S with
  | nil => rfl
  | cons x S ih =>
    rw [putK, if_neg (fun e => h (by rw [show k = x from e]; exact List.mem_cons_self)), ih (fun q => h (List.mem_cons_of_mem _ q))]
    rfl

/-! ### The kids of a node, one by one -/
theorem kids_has (hV : DocV d) (hk : hasN d.nodes v.id = true) {x : Vis} (hx : x ∈ kidsV d.nodes v) : hasN d.nodes x.id = true := by
  obtain ⟨hm, hid⟩ := nodeOf_mem hk
  unfold kidsV at hx
  rcases List.mem_append.1 hx with hx | hx
  · rcases List.mem_append.1 hx with hx | hx
    · obtain ⟨r, hr, rfl⟩ := List.mem_map.1 hx
      exact hV.ref hm (List.mem_append_left _ hr)
    · obtain ⟨c, hc, hx⟩ := List.mem_flatMap.1 hx
      unfold kidC at hx
      split at hx
      · rename_i q
        rw [List.mem_singleton.1 hx]
        exact hV.ref hm (List.mem_append_right _ (List.mem_filterMap.2 ⟨c, hc, if_pos q⟩))
      · cases hx
  · obtain ⟨r, hr, rfl⟩ := List.mem_map.1 hx
    exact items_has hr
theorem split_at {α : Type} [Inhabited α] {l : List α} {i : Nat} (h : i < l.length) : l = l.take i ++ l.getD i default :: l.drop (i + 1) := by
  have e : l.getD i default = l[i] := by rw [List.getD_eq_getElem?_getD, List.getElem?_eq_getElem h]; rfl
  rw [e, ← List.drop_eq_getElem_cons h, List.take_append_drop]
theorem takeD {α : Type} [Inhabited α] {l : List α} {i : Nat} (h : i < l.length) : l.take (i + 1) = l.take i ++ [l.getD i default] := by
  have e : l.getD i default = l[i] := by rw [List.getD_eq_getElem?_getD, List.getElem?_eq_getElem h]; rfl
  rw [List.take_succ_eq_append_getElem h, e]
def kidA (d : Doc) (v : Vis) (i : Nat) : List Vis := ((refsF (d.nodes.getD (lobN d.nodes v.id) default).flow).take i).map (kidR v)
def kidB (d : Doc) (v : Vis) (j : Nat) : List Vis := (refsF (d.nodes.getD (lobN d.nodes v.id) default).flow).map (kidR v) ++ ((d.nodes.getD (lobN d.nodes v.id) default).grid.cells.take j).flatMap (kidC (d.nodes.getD (lobN d.nodes v.id) default).grid v)
def kidI (d : Doc) (v : Vis) (i : Nat) : List Vis := (refsF (d.nodes.getD (lobN d.nodes v.id) default).flow).map (kidR v) ++ (d.nodes.getD (lobN d.nodes v.id) default).grid.cells.flatMap (kidC (d.nodes.getD (lobN d.nodes v.id) default).grid v) ++ ((itemsD d.nodes (d.nodes.getD (lobN d.nodes v.id) default)).take i).map (kidR v)
theorem kidA_at {i : Nat} (h : i < (refsF (d.nodes.getD (lobN d.nodes v.id) default).flow).length) : (∃ R, kidsV d.nodes v = kidA d v i ++ kidR v ((refsF (d.nodes.getD (lobN d.nodes v.id) default).flow).getD i default) :: R) ∧ kidA d v (i + 1) = kidA d v i ++ [kidR v ((refsF (d.nodes.getD (lobN d.nodes v.id) default).flow).getD i default)] := by
  refine ⟨⟨((refsF (d.nodes.getD (lobN d.nodes v.id) default).flow).drop (i + 1)).map (kidR v) ++ ((d.nodes.getD (lobN d.nodes v.id) default).grid.cells.flatMap (kidC (d.nodes.getD (lobN d.nodes v.id) default).grid v) ++ (itemsD d.nodes (d.nodes.getD (lobN d.nodes v.id) default)).map (kidR v)), ?_⟩, ?_⟩
  · have := split_at h
    unfold kidsV kidA
    conv => lhs; arg 1; arg 1; arg 2; rw [show nodeOf d.nodes v.id = (d.nodes.getD (lobN d.nodes v.id) default) from rfl, this]
    simp [nodeOf]
  · unfold kidA; rw [takeD h, List.map_append]; rfl
theorem kidB_zero : kidB d v 0 = kidA d v (refsF (d.nodes.getD (lobN d.nodes v.id) default).flow).length := by unfold kidA kidB; simp
theorem kidB_at {j : Nat} (h : j < (d.nodes.getD (lobN d.nodes v.id) default).grid.cells.length) : kidB d v (j + 1) = kidB d v j ++ kidC (d.nodes.getD (lobN d.nodes v.id) default).grid v ((d.nodes.getD (lobN d.nodes v.id) default).grid.cells.getD j default) ∧ ∃ R, kidsV d.nodes v = kidB d v j ++ kidC (d.nodes.getD (lobN d.nodes v.id) default).grid v ((d.nodes.getD (lobN d.nodes v.id) default).grid.cells.getD j default) ++ R := by
  refine ⟨by unfold kidB; rw [takeD h, List.flatMap_append]; simp, ⟨((d.nodes.getD (lobN d.nodes v.id) default).grid.cells.drop (j + 1)).flatMap (kidC (d.nodes.getD (lobN d.nodes v.id) default).grid v) ++ (itemsD d.nodes (d.nodes.getD (lobN d.nodes v.id) default)).map (kidR v), ?_⟩⟩
  have := split_at h
  unfold kidsV kidB
  conv => lhs; arg 1; arg 2; rw [show nodeOf d.nodes v.id = (d.nodes.getD (lobN d.nodes v.id) default) from rfl, this]
  simp [nodeOf]
theorem kidI_zero : kidI d v 0 = kidB d v (d.nodes.getD (lobN d.nodes v.id) default).grid.cells.length := by unfold kidI kidB; simp
theorem kidI_at {i : Nat} (h : i < (itemsD d.nodes (d.nodes.getD (lobN d.nodes v.id) default)).length) : (∃ R, kidsV d.nodes v = kidI d v i ++ kidR v ((itemsD d.nodes (d.nodes.getD (lobN d.nodes v.id) default)).getD i default) :: R) ∧ kidI d v (i + 1) = kidI d v i ++ [kidR v ((itemsD d.nodes (d.nodes.getD (lobN d.nodes v.id) default)).getD i default)] := by
  refine ⟨⟨((itemsD d.nodes (d.nodes.getD (lobN d.nodes v.id) default)).drop (i + 1)).map (kidR v), ?_⟩, ?_⟩
  · have := split_at h
    unfold kidsV kidI
    conv => lhs; arg 2; arg 2; rw [show nodeOf d.nodes v.id = (d.nodes.getD (lobN d.nodes v.id) default) from rfl, this]
    simp [nodeOf]
  · unfold kidI; rw [takeD h, List.map_append, ← List.append_assoc]; rfl
theorem kidI_end : kidsV d.nodes v = kidI d v (itemsD d.nodes (d.nodes.getD (lobN d.nodes v.id) default)).length := by unfold kidI kidsV; simp [nodeOf]
end Go.Ch
end
section
set_option linter.unusedVariables false
set_option linter.unusedSimpArgs false
set_option maxRecDepth 100000
set_option maxHeartbeats 4000000
open Go Go.Proofs Go.Ab
namespace Go.Ch
theorem fc_cover (x : Grid) (m n : Int) (hb : -1000000000000 ≤ m ∧ m ≤ 1000000000000 ∧ -1000000000000 ≤ n ∧ n ≤ 1000000000000) (hl : x.merges.length ≤ 100000000000) (hr : AllRB x.merges) : FC Tryz.prog 78 [.t (gridT x), VI m, VI n] (app emp []) (.t (rectT (covQ x.merges m n 0))) (app emp []) := by
 refine .go Tryz.f78 ?_
 refine .loop (α := Nat) [.r [], .r [], .r [(2, X (Xl rectT x.merges))]] 88 (fun i => ([(1, VI m), (2, VI n), (6, .ptr 8 0), (7, .ptr 40 0), (14, VL 4 rectT x.merges), (15, VI (x.merges.length : Int)), (16, VI (i : Int))], [(8, .box [VI 0, VI 0, VI 0, VI 0]), (40, .box [VI m, VI n, VI 1, VI 1])])) (fun i => i ≤ x.merges.length ∧ covQ x.merges m n 0 = covQ x.merges m n i) (fun i => x.merges.length - i) (0 : Nat) ?_ ?_
 ·
  exact ⟨by omega, rfl⟩
 rintro i I3 ih3
 try dsimp only at I3
 refine .bp [.r []] (decide ((i : Int) < (x.merges.length : Int))) (fun h3 => ?_) (fun h3 => ?_)
 ·
  have hm := hr _ (getDX_mem (l := x.merges) (i := i) (by omega))
  unfold RB at hm
  refine .bp [.r [(0, X (Xi rectT x.merges (i : Int)))], .r [(7, Xv 1 (decide (m ≥ (((x.merges.getD i default)).row))) X0), (8, Xv 2 (decide (m ≥ (((x.merges.getD i default)).row))) (Xn (m - (((x.merges.getD i default)).row)))), (10, Xv 1 (decide (m ≥ (((x.merges.getD i default)).row))) X0), (11, Xv 2 (decide (m ≥ (((x.merges.getD i default)).row))) X0), (12, X (Xk (decide (m ≥ (((x.merges.getD i default)).row))))), (16, Xv 1 (decide (m ≥ (((x.merges.getD i default)).row)) && decide ((m - (((x.merges.getD i default)).row)) < (((x.merges.getD i default)).h))) X0), (17, Xv 2 (decide (m ≥ (((x.merges.getD i default)).row)) && decide ((m - (((x.merges.getD i default)).row)) < (((x.merges.getD i default)).h))) X0), (18, X (Xk (decide (m ≥ (((x.merges.getD i default)).row)) && decide ((m - (((x.merges.getD i default)).row)) < (((x.merges.getD i default)).h))))), (22, Xv 1 ((decide (m ≥ (((x.merges.getD i default)).row)) && decide ((m - (((x.merges.getD i default)).row)) < (((x.merges.getD i default)).h))) && decide (n ≥ (((x.merges.getD i default)).col))) X0), (23, Xv 2 ((decide (m ≥ (((x.merges.getD i default)).row)) && decide ((m - (((x.merges.getD i default)).row)) < (((x.merges.getD i default)).h))) && decide (n ≥ (((x.merges.getD i default)).col))) (Xn (n - (((x.merges.getD i default)).col)))), (25, Xv 1 ((decide (m ≥ (((x.merges.getD i default)).row)) && decide ((m - (((x.merges.getD i default)).row)) < (((x.merges.getD i default)).h))) && decide (n ≥ (((x.merges.getD i default)).col))) X0), (26, Xv 2 ((decide (m ≥ (((x.merges.getD i default)).row)) && decide ((m - (((x.merges.getD i default)).row)) < (((x.merges.getD i default)).h))) && decide (n ≥ (((x.merges.getD i default)).col))) X0), (27, X (Xk ((decide (m ≥ (((x.merges.getD i default)).row)) && decide ((m - (((x.merges.getD i default)).row)) < (((x.merges.getD i default)).h))) && decide (n ≥ (((x.merges.getD i default)).col)))))]] (((decide (m ≥ (((x.merges.getD i default)).row)) && decide ((m - (((x.merges.getD i default)).row)) < (((x.merges.getD i default)).h))) && decide (n ≥ (((x.merges.getD i default)).col))) && decide ((n - (((x.merges.getD i default)).col)) < (((x.merges.getD i default)).w))) (fun h5 => ?_) (fun h5 => ?_)
  ·
   have e1 : ((covQ x.merges m n 0) : Rect) = ((x.merges.getD i default)) := by
    rw [I3.2, covQ, if_pos (by omega), if_pos (by (unfold inQ; rw [decide_eq_true_eq]; omega))]
   exact .finVE [.r []] [] [] (fun z0 : Rect => (.t (rectT z0), [])) _ _ e1
  ·
   refine .back [.r [(0, X (Xn ((i : Int) + 1)))]] [(8, 8), (40, 40)] (ih3 ((i + 1) : Nat) ?_ ?_)
   ·
    refine ⟨by omega, ?_⟩
    rw [I3.2, covQ, if_pos (by omega), if_neg (by (unfold inQ; rw [decide_eq_true_eq]; omega))]
   ·
    ((try dsimp only); omega)
 ·
  have e2 : ((covQ x.merges m n 0) : Rect) = ({ row := m, col := n, h := 1, w := 1 } : Rect) := by
   rw [I3.2, covQ, if_neg (by omega)]
  exact .finVE [.r []] [] [] (fun z0 : Rect => (.t (rectT z0), [])) _ _ e2

theorem fc_from1 (d : Doc) (Y : YSpec) (hY : YCalls Tryz.prog Y) (hV : DocV d) (n : Nat) (ih : ∀ (v : Vis) (S : List Int) (p : List (List Tree)), WOk d Y n S p v → FC Tryz.prog 75 [.t (visT v), .ptr 0 0, .ptr 1 0, .ptr 2 0, .ptr 3 0] (app emp [(0, .box [.hdl 4]), (1, .box [.yl 5]), (2, .box [VL 9 nodeT d.nodes]), (3, .box [.fn 75 [.ptr 0 0, .ptr 1 0, .ptr 2 0, .ptr 3 0]]), (4, .mp (List.map onM S) none), (5, .ext Y p)]) (VB (contY Y.goes p (walkV d.nodes n S v))) (app emp [(0, .box [.hdl 4]), (1, .box [.yl 5]), (2, .box [VL 9 nodeT d.nodes]), (3, .box [.fn 75 [.ptr 0 0, .ptr 1 0, .ptr 2 0, .ptr 3 0]]), (4, .mp (List.map onM (endS Y.goes S p (walkV d.nodes n S v))) none), (5, .ext Y (endP Y.goes p (walkV d.nodes n S v)))])) (v : Vis) (S : List Int) (p : List (List Tree)) (hw : WOk d Y (n + 1) S p v) : FC Tryz.prog 75 [.t (visT v), .ptr 0 0, .ptr 1 0, .ptr 2 0, .ptr 3 0] (app emp [(0, .box [.hdl 4]), (1, .box [.yl 5]), (2, .box [VL 9 nodeT d.nodes]), (3, .box [.fn 75 [.ptr 0 0, .ptr 1 0, .ptr 2 0, .ptr 3 0]]), (4, .mp (List.map onM S) none), (5, .ext Y p)]) (VB (contY Y.goes p (walkV d.nodes (n + 1) S v))) (app emp [(0, .box [.hdl 4]), (1, .box [.yl 5]), (2, .box [VL 9 nodeT d.nodes]), (3, .box [.fn 75 [.ptr 0 0, .ptr 1 0, .ptr 2 0, .ptr 3 0]]), (4, .mp (List.map onM (endS Y.goes S p (walkV d.nodes (n + 1) S v))) none), (5, .ext Y (endP Y.goes p (walkV d.nodes (n + 1) S v)))]) := by
 refine .go Tryz.f75 ?_
 have hs := hV.srt
 have hl := hV.b.len
 obtain ⟨hlt, hid⟩ := hasN_iff.1 hw.has
 have hmem := (nodeOf_mem hw.has).1
 have hnb := hV.b.all _ hmem
 have hne := hV.node hmem
 obtain ⟨hrb, hcb⟩ := grid_of hne
 unfold nodeOf at hmem hnb hne hrb hcb
 have c1 := hnb.fl2
 have c2 := hnb.ce2
 have c3 := hnb.me
 have c4 : (refsF (d.nodes.getD (lobN d.nodes v.id) default).flow).length ≤ (d.nodes.getD (lobN d.nodes v.id) default).flow.length := List.length_filterMap_le _ _
 have c5 := items_len (l := d.nodes) hnb hne
 refine .bp [.r [], .r [(3, X (Xmt (List.map onM S) v.id (TB false) (TB (decide (v.id ∈ S)))) lookS)]] (decide (v.id ∈ S)) (fun h1 => ?_) (fun h1 => ?_)
 ·
  have e1 : ((endS Y.goes S p (walkV d.nodes (n + 1) S v)) : List Int) = S := by
   first | exact (end_in h1).1 | exact (end_in h1).2.1 | exact (end_in h1).2.2 | exact (end_in h1).1.symm | exact (end_in h1).2.1.symm | exact (end_in h1).2.2.symm
  have e2 : ((endP Y.goes p (walkV d.nodes (n + 1) S v)) : List (List Tree)) = p := by
   first | exact (end_in h1).1 | exact (end_in h1).2.1 | exact (end_in h1).2.2 | exact (end_in h1).1.symm | exact (end_in h1).2.1.symm | exact (end_in h1).2.2.symm
  have e3 : ((contY Y.goes p (walkV d.nodes (n + 1) S v)) : Bool) = true := by
   first | exact (end_in h1).1 | exact (end_in h1).2.1 | exact (end_in h1).2.2 | exact (end_in h1).1.symm | exact (end_in h1).2.1.symm | exact (end_in h1).2.2.symm
  exact .finE [.r []] [(0, 0), (1, 1), (2, 2), (3, 3), (4, 4), (5, 5)] (fun ((z0, z1, z2) : (List Int) × (List (List Tree)) × Bool) => (VB z2, [(0, .box [.hdl 4]), (1, .box [.yl 5]), (2, .box [VL 9 nodeT d.nodes]), (3, .box [.fn 75 [.ptr 0 0, .ptr 1 0, .ptr 2 0, .ptr 3 0]]), (4, .mp (List.map onM z0) none), (5, .ext Y z1)])) _ _ (pr e1 (pr e2 e3))
 ·
  refine .bp [.r [(3, X (Xmu onM S (S ++ [v.id]) v.id 4 (.im (TB true))) (putS_new h1))], .r [(2, X (Xy Tryz.prog Y p [visT v]) (⟨hY, hw.adm0 h1⟩))]] (!(Y.goes (p ++ [[visT v]]))) (fun h4 => ?_) (fun h4 => ?_)
  ·
   have e4 : ((endS Y.goes S p (walkV d.nodes (n + 1) S v)) : List Int) = (S ++ [v.id]) := by
    first | exact (stop_first h1 h4).1 | exact (stop_first h1 h4).2.1 | exact (stop_first h1 h4).2.2 | exact (stop_first h1 h4).1.symm | exact (stop_first h1 h4).2.1.symm | exact (stop_first h1 h4).2.2.symm
   have e5 : ((endP Y.goes p (walkV d.nodes (n + 1) S v)) : List (List Tree)) = (p ++ [[visT v]]) := by
    first | exact (stop_first h1 h4).1 | exact (stop_first h1 h4).2.1 | exact (stop_first h1 h4).2.2 | exact (stop_first h1 h4).1.symm | exact (stop_first h1 h4).2.1.symm | exact (stop_first h1 h4).2.2.symm
   have e6 : ((contY Y.goes p (walkV d.nodes (n + 1) S v)) : Bool) = false := by
    first | exact (stop_first h1 h4).1 | exact (stop_first h1 h4).2.1 | exact (stop_first h1 h4).2.2 | exact (stop_first h1 h4).1.symm | exact (stop_first h1 h4).2.1.symm | exact (stop_first h1 h4).2.2.symm
   exact .finE [.r []] [(0, 0), (1, 1), (2, 2), (3, 3), (4, 4), (5, 5)] (fun ((z0, z1, z2) : (List Int) × (List (List Tree)) × Bool) => (VB z2, [(0, .box [.hdl 4]), (1, .box [.yl 5]), (2, .box [VL 9 nodeT d.nodes]), (3, .box [.fn 75 [.ptr 0 0, .ptr 1 0, .ptr 2 0, .ptr 3 0]]), (4, .mp (List.map onM z0) none), (5, .ext Y z1)])) _ _ (pr e4 (pr e5 e6))
  ·
   refine .loop (α := Nat × List Int × List (List Tree)) [.r [(3, X (Xc0 (fc_findN d v.id (by assumption) (by assumption)) X0))], .r [(3, X (Xi nodeT d.nodes (lobN (d).nodes v.id : Int)))], .r [(2, X (Xc1 262 (fc_refsFl (((d.nodes.getD (lobN (d).nodes v.id) default)).flow) (by omega)) X0))]] 286 (fun (i, S2, p2) => ([(3, .ptr 2 0), (4, .ptr 3 0), (5, .ptr 6 0), (9, .ptr 230 0), (42, .row 262 ((refsF (((d.nodes.getD (lobN (d).nodes v.id) default)).flow)).length)), (43, VI ((refsF (((d.nodes.getD (lobN (d).nodes v.id) default)).flow)).length : Int)), (44, VI (i : Int))], [(0, .box [.hdl 4]), (1, .box [.yl 5]), (2, .box [VL 9 nodeT d.nodes]), (3, .box [.fn 75 [.ptr 0 0, .ptr 1 0, .ptr 2 0, .ptr 3 0]]), (4, .mp (List.map onM S2) none), (5, .ext Y p2), (6, .box [VI v.id, VI v.parent, VB v.vis]), (230, .box [VI (((d.nodes.getD (lobN (d).nodes v.id) default)).id), VI (((d.nodes.getD (lobN (d).nodes v.id) default)).kind), VL 2 attrT (((d.nodes.getD (lobN (d).nodes v.id) default)).attrs), VL 3 elemT (((d.nodes.getD (lobN (d).nodes v.id) default)).flow), VI ((((d.nodes.getD (lobN (d).nodes v.id) default)).grid).rows), VI ((((d.nodes.getD (lobN (d).nodes v.id) default)).grid).cols), VL 5 cellT ((((d.nodes.getD (lobN (d).nodes v.id) default)).grid).cells), VL 4 rectT ((((d.nodes.getD (lobN (d).nodes v.id) default)).grid).merges), VL 8 dopT (((d.nodes.getD (lobN (d).nodes v.id) default)).draw)]), (262, OR 1 intT (refsF (((d.nodes.getD (lobN (d).nodes v.id) default)).flow)))])) (fun (i, S2, p2) => i ≤ (refsF (d.nodes.getD (lobN d.nodes v.id) default).flow).length ∧ KI d Y n S p v (kidA d v i) S2 p2) (fun (i, S2, p2) => (refsF (d.nodes.getD (lobN d.nodes v.id) default).flow).length - i) (0, (S ++ [v.id]), (p ++ [[visT v]])) ?_ ?_
   ·
    exact ⟨Nat.zero_le _, KI.start h4⟩
   rintro ⟨i, S2, p2⟩ I9 ih9
   try dsimp only at I9
   refine .bp [.r []] (decide ((i : Int) < ((refsF (((d.nodes.getD (lobN (d).nodes v.id) default)).flow)).length : Int))) (fun h9 => ?_) (fun h9 => ?_)
   ·
    obtain ⟨⟨R, hR⟩, hnx⟩ := kidA_at (d := d) (v := v) (i := i) (by omega)
    have hcall : WOk d Y n S2 p2 ({ id := ((refsF (d.nodes.getD (lobN d.nodes v.id) default).flow).getD i default), parent := v.id, vis := v.vis } : Vis) := KI.call I9.2 hw h1 hR (kids_has hV hw.has (by rw [hR]; exact List.mem_append_right _ List.mem_cons_self))
    refine .bp [.r [(0, X (Xp intT (refsF (((d.nodes.getD (lobN (d).nodes v.id) default)).flow)) (i : Int))), (1, X (Xe intT (refsF (((d.nodes.getD (lobN (d).nodes v.id) default)).flow)) i))], .r [(7, X (Xc3 374 [(0, 0), (1, 1), (2, 2), (3, 3), (4, 4), (5, 5)] (ih ({ id := ((refsF (((d.nodes.getD (lobN (d).nodes v.id) default)).flow)).getD i default), parent := v.id, vis := v.vis } : Vis) S2 p2 (by assumption)) X0))]] (!(contY Y.goes p2 (walkV d.nodes n S2 ({ id := ((refsF (((d.nodes.getD (lobN (d).nodes v.id) default)).flow)).getD i default), parent := v.id, vis := v.vis } : Vis)))) (fun h11 => ?_) (fun h11 => ?_)
    ·
     have e7 : ((endS Y.goes S p (walkV d.nodes (n + 1) S v)) : List Int) = (endS Y.goes S2 p2 (walkV d.nodes n S2 ({ id := ((refsF (((d.nodes.getD (lobN (d).nodes v.id) default)).flow)).getD i default), parent := v.id, vis := v.vis } : Vis))) := by
      first | exact (KI.stop I9.2 h1 hR h11).1 | exact (KI.stop I9.2 h1 hR h11).2.1 | exact (KI.stop I9.2 h1 hR h11).2.2 | exact (KI.stop I9.2 h1 hR h11).1.symm | exact (KI.stop I9.2 h1 hR h11).2.1.symm | exact (KI.stop I9.2 h1 hR h11).2.2.symm
     have e8 : ((endP Y.goes p (walkV d.nodes (n + 1) S v)) : List (List Tree)) = (endP Y.goes p2 (walkV d.nodes n S2 ({ id := ((refsF (((d.nodes.getD (lobN (d).nodes v.id) default)).flow)).getD i default), parent := v.id, vis := v.vis } : Vis))) := by
      first | exact (KI.stop I9.2 h1 hR h11).1 | exact (KI.stop I9.2 h1 hR h11).2.1 | exact (KI.stop I9.2 h1 hR h11).2.2 | exact (KI.stop I9.2 h1 hR h11).1.symm | exact (KI.stop I9.2 h1 hR h11).2.1.symm | exact (KI.stop I9.2 h1 hR h11).2.2.symm
     have e9 : ((contY Y.goes p (walkV d.nodes (n + 1) S v)) : Bool) = false := by
      first | exact (KI.stop I9.2 h1 hR h11).1 | exact (KI.stop I9.2 h1 hR h11).2.1 | exact (KI.stop I9.2 h1 hR h11).2.2 | exact (KI.stop I9.2 h1 hR h11).1.symm | exact (KI.stop I9.2 h1 hR h11).2.1.symm | exact (KI.stop I9.2 h1 hR h11).2.2.symm
     exact .finE [.r []] [(0, 0), (1, 1), (2, 2), (3, 3), (4, 4), (5, 5)] (fun ((z0, z1, z2) : (List Int) × (List (List Tree)) × Bool) => (VB z2, [(0, .box [.hdl 4]), (1, .box [.yl 5]), (2, .box [VL 9 nodeT d.nodes]), (3, .box [.fn 75 [.ptr 0 0, .ptr 1 0, .ptr 2 0, .ptr 3 0]]), (4, .mp (List.map onM z0) none), (5, .ext Y z1)])) _ _ (pr e7 (pr e8 e9))
    ·
     refine .back [.r [(0, X (Xn ((i : Int) + 1)))]] [(0, 0), (1, 1), (2, 2), (3, 3), (4, 4), (5, 5), (6, 6), (230, 230), (262, 262)] (ih9 ((i + 1), (endS Y.goes S2 p2 (walkV d.nodes n S2 ({ id := ((refsF (((d.nodes.getD (lobN (d).nodes v.id) default)).flow)).getD i default), parent := v.id, vis := v.vis } : Vis))), (endP Y.goes p2 (walkV d.nodes n S2 ({ id := ((refsF (((d.nodes.getD (lobN (d).nodes v.id) default)).flow)).getD i default), parent := v.id, vis := v.vis } : Vis)))) ?_ ?_)
     ·
      refine ⟨by omega, ?_⟩
      rw [hnx]; exact I9.2.next h11
     ·
      ((try dsimp only); omega)
   ·
    refine .loop (α := Nat × List Int × List (List Tree)) [.r [(3, X (Xl cellT ((((d.nodes.getD (lobN (d).nodes v.id) default)).grid).cells)))]] 334 (fun (j, S3, p3) => ([(3, .ptr 2 0), (4, .ptr 3 0), (5, .ptr 6 0), (9, .ptr 230 0), (60, VL 5 cellT ((((d.nodes.getD (lobN (d).nodes v.id) default)).grid).cells)), (61, VI (((((d.nodes.getD (lobN (d).nodes v.id) default)).grid).cells).length : Int)), (62, VI (j : Int))], [(0, .box [.hdl 4]), (1, .box [.yl 5]), (2, .box [VL 9 nodeT d.nodes]), (3, .box [.fn 75 [.ptr 0 0, .ptr 1 0, .ptr 2 0, .ptr 3 0]]), (4, .mp (List.map onM S3) none), (5, .ext Y p3), (6, .box [VI v.id, VI v.parent, VB v.vis]), (230, .box [VI (((d.nodes.getD (lobN (d).nodes v.id) default)).id), VI (((d.nodes.getD (lobN (d).nodes v.id) default)).kind), VL 2 attrT (((d.nodes.getD (lobN (d).nodes v.id) default)).attrs), VL 3 elemT (((d.nodes.getD (lobN (d).nodes v.id) default)).flow), VI ((((d.nodes.getD (lobN (d).nodes v.id) default)).grid).rows), VI ((((d.nodes.getD (lobN (d).nodes v.id) default)).grid).cols), VL 5 cellT ((((d.nodes.getD (lobN (d).nodes v.id) default)).grid).cells), VL 4 rectT ((((d.nodes.getD (lobN (d).nodes v.id) default)).grid).merges), VL 8 dopT (((d.nodes.getD (lobN (d).nodes v.id) default)).draw)])])) (fun (j, S3, p3) => j ≤ (d.nodes.getD (lobN d.nodes v.id) default).grid.cells.length ∧ KI d Y n S p v (kidB d v j) S3 p3) (fun (j, S3, p3) => (d.nodes.getD (lobN d.nodes v.id) default).grid.cells.length - j) (0, S2, p2) ?_ ?_
    ·
     exact ⟨Nat.zero_le _, by rw [kidB_zero, show (refsF (d.nodes.getD (lobN d.nodes v.id) default).flow).length = i by omega]; exact I9.2⟩
    rintro ⟨j, S3, p3⟩ I15 ih15
    try dsimp only at I15
    refine .bp [.r []] (decide ((j : Int) < (((((d.nodes.getD (lobN (d).nodes v.id) default)).grid).cells).length : Int))) (fun h15 => ?_) (fun h15 => ?_)
    ·
     have hcc := hcb _ (getDX_mem (l := (d.nodes.getD (lobN d.nodes v.id) default).grid.cells) (i := j) (by omega))
     refine .mid [.r [(0, X (Xi cellT ((((d.nodes.getD (lobN (d).nodes v.id) default)).grid).cells) (j : Int)))], .r [(6, X (Xc0 (fc_cover (((d.nodes.getD (lobN (d).nodes v.id) default)).grid) (((((((d.nodes.getD (lobN (d).nodes v.id) default)).grid).cells).getD j default)).row) (((((((d.nodes.getD (lobN (d).nodes v.id) default)).grid).cells).getD j default)).col) (by omega) (by omega) (by assumption)) X0))]] ?_
     obtain ⟨hnx, R, hR⟩ := kidB_at (d := d) (v := v) (j := j) (by omega)
     by_cases hr : ((d.nodes.getD (lobN d.nodes v.id) default).grid.cells.getD j default).ref = 0
     ·
      refine .bp [.r [(2, X (Xbv ((((((((d.nodes.getD (lobN (d).nodes v.id) default)).grid).cells).getD j default)).ref) != 0) false) (by rw [hr]; rfl)), (4, X (Xskip false (.junk)) rfl), (5, X (Xskip false (.junk)) rfl), (6, X (Xskip false (.junk)) rfl), (7, X (Xskip false (.junk)) rfl), (8, X (Xskip false (.junk)) rfl), (9, X (Xskip false (.junk)) rfl), (10, X (Xskip false (VB false)) rfl), (11, X (Xskip false (VB false)) rfl), (12, X (Xskip (false && false) (.junk)) rfl), (13, X (Xskip (false && false) (.junk)) rfl), (14, X (Xskip (false && false) (.junk)) rfl), (15, X (Xskip (false && false) (.junk)) rfl), (16, X (Xskip (false && false) (VB false)) rfl), (17, X (Xskip false (VB false)) rfl), (18, X (Xskip false (VB false)) rfl), (19, X (Xskip (false && false) (.junk)) rfl), (20, X (Xskip (false && false) (.junk)) rfl), (21, X (Xskip (false && false) (.junk)) rfl), (22, X (Xskip (false && false) (.junk)) rfl), (23, X (Xskip (false && false) (VB false)) rfl), (24, X (Xskip false (VB false)) rfl), (25, X (Xskip false (.junk)) rfl), (26, X (Xskip false (.junk)) rfl), (27, X (Xskip false (VB false)) rfl), (28, X (Xk false))]] (false && false) (fun h18 => ?_) (fun h18 => ?_)
      ·
       exfalso
       simp at h18
      ·
       refine .back [.r [(0, X (Xn ((j : Int) + 1)))]] [(0, 0), (1, 1), (2, 2), (3, 3), (4, 4), (5, 5), (6, 6), (230, 230)] (ih15 ((j + 1), S3, p3) ?_ ?_)
       ·
        refine ⟨by omega, ?_⟩
        rw [hnx, kidC, if_neg (fun q => q hr), List.append_nil]; exact I15.2
       ·
        ((try dsimp only); omega)
     ·
      rw [show kidC (d.nodes.getD (lobN d.nodes v.id) default).grid v ((d.nodes.getD (lobN d.nodes v.id) default).grid.cells.getD j default) = [({ id := ((d.nodes.getD (lobN d.nodes v.id) default).grid.cells.getD j default).ref, parent := v.id, vis := visC (d.nodes.getD (lobN d.nodes v.id) default).grid v.vis ((d.nodes.getD (lobN d.nodes v.id) default).grid.cells.getD j default) } : Vis)] from if_pos hr] at hnx hR
      rw [List.append_assoc, List.singleton_append] at hR
      have hcall : WOk d Y n S3 p3 ({ id := ((d.nodes.getD (lobN d.nodes v.id) default).grid.cells.getD j default).ref, parent := v.id, vis := visC (d.nodes.getD (lobN d.nodes v.id) default).grid v.vis ((d.nodes.getD (lobN d.nodes v.id) default).grid.cells.getD j default) } : Vis) := KI.call I15.2 hw h1 hR (kids_has hV hw.has (by rw [hR]; exact List.mem_append_right _ List.mem_cons_self))
      refine .bp [.r [(2, X (Xbv ((((((((d.nodes.getD (lobN (d).nodes v.id) default)).grid).cells).getD j default)).ref) != 0) true) (by simpa using hr)), (6, Xv 1 true X0), (8, Xv 1 true X0), (10, Xv 1 true X0), (11, Xv 1 true X0), (13, Xv 1 (true && v.vis) X0), (15, Xv 1 (true && v.vis) X0), (16, Xv 2 (true && v.vis) X0), (17, Xka true v.vis), (18, Xv 1 true X0), (20, Xv 1 (true && (v.vis && ((((covQ ((((d.nodes.getD (lobN (d).nodes v.id) default)).grid)).merges (((((((d.nodes.getD (lobN (d).nodes v.id) default)).grid).cells).getD j default)).row) (((((((d.nodes.getD (lobN (d).nodes v.id) default)).grid).cells).getD j default)).col) 0)).row) == (((((((d.nodes.getD (lobN (d).nodes v.id) default)).grid).cells).getD j default)).row)))) X0), (22, Xv 1 (true && (v.vis && ((((covQ ((((d.nodes.getD (lobN (d).nodes v.id) default)).grid)).merges (((((((d.nodes.getD (lobN (d).nodes v.id) default)).grid).cells).getD j default)).row) (((((((d.nodes.getD (lobN (d).nodes v.id) default)).grid).cells).getD j default)).col) 0)).row) == (((((((d.nodes.getD (lobN (d).nodes v.id) default)).grid).cells).getD j default)).row)))) X0), (23, Xv 2 (true && (v.vis && ((((covQ ((((d.nodes.getD (lobN (d).nodes v.id) default)).grid)).merges (((((((d.nodes.getD (lobN (d).nodes v.id) default)).grid).cells).getD j default)).row) (((((((d.nodes.getD (lobN (d).nodes v.id) default)).grid).cells).getD j default)).col) 0)).row) == (((((((d.nodes.getD (lobN (d).nodes v.id) default)).grid).cells).getD j default)).row)))) X0), (24, Xka true (v.vis && ((((covQ ((((d.nodes.getD (lobN (d).nodes v.id) default)).grid)).merges (((((((d.nodes.getD (lobN (d).nodes v.id) default)).grid).cells).getD j default)).row) (((((((d.nodes.getD (lobN (d).nodes v.id) default)).grid).cells).getD j default)).col) 0)).row) == (((((((d.nodes.getD (lobN (d).nodes v.id) default)).grid).cells).getD j default)).row)))), (25, Xv 3 true X0), (26, Xw true (Xq true (Xq true (Xc3 654 [(0, 0), (1, 1), (2, 2), (3, 3), (4, 4), (5, 5)] (ih ({ id := ((((((d.nodes.getD (lobN (d).nodes v.id) default)).grid).cells).getD j default)).ref, parent := v.id, vis := ((v.vis && ((((covQ ((((d.nodes.getD (lobN (d).nodes v.id) default)).grid)).merges (((((((d.nodes.getD (lobN (d).nodes v.id) default)).grid).cells).getD j default)).row) (((((((d.nodes.getD (lobN (d).nodes v.id) default)).grid).cells).getD j default)).col) 0)).row) == (((((((d.nodes.getD (lobN (d).nodes v.id) default)).grid).cells).getD j default)).row))) && ((((covQ ((((d.nodes.getD (lobN (d).nodes v.id) default)).grid)).merges (((((((d.nodes.getD (lobN (d).nodes v.id) default)).grid).cells).getD j default)).row) (((((((d.nodes.getD (lobN (d).nodes v.id) default)).grid).cells).getD j default)).col) 0)).col) == (((((((d.nodes.getD (lobN (d).nodes v.id) default)).grid).cells).getD j default)).col))) } : Vis) S3 p3 (by assumption)) X0))) (rfl) (by first | omega | (simp; omega) | (simp; done) | assumption)), (27, Xv 1 true X0), (28, X (Xk true))]] (true && !(contY Y.goes p3 (walkV d.nodes n S3 ({ id := ((((((d.nodes.getD (lobN (d).nodes v.id) default)).grid).cells).getD j default)).ref, parent := v.id, vis := ((v.vis && ((((covQ ((((d.nodes.getD (lobN (d).nodes v.id) default)).grid)).merges (((((((d.nodes.getD (lobN (d).nodes v.id) default)).grid).cells).getD j default)).row) (((((((d.nodes.getD (lobN (d).nodes v.id) default)).grid).cells).getD j default)).col) 0)).row) == (((((((d.nodes.getD (lobN (d).nodes v.id) default)).grid).cells).getD j default)).row))) && ((((covQ ((((d.nodes.getD (lobN (d).nodes v.id) default)).grid)).merges (((((((d.nodes.getD (lobN (d).nodes v.id) default)).grid).cells).getD j default)).row) (((((((d.nodes.getD (lobN (d).nodes v.id) default)).grid).cells).getD j default)).col) 0)).col) == (((((((d.nodes.getD (lobN (d).nodes v.id) default)).grid).cells).getD j default)).col))) } : Vis)))) (fun h18 => ?_) (fun h18 => ?_)
      ·
       have e10 : ((endS Y.goes S p (walkV d.nodes (n + 1) S v)) : List Int) = (endS Y.goes S3 p3 (walkV d.nodes n S3 ({ id := ((((((d.nodes.getD (lobN (d).nodes v.id) default)).grid).cells).getD j default)).ref, parent := v.id, vis := ((v.vis && ((((covQ ((((d.nodes.getD (lobN (d).nodes v.id) default)).grid)).merges (((((((d.nodes.getD (lobN (d).nodes v.id) default)).grid).cells).getD j default)).row) (((((((d.nodes.getD (lobN (d).nodes v.id) default)).grid).cells).getD j default)).col) 0)).row) == (((((((d.nodes.getD (lobN (d).nodes v.id) default)).grid).cells).getD j default)).row))) && ((((covQ ((((d.nodes.getD (lobN (d).nodes v.id) default)).grid)).merges (((((((d.nodes.getD (lobN (d).nodes v.id) default)).grid).cells).getD j default)).row) (((((((d.nodes.getD (lobN (d).nodes v.id) default)).grid).cells).getD j default)).col) 0)).col) == (((((((d.nodes.getD (lobN (d).nodes v.id) default)).grid).cells).getD j default)).col))) } : Vis))) := by
        first | exact (KI.stop I15.2 h1 hR h18.2).1 | exact (KI.stop I15.2 h1 hR h18.2).2.1 | exact (KI.stop I15.2 h1 hR h18.2).2.2 | exact (KI.stop I15.2 h1 hR h18.2).1.symm | exact (KI.stop I15.2 h1 hR h18.2).2.1.symm | exact (KI.stop I15.2 h1 hR h18.2).2.2.symm
       have e11 : ((endP Y.goes p (walkV d.nodes (n + 1) S v)) : List (List Tree)) = (endP Y.goes p3 (walkV d.nodes n S3 ({ id := ((((((d.nodes.getD (lobN (d).nodes v.id) default)).grid).cells).getD j default)).ref, parent := v.id, vis := ((v.vis && ((((covQ ((((d.nodes.getD (lobN (d).nodes v.id) default)).grid)).merges (((((((d.nodes.getD (lobN (d).nodes v.id) default)).grid).cells).getD j default)).row) (((((((d.nodes.getD (lobN (d).nodes v.id) default)).grid).cells).getD j default)).col) 0)).row) == (((((((d.nodes.getD (lobN (d).nodes v.id) default)).grid).cells).getD j default)).row))) && ((((covQ ((((d.nodes.getD (lobN (d).nodes v.id) default)).grid)).merges (((((((d.nodes.getD (lobN (d).nodes v.id) default)).grid).cells).getD j default)).row) (((((((d.nodes.getD (lobN (d).nodes v.id) default)).grid).cells).getD j default)).col) 0)).col) == (((((((d.nodes.getD (lobN (d).nodes v.id) default)).grid).cells).getD j default)).col))) } : Vis))) := by
        first | exact (KI.stop I15.2 h1 hR h18.2).1 | exact (KI.stop I15.2 h1 hR h18.2).2.1 | exact (KI.stop I15.2 h1 hR h18.2).2.2 | exact (KI.stop I15.2 h1 hR h18.2).1.symm | exact (KI.stop I15.2 h1 hR h18.2).2.1.symm | exact (KI.stop I15.2 h1 hR h18.2).2.2.symm
       have e12 : ((contY Y.goes p (walkV d.nodes (n + 1) S v)) : Bool) = false := by
        first | exact (KI.stop I15.2 h1 hR h18.2).1 | exact (KI.stop I15.2 h1 hR h18.2).2.1 | exact (KI.stop I15.2 h1 hR h18.2).2.2 | exact (KI.stop I15.2 h1 hR h18.2).1.symm | exact (KI.stop I15.2 h1 hR h18.2).2.1.symm | exact (KI.stop I15.2 h1 hR h18.2).2.2.symm
       exact .finE [.r []] [(0, 0), (1, 1), (2, 2), (3, 3), (4, 4), (5, 5)] (fun ((z0, z1, z2) : (List Int) × (List (List Tree)) × Bool) => (VB z2, [(0, .box [.hdl 4]), (1, .box [.yl 5]), (2, .box [VL 9 nodeT d.nodes]), (3, .box [.fn 75 [.ptr 0 0, .ptr 1 0, .ptr 2 0, .ptr 3 0]]), (4, .mp (List.map onM z0) none), (5, .ext Y z1)])) _ _ (pr e10 (pr e11 e12))
      ·
       refine .back [.r [(0, X (Xn ((j : Int) + 1)))]] [(0, 0), (1, 1), (2, 2), (3, 3), (4, 4), (5, 5), (6, 6), (230, 230)] (ih15 ((j + 1), (endS Y.goes S3 p3 (walkV d.nodes n S3 ({ id := ((((((d.nodes.getD (lobN (d).nodes v.id) default)).grid).cells).getD j default)).ref, parent := v.id, vis := ((v.vis && ((((covQ ((((d.nodes.getD (lobN (d).nodes v.id) default)).grid)).merges (((((((d.nodes.getD (lobN (d).nodes v.id) default)).grid).cells).getD j default)).row) (((((((d.nodes.getD (lobN (d).nodes v.id) default)).grid).cells).getD j default)).col) 0)).row) == (((((((d.nodes.getD (lobN (d).nodes v.id) default)).grid).cells).getD j default)).row))) && ((((covQ ((((d.nodes.getD (lobN (d).nodes v.id) default)).grid)).merges (((((((d.nodes.getD (lobN (d).nodes v.id) default)).grid).cells).getD j default)).row) (((((((d.nodes.getD (lobN (d).nodes v.id) default)).grid).cells).getD j default)).col) 0)).col) == (((((((d.nodes.getD (lobN (d).nodes v.id) default)).grid).cells).getD j default)).col))) } : Vis))), (endP Y.goes p3 (walkV d.nodes n S3 ({ id := ((((((d.nodes.getD (lobN (d).nodes v.id) default)).grid).cells).getD j default)).ref, parent := v.id, vis := ((v.vis && ((((covQ ((((d.nodes.getD (lobN (d).nodes v.id) default)).grid)).merges (((((((d.nodes.getD (lobN (d).nodes v.id) default)).grid).cells).getD j default)).row) (((((((d.nodes.getD (lobN (d).nodes v.id) default)).grid).cells).getD j default)).col) 0)).row) == (((((((d.nodes.getD (lobN (d).nodes v.id) default)).grid).cells).getD j default)).row))) && ((((covQ ((((d.nodes.getD (lobN (d).nodes v.id) default)).grid)).merges (((((((d.nodes.getD (lobN (d).nodes v.id) default)).grid).cells).getD j default)).row) (((((((d.nodes.getD (lobN (d).nodes v.id) default)).grid).cells).getD j default)).col) 0)).col) == (((((((d.nodes.getD (lobN (d).nodes v.id) default)).grid).cells).getD j default)).col))) } : Vis)))) ?_ ?_)
       ·
        refine ⟨by omega, ?_⟩
        rw [hnx]; exact I15.2.next (h18.resolve_left (by decide))
       ·
        ((try dsimp only); omega)
    ·
     refine .loop (α := Nat × List Int × List (List Tree)) [.r [(2, X (Xc1 358 (fc_itemsD d ((d.nodes.getD (lobN (d).nodes v.id) default)) (by assumption) (by assumption) (by assumption) (by assumption)) X0)), (3, X (Xl intT (itemsD (d).nodes ((d.nodes.getD (lobN (d).nodes v.id) default)))))]] 382 (fun (q, S4, p4) => ([(4, .ptr 3 0), (5, .ptr 6 0), (105, VL 1 intT (itemsD (d).nodes ((d.nodes.getD (lobN (d).nodes v.id) default)))), (106, VI ((itemsD (d).nodes ((d.nodes.getD (lobN (d).nodes v.id) default))).length : Int)), (107, VI (q : Int))], [(0, .box [.hdl 4]), (1, .box [.yl 5]), (2, .box [VL 9 nodeT d.nodes]), (3, .box [.fn 75 [.ptr 0 0, .ptr 1 0, .ptr 2 0, .ptr 3 0]]), (4, .mp (List.map onM S4) none), (5, .ext Y p4), (6, .box [VI v.id, VI v.parent, VB v.vis])])) (fun (q, S4, p4) => q ≤ (itemsD d.nodes (d.nodes.getD (lobN d.nodes v.id) default)).length ∧ KI d Y n S p v (kidI d v q) S4 p4) (fun (q, S4, p4) => (itemsD d.nodes (d.nodes.getD (lobN d.nodes v.id) default)).length - q) (0, S3, p3) ?_ ?_
     ·
      exact ⟨Nat.zero_le _, by rw [kidI_zero, show (d.nodes.getD (lobN d.nodes v.id) default).grid.cells.length = j by omega]; exact I15.2⟩
     rintro ⟨q, S4, p4⟩ I22 ih22
     try dsimp only at I22
     refine .bp [.r []] (decide ((q : Int) < ((itemsD (d).nodes ((d.nodes.getD (lobN (d).nodes v.id) default))).length : Int))) (fun h22 => ?_) (fun h22 => ?_)
     ·
      obtain ⟨⟨R, hR⟩, hnx⟩ := kidI_at (d := d) (v := v) (i := q) (by omega)
      have hcall : WOk d Y n S4 p4 ({ id := ((itemsD d.nodes (d.nodes.getD (lobN d.nodes v.id) default)).getD q default), parent := v.id, vis := v.vis } : Vis) := KI.call I22.2 hw h1 hR (kids_has hV hw.has (by rw [hR]; exact List.mem_append_right _ List.mem_cons_self))
      refine .bp [.r [(0, X (Xi intT (itemsD (d).nodes ((d.nodes.getD (lobN (d).nodes v.id) default))) (q : Int)))], .r [(7, X (Xc3 470 [(0, 0), (1, 1), (2, 2), (3, 3), (4, 4), (5, 5)] (ih ({ id := ((itemsD (d).nodes ((d.nodes.getD (lobN (d).nodes v.id) default))).getD q default), parent := v.id, vis := v.vis } : Vis) S4 p4 (by assumption)) X0))]] (!(contY Y.goes p4 (walkV d.nodes n S4 ({ id := ((itemsD (d).nodes ((d.nodes.getD (lobN (d).nodes v.id) default))).getD q default), parent := v.id, vis := v.vis } : Vis)))) (fun h24 => ?_) (fun h24 => ?_)
      ·
       have e13 : ((endS Y.goes S p (walkV d.nodes (n + 1) S v)) : List Int) = (endS Y.goes S4 p4 (walkV d.nodes n S4 ({ id := ((itemsD (d).nodes ((d.nodes.getD (lobN (d).nodes v.id) default))).getD q default), parent := v.id, vis := v.vis } : Vis))) := by
        first | exact (KI.stop I22.2 h1 hR h24).1 | exact (KI.stop I22.2 h1 hR h24).2.1 | exact (KI.stop I22.2 h1 hR h24).2.2 | exact (KI.stop I22.2 h1 hR h24).1.symm | exact (KI.stop I22.2 h1 hR h24).2.1.symm | exact (KI.stop I22.2 h1 hR h24).2.2.symm
       have e14 : ((endP Y.goes p (walkV d.nodes (n + 1) S v)) : List (List Tree)) = (endP Y.goes p4 (walkV d.nodes n S4 ({ id := ((itemsD (d).nodes ((d.nodes.getD (lobN (d).nodes v.id) default))).getD q default), parent := v.id, vis := v.vis } : Vis))) := by
        first | exact (KI.stop I22.2 h1 hR h24).1 | exact (KI.stop I22.2 h1 hR h24).2.1 | exact (KI.stop I22.2 h1 hR h24).2.2 | exact (KI.stop I22.2 h1 hR h24).1.symm | exact (KI.stop I22.2 h1 hR h24).2.1.symm | exact (KI.stop I22.2 h1 hR h24).2.2.symm
       have e15 : ((contY Y.goes p (walkV d.nodes (n + 1) S v)) : Bool) = false := by
        first | exact (KI.stop I22.2 h1 hR h24).1 | exact (KI.stop I22.2 h1 hR h24).2.1 | exact (KI.stop I22.2 h1 hR h24).2.2 | exact (KI.stop I22.2 h1 hR h24).1.symm | exact (KI.stop I22.2 h1 hR h24).2.1.symm | exact (KI.stop I22.2 h1 hR h24).2.2.symm
       exact .finE [.r []] [(0, 0), (1, 1), (2, 2), (3, 3), (4, 4), (5, 5)] (fun ((z0, z1, z2) : (List Int) × (List (List Tree)) × Bool) => (VB z2, [(0, .box [.hdl 4]), (1, .box [.yl 5]), (2, .box [VL 9 nodeT d.nodes]), (3, .box [.fn 75 [.ptr 0 0, .ptr 1 0, .ptr 2 0, .ptr 3 0]]), (4, .mp (List.map onM z0) none), (5, .ext Y z1)])) _ _ (pr e13 (pr e14 e15))
      ·
       refine .back [.r [(0, X (Xn ((q : Int) + 1)))]] [(0, 0), (1, 1), (2, 2), (3, 3), (4, 4), (5, 5), (6, 6)] (ih22 ((q + 1), (endS Y.goes S4 p4 (walkV d.nodes n S4 ({ id := ((itemsD (d).nodes ((d.nodes.getD (lobN (d).nodes v.id) default))).getD q default), parent := v.id, vis := v.vis } : Vis))), (endP Y.goes p4 (walkV d.nodes n S4 ({ id := ((itemsD (d).nodes ((d.nodes.getD (lobN (d).nodes v.id) default))).getD q default), parent := v.id, vis := v.vis } : Vis)))) ?_ ?_)
       ·
        refine ⟨by omega, ?_⟩
        rw [hnx]; exact I22.2.next h24
       ·
        ((try dsimp only); omega)
     ·
      have e16 : ((endS Y.goes S p (walkV d.nodes (n + 1) S v)) : List Int) = S4 := by
       first | exact (KI.done I22.2 h1 (kidI_end.trans (by rw [show (itemsD d.nodes (d.nodes.getD (lobN d.nodes v.id) default)).length = q by omega]))).1 | exact (KI.done I22.2 h1 (kidI_end.trans (by rw [show (itemsD d.nodes (d.nodes.getD (lobN d.nodes v.id) default)).length = q by omega]))).2.1 | exact (KI.done I22.2 h1 (kidI_end.trans (by rw [show (itemsD d.nodes (d.nodes.getD (lobN d.nodes v.id) default)).length = q by omega]))).2.2 | exact (KI.done I22.2 h1 (kidI_end.trans (by rw [show (itemsD d.nodes (d.nodes.getD (lobN d.nodes v.id) default)).length = q by omega]))).1.symm | exact (KI.done I22.2 h1 (kidI_end.trans (by rw [show (itemsD d.nodes (d.nodes.getD (lobN d.nodes v.id) default)).length = q by omega]))).2.1.symm | exact (KI.done I22.2 h1 (kidI_end.trans (by rw [show (itemsD d.nodes (d.nodes.getD (lobN d.nodes v.id) default)).length = q by omega]))).2.2.symm
      have e17 : ((endP Y.goes p (walkV d.nodes (n + 1) S v)) : List (List Tree)) = p4 := by
       first | exact (KI.done I22.2 h1 (kidI_end.trans (by rw [show (itemsD d.nodes (d.nodes.getD (lobN d.nodes v.id) default)).length = q by omega]))).1 | exact (KI.done I22.2 h1 (kidI_end.trans (by rw [show (itemsD d.nodes (d.nodes.getD (lobN d.nodes v.id) default)).length = q by omega]))).2.1 | exact (KI.done I22.2 h1 (kidI_end.trans (by rw [show (itemsD d.nodes (d.nodes.getD (lobN d.nodes v.id) default)).length = q by omega]))).2.2 | exact (KI.done I22.2 h1 (kidI_end.trans (by rw [show (itemsD d.nodes (d.nodes.getD (lobN d.nodes v.id) default)).length = q by omega]))).1.symm | exact (KI.done I22.2 h1 (kidI_end.trans (by rw [show (itemsD d.nodes (d.nodes.getD (lobN d.nodes v.id) default)).length = q by omega]))).2.1.symm | exact (KI.done I22.2 h1 (kidI_end.trans (by rw [show (itemsD d.nodes (d.nodes.getD (lobN d.nodes v.id) default)).length = q by omega]))).2.2.symm
      have e18 : ((contY Y.goes p (walkV d.nodes (n + 1) S v)) : Bool) = true := by
       first | exact (KI.done I22.2 h1 (kidI_end.trans (by rw [show (itemsD d.nodes (d.nodes.getD (lobN d.nodes v.id) default)).length = q by omega]))).1 | exact (KI.done I22.2 h1 (kidI_end.trans (by rw [show (itemsD d.nodes (d.nodes.getD (lobN d.nodes v.id) default)).length = q by omega]))).2.1 | exact (KI.done I22.2 h1 (kidI_end.trans (by rw [show (itemsD d.nodes (d.nodes.getD (lobN d.nodes v.id) default)).length = q by omega]))).2.2 | exact (KI.done I22.2 h1 (kidI_end.trans (by rw [show (itemsD d.nodes (d.nodes.getD (lobN d.nodes v.id) default)).length = q by omega]))).1.symm | exact (KI.done I22.2 h1 (kidI_end.trans (by rw [show (itemsD d.nodes (d.nodes.getD (lobN d.nodes v.id) default)).length = q by omega]))).2.1.symm | exact (KI.done I22.2 h1 (kidI_end.trans (by rw [show (itemsD d.nodes (d.nodes.getD (lobN d.nodes v.id) default)).length = q by omega]))).2.2.symm
      exact .finE [.r []] [(0, 0), (1, 1), (2, 2), (3, 3), (4, 4), (5, 5)] (fun ((z0, z1, z2) : (List Int) × (List (List Tree)) × Bool) => (VB z2, [(0, .box [.hdl 4]), (1, .box [.yl 5]), (2, .box [VL 9 nodeT d.nodes]), (3, .box [.fn 75 [.ptr 0 0, .ptr 1 0, .ptr 2 0, .ptr 3 0]]), (4, .mp (List.map onM z0) none), (5, .ext Y z1)])) _ _ (pr e16 (pr e17 e18))
end Go.Ch
end
section
set_option linter.unusedVariables false
namespace Go.Ch
open Go Go.Ab

def root9 : Vis := ⟨1, 0, true⟩
def treeV (d : Doc) : List Vis := walkV d.nodes (d.nodes.length + 1) [] root9
theorem WOk.root {d : Doc} {Y : YSpec} {pre : List (List Tree)} (hV : DocV d) (ha : AdmY Y pre (treeV d)) : WOk d Y (d.nodes.length + 1) [] pre root9 :=
  ⟨hV.one, by have := List.length_filter_le (fun n : Node => decide (n.id ∉ ([] : List Int))) d.nodes; unfold muS; omega, ha⟩

/-! ### The two numbers of a visit -/
def encP (v : Vis) : List Tree := [TI v.id, TI v.parent]
def idP : List Tree → List Tree
  | [.agg (a :: b :: _)] => [a, b]
  | _ => []
theorem idP_enc (v : Vis) : idP (enc1 v) = encP v := rfl
def stopP (g : List (List Tree) → Bool) : List (List Tree) → List Vis → List Vis
  | _, [] => []
  | pre, x :: l => x :: (if g (pre ++ [encP x]) = true then stopP g (pre ++ [encP x]) l else [])
def AdmP (Y : YSpec) : List (List Tree) → List Vis → Prop
  | _, [] => True
  | pre, x :: l => Y.adm pre (encP x) ∧ (Y.goes (pre ++ [encP x]) = true → AdmP Y (pre ++ [encP x]) l)
theorem map_idP (p0 pre : List (List Tree)) (x : Vis) : p0 ++ (pre ++ [enc1 x]).map idP = p0 ++ pre.map idP ++ [encP x] := by simp [idP_enc]
theorem stop_conv {g : List (List Tree) → Bool} {p0 : List (List Tree)} : ∀ {l : List Vis} {pre : List (List Tree)}, stopY (fun p => g (p0 ++ p.map idP)) pre l = stopP g (p0 ++ pre.map idP) l
  | [], pre => rfl
  | x :: l, pre => by
    rw [stopY, stopP, map_idP, stop_conv, map_idP]
theorem adm_conv {Y Y2 : YSpec} {p0 : List (List Tree)} (hg : Y2.goes = fun p => Y.goes (p0 ++ p.map idP)) (ha : Y2.adm = fun p xs => ∃ v, xs = enc1 v ∧ Y.adm (p0 ++ p.map idP) (encP v)) : ∀ {l : List Vis} {pre : List (List Tree)}, AdmP Y (p0 ++ pre.map idP) l → AdmY Y2 pre l
  | [], pre, _ => trivial
  | x :: l, pre, h => by
    refine ⟨by rw [ha]; exact ⟨x, rfl, h.1⟩, fun q => ?_⟩
    rw [hg] at q
    have q' : Y.goes (p0 ++ pre.map idP ++ [encP x]) = true := by rw [← map_idP]; exact q
    have := h.2 q'
    rw [← map_idP] at this
    exact adm_conv hg ha this
theorem end_conv {g : List (List Tree) → Bool} {p0 : List (List Tree)} {l : List Vis} : p0 ++ (endP (fun p => g (p0 ++ p.map idP)) [] l).map idP = p0 ++ (stopP g p0 l).map encP := by
  unfold endP
  have := stop_conv (g := g) (p0 := p0) (l := l) (pre := [])
  rw [List.map_nil, List.append_nil] at this
  rw [this, List.nil_append, List.map_map]
  rfl

/-! ### As a loop meets it -/
theorem stop_take {J : Nat → Option Code} : ∀ {l : List Vis} {pre : List (List Tree)} {m : Nat}, m ≤ l.length → (∀ k, 0 < k → k < m → J (pre.length + k) = none) → (m = l.length ∨ (0 < m ∧ J (pre.length + m) ≠ none)) →
    stopP (fun p => (J p.length).isNone) pre l = l.take m
  | [], pre, m, h, _, _ => by simp [stopP]
  | x :: l, pre, 0, h, _, hm => by rcases hm with h | h; (simp at h); (omega)
  | x :: l, pre, m + 1, h, hj, hm => by
    rw [stopP, List.take_succ_cons]
    congr 1
    have e : (pre ++ [encP x]).length = pre.length + 1 := by simp
    by_cases hn : J (pre.length + 1) = none
    · rw [if_pos (by rw [e, hn]; rfl)]
      refine stop_take (by simpa using h) (fun k k1 k2 => ?_) ?_
      · rw [e, show pre.length + 1 + k = pre.length + (k + 1) by omega]; exact hj (k + 1) (by omega) (by omega)
      · rcases hm with hm | ⟨_, hm⟩
        · left; simpa using hm
        · by_cases q : m = 0
          · subst q; exact absurd hn hm
          · right; exact ⟨by omega, by rw [e, show pre.length + 1 + m = pre.length + (m + 1) by omega]; exact hm⟩
    · have q : m = 0 := Classical.byContradiction fun q => hn (hj 1 (by omega) (by omega))
      subst q
      rw [if_neg (by rw [e]; cases hh : J (pre.length + 1) with | none => exact absurd hh hn | some c => simp)]
      simp
theorem admP_loop {Y : YSpec} {J : Nat → Option Code} (hg : Y.goes = fun p => (J p.length).isNone) {vl : List Vis} (ha : ∀ k, k < vl.length → J k = none → Y.adm ((vl.take k).map encP) (encP (vl.getD k default))) (h0 : J 0 = none) : AdmP Y [] vl := by
  have key : ∀ (n k : Nat), vl.length - k = n → k ≤ vl.length → J k = none → AdmP Y ((vl.take k).map encP) (vl.drop k) := by
    intro n
    induction n with
    | zero => intro k h hk _; rw [List.drop_eq_nil_of_le (by omega)]; trivial
    | succ n ih =>
      intro k h hk hj
      have hlt : k < vl.length := by omega
      rw [drop_succD hlt]
      refine ⟨ha k hlt hj, fun q => ?_⟩
      have e : (vl.take k).map encP ++ [encP (vl.getD k default)] = (vl.take (k + 1)).map encP := by rw [takeD hlt, List.map_append]; rfl
      rw [e] at q ⊢
      refine ih (k + 1) (by omega) (by omega) ?_
      rw [hg] at q
      simp only [List.length_map, List.length_take, Nat.min_eq_left (show k + 1 ≤ vl.length by omega)] at q
      cases hh : J (k + 1) with
      | none => rfl
      | some c => rw [hh] at q; cases q
  have := key _ 0 rfl (Nat.zero_le _) h0
  simpa using this

/-! ### The search for one node -/
def gV (k : Int) (pre : List (List Tree)) : Bool := match pre.getLast? with
  | some [.agg (.sc (.int _ i) :: _)] => i != k
  | _ => true
def outT (k : Int) (pre : List (List Tree)) : Bool := pre.foldl (fun b xs => match xs with
  | [.agg [.sc (.int _ i), _, .sc (.bool c)]] => if i = k then c else b
  | _ => b) false
theorem gV_snoc (k : Int) (pre : List (List Tree)) (v : Vis) : gV k (pre ++ [enc1 v]) = (v.id != k) := by
  unfold gV; rw [List.getLast?_concat]; rfl
theorem outT_snoc (k : Int) (pre : List (List Tree)) (v : Vis) : outT k (pre ++ [enc1 v]) = if v.id = k then v.vis else outT k pre := by
  unfold outT; rw [List.foldl_append]; rfl
/-- Whether a node is visible: as its first visit says. -/
def visD (d : Doc) (k : Int) : Bool := ((treeV d).find? (fun v => v.id == k)).elim false Vis.vis
theorem out_find (k : Int) : ∀ {l : List Vis} {pre : List (List Tree)}, outT k (pre ++ (stopY (gV k) pre l).map enc1) = (l.find? (fun v => v.id == k)).elim (outT k pre) Vis.vis
  | [], pre => by simp [stopY]
  | x :: l, pre => by
    rw [stopY, gV_snoc, List.find?_cons]
    by_cases h : x.id = k
    · rw [if_neg (by simp [h]), show (x.id == k) = true by simp [h]]
      rw [List.map_cons, List.map_nil, outT_snoc, if_pos h]; rfl
    · rw [if_pos (by simp [h]), show (x.id == k) = false by simp [h]]
      rw [List.map_cons, List.append_cons, out_find k, outT_snoc, if_neg h]
theorem out_end (d : Doc) (k : Int) : outT k (endP (gV k) [] (treeV d)) = visD d k := by
  unfold endP visD; rw [out_find k]; rfl
theorem adm_vis {Y : YSpec} (ha : Y.adm = fun _ xs => ∃ v, xs = enc1 v) : ∀ {l : List Vis} {pre : List (List Tree)}, AdmY Y pre l
  | [], pre => trivial
  | x :: l, pre => ⟨by rw [ha]; exact ⟨x, rfl⟩, fun _ => adm_vis ha⟩

/-! ### The tree as a loop's values -/
theorem iter_of {P : Program} {gf : FuncId} {caps : List AVal} {C : List (Nat × Ob)} {e : Nat} {d : Doc} {J : Nat → Option Code} {m : Nat} {res : AVal} (hm : m ≤ (treeV d).length) (hj : ∀ k, 0 < k → k < m → J k = none) (he : m = (treeV d).length ∨ (0 < m ∧ J m ≠ none)) (h0 : J 0 = none)
    (h : ∀ Y : YSpec, YCalls P Y → AdmP Y [] (treeV d) → FC P gf (.yl e :: caps) (app emp ((e, .ext Y []) :: C)) res (app emp ((e, .ext Y ([] ++ (stopP Y.goes [] (treeV d)).map encP)) :: C))) :
    Iter P gf caps C e encP default (treeV d) J m res := by
  refine ⟨fun Y hg ha hY => ?_, hm⟩
  have := h Y hY (admP_loop hg ha h0)
  rw [hg, stop_take hm (by simpa using hj) (by simpa using he)] at this
  exact this
end Go.Ch
end
