/- Contracts by other numbers; results as immutable data; nil as an empty row; lengths. -/
import Derived.Test.YtbdbibmbfmlobaaAbSim
set_option linter.unusedVariables false
namespace Go.Ab
variable {P : Program} {w : World} {F : Nat → Prop} {S st : Store} {m : Place}

theorem FC.ren {f : FuncId} {args args' : List AVal} {res res' : AVal} {l0 l0' l1 l1' : List (Nat × Ob)} (h : FC P f args (app emp l0) res (app emp l1)) (τ0 τ : List (Nat × Nat))
    (c : (nodupB (τ0.map (·.1)) && nodupB (τ0.map (·.2)) && nodupB (τ.map (·.1)) && nodupB (τ.map (·.2)) && τ0.all (fun p => match lk τ p.1 with | some j => Nat.beq j p.2 | none => false)) = true)
    (h0 : renStore (inv τ0) (app emp l0') (inv τ0) = some l0) (ha : renL (inv τ0) args' = some args) (hl0 : l0'.all (fun x => hasId (τ0.map (·.2)) x.1) = true)
    (h1 : renStore τ (app emp l1) τ = some l1') (hr : renV τ res = some res') : FC P f args' (app emp l0') res' (app emp l1') := by
  simp only [Bool.and_eq_true] at c
  obtain ⟨⟨⟨⟨c1, c2⟩, c3⟩, c4⟩, c5⟩ := c
  have n1 := nodupB_iff.1 c1
  have n2 := nodupB_iff.1 c2
  have n3 := nodupB_iff.1 c3
  have n4 := nodupB_iff.1 c4
  have i1 : ((inv τ0).map (·.1)).Nodup := by simpa [inv, Function.comp_def] using n2
  have i2 : ((inv τ0).map (·.2)).Nodup := by simpa [inv, Function.comp_def] using n1
  have ii : inv (inv τ0) = τ0 := by simp [inv, Function.comp_def]
  have hext : ∀ i j, lk τ0 i = some j → lk τ i = some j := by
    intro i j hij
    have := List.all_eq_true.1 c5 (i, j) (lk_mem hij)
    simp only at this
    split at this
    · rename_i j' hj; rw [hj, Nat.eq_of_beq_eq_true this]
    · cases this
  have hin : ∀ j o, app emp l0' j = some o → ∃ i, lk (inv τ0) j = some i := by
    intro j o hj
    obtain ⟨x, hx, rfl⟩ := List.mem_map.1 (app_emp_some hj)
    have := hasId_iff.1 (List.all_eq_true.1 hl0 x hx)
    obtain ⟨p, hp, hp'⟩ := List.mem_map.1 this
    refine ⟨p.1, lk_of_mem i1 (List.mem_map.2 ⟨p, hp, by rw [hp']⟩)⟩
  intro F m w us hS hl hv
  obtain ⟨hR0, hb0⟩ := ren_store (m := m) i1 i2 h0
  obtain ⟨hS0, hok0⟩ := hS.ren i1 i2 h0
  obtain ⟨a1, a2⟩ := renL_some ha
  refine (h F (renPlace (inv τ0) m) w us hS0 (by rw [hl, a1]) (fun i v u hi hu => ?_)).mono ?_
  · obtain ⟨v', q1, q2⟩ := a2 i v hi
    exact (hv i v' u q1 hu).ren hR0 hok0 q2
  · rintro e w' ⟨v, m1, he, k1, k2, k3⟩
    obtain ⟨hR1, hb1⟩ := ren_store (m := m1) n3 n4 h1
    obtain ⟨hS1, hok1⟩ := k1.ren n3 n4 h1
    refine ⟨v, renPlace τ m1, he, hS1, ⟨k2.os, k2.tape, k2.output, k2.size, fun b hb hf => ?_, fun j o' ho' => ?_, fun j o' ho' hn b hbk => ?_⟩, k3.ren hR1 hok1 hr⟩
    · refine k2.block b hb ?_
      rcases hf with hf | hf
      · exact .inl hf
      · refine .inr fun i o ho hlv hm => ?_
        obtain ⟨j, o1, q1, q2, q3, q4⟩ := hb0 i o ho
        rw [q4] at hm
        exact hf j o1 q2 (by rw [(renO_same q3).2.1]; exact hlv) hm
    · obtain ⟨i, hi⟩ := hin j o' ho'
      obtain ⟨⟨o, q1, q2⟩, q3⟩ := hR0 j i hi o' ho'
      obtain ⟨o1, r1, r2, r3, r4, r5, r6⟩ := k2.keep i o q2
      have hij : lk τ i = some j := hext i j (by have := lk_inv i2 hi; rw [ii] at this; exact this)
      obtain ⟨⟨o2, s1, s2⟩, s3⟩ := hR1 i j hij o1 r1
      obtain ⟨t1, t2, t3⟩ := renO_same q1
      obtain ⟨u1, u2, u3⟩ := renO_same s1
      rw [q3] at r3 r5
      refine ⟨o2, s2, by omega, fun e => by rw [s3]; exact r3 (by omega), fun e => by rw [← u2]; exact r4 (by rw [← t2]; exact e), by rw [s3]; exact r5, ?_⟩
      cases o' <;> cases o <;> cases o1 <;> cases o2 <;> simp_all [Ob.same]
    · obtain ⟨i, o, q1, q2, q3, q4⟩ := hb1 j o' ho'
      rw [q4] at hbk
      refine k2.new i o q2 ?_ b hbk
      cases h2 : app emp l0 i with
      | none => rfl
      | some o0 =>
        obtain ⟨j', o1, r1, r2, r3, r4⟩ := hb0 i o0 h2
        have := hext i j' (by have := lk_inv i2 r1; rw [ii] at this; exact this)
        rw [q1] at this; cases this
        rw [hn] at r2; cases r2

/-- A result as immutable data. -/
def snapR (st : Store) : AVal → Option (AVal × List (Nat × Ob) × List Prop)
  | .tup vs => (snaps st vs).map fun (vs, f, c) => (.tup vs, f, c)
  | v => snap st v

theorem FC.snap {f : FuncId} {args : List AVal} {res res' : AVal} {l1 g : List (Nat × Ob)} {p : List Prop} (h : FC P f args emp res (app emp l1)) (hs : snapR (app emp l1) res = some (res', g, p)) (hp : All p) (hids : (idsV res').isEmpty = true) : FC P f args emp res' emp := by
  intro F m w us hS hl hv
  refine (h F m w us hS hl hv).mono ?_
  rintro e w' ⟨v, m1, he, k1, k2, k3⟩
  have hi : idsV res' = [] := by simpa using hids
  have key : VRel emp m1 w' (okB F emp m1 w') res' v := by
    have fin : SnapOk F (app emp l1) m1 w' res' g v → VRel emp m1 w' (okB F emp m1 w') res' v := by
      intro hk
      exact (hk.2 g hk.1 (fun x hx => hx)).restrict (fun b hb => ⟨hb.1, hb.2.1, fun id o h => by cases h⟩) (fun id hid => by rw [hi] at hid; cases hid)
    cases res with
    | tup vs =>
      simp only [snapR, Option.map_eq_some_iff] at hs
      obtain ⟨⟨vs', f', p'⟩, h1, h2⟩ := hs
      simp only [Prod.mk.injEq] at h2
      obtain ⟨rfl, rfl, rfl⟩ := h2
      cases k3 with
      | tup _ us' hl' h1' =>
        have := snaps_sound (fun _ _ h => h) k1 h1 hp hl' h1'
        exact fin ⟨this.2.1, fun g' hg hfg => .tup vs' us' this.1.symm (fun i v u hv hu => this.2.2 g' hg hfg i v u hv hu)⟩
    | t T => simp only [snapR] at hs; exact fin (snap_sound (fun _ _ h => h) k1 hs hp k3)
    | row id n => simp only [snapR] at hs; exact fin (snap_sound (fun _ _ h => h) k1 hs hp k3)
    | ptr id off => simp only [snapR] at hs; exact fin (snap_sound (fun _ _ h => h) k1 hs hp k3)
    | eptr id n i sub => simp only [snapR] at hs; exact fin (snap_sound (fun _ _ h => h) k1 hs hp k3)
    | cptr cs => simp only [snapR] at hs; exact fin (snap_sound (fun _ _ h => h) k1 hs hp k3)
    | agg cs => simp only [snapR] at hs; exact fin (snap_sound (fun _ _ h => h) k1 hs hp k3)
    | fn f cap => simp only [snapR] at hs; exact fin (snap_sound (fun _ _ h => h) k1 hs hp k3)
    | cond c v => simp only [snapR] at hs; exact fin (snap_sound (fun _ _ h => h) k1 hs hp k3)
    | junk => simp only [snapR] at hs; exact fin (snap_sound (fun _ _ h => h) k1 hs hp k3)
  exact ⟨v, m1, he, ⟨fun id o h => (by cases h), fun i j oi oj b h => (by cases h), fun id o b h => (by cases h), k1.low⟩,
    ⟨k2.os, k2.tape, k2.output, k2.size, k2.block, fun id o h => (by cases h), fun id o h => (by cases h)⟩, key⟩

theorem FC.eq {f : FuncId} {args args' : List AVal} {res res' : AVal} {s0 s1 : Store} (h : FC P f args s0 res s1) (ha : args = args') (hr : res = res') : FC P f args' s0 res' s1 := ha ▸ hr ▸ h

variable {n : Nat} {l0 : List (Nat × Ob)} {s : St} {Q : Exit → St → Prop}

/-- The length of a list that is there at all. -/
theorem Rel.len {a : Act} {t k : Nat} {xs : List Tree} (h : Rel F n s m a w) (hg : get s.sl t = .t (.lst k xs)) : xs.length ≤ 9223372036854775807 := by
  have := h.slots t
  rw [hg] at this
  cases this with
  | t _ _ hT =>
    generalize a.tmps.getD t undef = u at hT
    cases hT with
    | lst _ _ A c us hk hx hn hm hA hl hr => simp only [maxLen] at hm; omega
theorem Sim.len {c : Code} {t k : Nat} {xs : List Tree} (hg : get s.sl t = .t (.lst k xs)) (h : xs.length ≤ 9223372036854775807 → Sim P n l0 c s Q) : Sim P n l0 c s Q :=
  fun F m0 w0 m a w h0 h1 h2 => h (h1.len hg) F m0 w0 m a w h0 h1 h2

theorem nil_row_ext {id k : Nat} (hid : S id = none) (hS : SRel F S m w) (hk : 0 < k) : SRel F (upd S id (.row k false [])) (place m id (none, 0)) w ∧ FrameExt F S m w (upd S id (.row k false [])) (place m id (none, 0)) w := by
  have hF := ext_new (F := F) (S := S) (m := m) (w := w) (w' := w) (o := .row k false []) (L := (none, 0)) hid rfl rfl rfl (Nat.le_refl _) (fun _ _ => rfl) (fun b hb => by simp at hb)
  exact ⟨hS.new hid hF (fun _ _ => rfl) (fun b hb => by simp at hb) ⟨hk, fun x hx => by simp at hx, by simp, by simp [maxLen], .inl ⟨rfl, rfl⟩⟩, hF⟩

/-- A slot that holds nil holds an empty row of its own. -/
theorem Le.nilRow {t k id : Nat} (hg : get s.sl t = .t (.sc (.slice none 0 0))) (hid : Nat.ble s.nx id = true) (hk : Nat.blt 0 k = true) :
    Le n l0 s ⟨(t, .row id 0) :: s.sl, upd s.st id (.row k false []), id + 1⟩ := by
  intro F m0 w0 m a w h0 h1 h2
  have hid := Nat.le_of_ble_eq_true hid
  obtain ⟨k1, k2⟩ := nil_row_ext (k := k) (h1.fresh id hid) h1.srel (blt_pos hk)
  refine ⟨place m id (none, 0), ⟨fun t' => ?_, h1.size, h1.defers, k1, fun id' hid' => ?_⟩, h2.trans h0 k2⟩
  · simp only [get]
    by_cases e : t = t'
    · subst e
      have := h1.slots t
      rw [hg] at this
      have hu := VRel.sc_inv this
      simp only [Nat.beq_refl, cond_true]
      rw [hu]
      exact .row id 0 k false [] (none, 0) (upd_same _ _ _) (Nat.le_refl _) (fun _ => place_same _ _ _)
    · rw [beq_ne e, cond_false]
      exact k2.val (h1.slots t')
  · show upd s.st id _ id' = none
    simp only at hid'
    rw [upd_ne (by omega)]
    exact h1.fresh id' (by omega)

/-- A box's cell that holds nil. -/
theorem Le.nilBox {b i k id : Nat} {cs : List AVal} (hb : s.st b = some (.box cs)) (hg : cs[i]? = some (.t (.sc (.slice none 0 0)))) (hid : Nat.ble s.nx id = true) (hk : Nat.blt 0 k = true) :
    Le n l0 s ⟨s.sl, upd (upd s.st id (.row k false [])) b (.box (cs.set i (.row id 0))), id + 1⟩ := by
  intro F m0 w0 m a w h0 h1 h2
  have hid := Nat.le_of_ble_eq_true hid
  have hbid : b ≠ id := fun e => by subst e; rw [h1.fresh b hid] at hb; cases hb
  obtain ⟨k1, k2⟩ := nil_row_ext (k := k) (h1.fresh id hid) h1.srel (blt_pos hk)
  have hb' : upd s.st id (.row k false []) b = some (.box cs) := by rw [upd_ne hbid]; exact hb
  obtain ⟨bb, us, e, q1, q2, q3, q4⟩ := k1.objs b _ hb'
  have key := rewrite_obj (o' := .box (cs.set i (.row id 0))) k1 hb' rfl q1 (w' := w) rfl rfl rfl rfl (fun _ _ => rfl) (by simp [Ob.len]) (by simp [Ob.same]) (fun hF => by
    refine ⟨bb, us, e, q1, q2, by simp [q3], fun j v u hv hu => ?_⟩
    rw [List.getElem?_set] at hv
    split at hv
    · rename_i hij
      subst hij
      split at hv
      · simp only [Option.some.injEq] at hv
        subst hv
        obtain ⟨r1, r2⟩ := q4 i _ u hg hu
        have := VRel.sc_inv r1
        subst this
        exact ⟨.row id 0 k false [] (none, 0) (by rw [upd_ne (Ne.symm hbid)]; exact upd_same _ _ _) (Nat.le_refl _) (fun _ => place_same _ _ _), rfl⟩
      · cases hv
    · obtain ⟨r1, r2⟩ := q4 j v u hv hu
      exact ⟨hF.val r1, r2⟩)
  refine ⟨_, ⟨fun t' => key.2.val (k2.val (h1.slots t')), h1.size, h1.defers, key.1, fun id' hid' => ?_⟩, h2.trans h0 (k2.trans h1.srel key.2)⟩
  show upd (upd s.st id _) b _ id' = none
  simp only at hid'
  rw [upd_ne (fun e => by subst e; rw [h1.fresh id' (by omega)] at hb; cases hb), upd_ne (by omega)]
  exact h1.fresh id' (by omega)

/-! ### Small steps for the printed proofs -/
theorem andThen_normal {R : St → Prop} (h : R s) : andThen R Q .normal s := h
theorem andThen_ret {R : St → Prop} (h : Q .ret s) : andThen R Q .ret s := h
theorem andThen_exit {R : St → Prop} {i : Nat} (h : Q (.exit i) s) : andThen R Q (.exit i) s := h
theorem inBlk_normal {id : Nat} (h : Q .normal s) : inBlk id Q .normal s := h
theorem inBlk_ret {id : Nat} (h : Q .ret s) : inBlk id Q .ret s := h
theorem inBlk_same {id : Nat} (h : Q .normal s) : inBlk id Q (.exit id) s := by simp only [inBlk, if_true]; exact h
theorem inBlk_other {id i : Nat} (hi : i ≠ id) (h : Q (.exit i) s) : inBlk id Q (.exit i) s := by simp only [inBlk]; rw [if_neg hi]; exact h
theorem loop_ind {α : Type} {c : Code} (S : α → St) (I : α → Prop) (μ : α → Nat) (round : ∀ a, I a → (∀ b, I b → μ b < μ a → LoopSim P n l0 c (S b) Q) → LoopSim P n l0 c (S a) Q) (a : α) (ha : I a) : LoopSim P n l0 c (S a) Q := by
  have key : ∀ N a, μ a = N → I a → LoopSim P n l0 c (S a) Q := by
    intro N
    induction N using Nat.strongRecOn with
    | _ N ih => intro a hN hI; exact round a hI (fun b hb hlt => ih (μ b) (hN ▸ hlt) b rfl hb)
  exact key _ a rfl ha
theorem Fin.mk {rs : List ResultVar} {res : AVal} {l1 : List (Nat × Ob)} {e : Exit} {τ : List (Nat × Nat)} {keys : List Nat} {nx : Nat} {sl : List (Nat × AVal)} (he : e = .ret ∨ e = .normal) (h : renSt l0 τ keys nx s = some (sl, l1)) (hr : resV rs sl = some res) :
    Fin n l0 rs res l1 e s := ⟨he, ⟨sl, app emp l1, nx⟩, Le.ren h, rfl, hr⟩

/-! ### Conditions -/
theorem nw {z : Int} (h : -9223372036854775808 ≤ z ∧ z ≤ 9223372036854775807) : AVal.t (.sc (.int .i64 z)) = AVal.t (.sc (.int .i64 (IntKind.i64.wrap z))) := by rw [IntWalk.i64_in z h]
theorem elt_map {α : Type} [Inhabited α] {f : α → Tree} {l : List α} {j : Int} (h0 : 0 ≤ j) (h : j < l.length) : (l.map f)[j.toNat]? = some (f (l.getD j.toNat default)) := by
  have hl : j.toNat < l.length := by omega
  simp [List.getElem?_eq_getElem hl, List.getD]
theorem elt_map' {α : Type} [Inhabited α] {f : α → Tree} {l : List α} {j : Int} {k : Nat} (e : j = k) (h : k < l.length) : (l.map f)[j.toNat]? = some (f (l.getD k default)) := by
  subst e
  simp [List.getElem?_eq_getElem h, List.getD]
/-- Strings as lists of bytes. -/
def slt (x y : ByteArray) : Bool := Op.bytesLess x.toList y.toList
def seq (x y : ByteArray) : Bool := x.toList == y.toList

end Go.Ab
