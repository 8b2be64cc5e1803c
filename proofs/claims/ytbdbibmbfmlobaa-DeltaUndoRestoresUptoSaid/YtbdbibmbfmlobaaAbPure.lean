/- The operations that only read, one by one. -/
import Derived.Test.YtbdbibmbfmlobaaAbOps
import Derived.Laws.StructEq
set_option linter.unusedVariables false
namespace Go.Ab
variable {P : Program} {w : World}

theorem pure1_some {v : AVal} {c : List Prop} {δ : Dl} (h : pure1 v c = some δ) : δ = ⟨v, [], c⟩ := by
  simp only [pure1, Option.some.injEq] at h; exact h.symm

theorem tfield_some {s : TypeId} {i : Nat} {f : Field} (h : tfield P s i = some f) : ∃ fs, P.underlying s = some (.struct fs) ∧ fs[i]? = some f := by
  unfold tfield at h
  split at h
  · rename_i fs hu; exact ⟨fs, hu, h⟩
  · cases h

section
variable {F : Nat → Prop} {S st : Store} {m : Place}

theorem fieldAddrK_sound {s : TypeId} {av : AVal} {i : Nat} {δ : Dl} (h : fieldAddrK P s av i = some δ) (hS : SRel F S m w) {u : Value} (hv : VRel S m w (okB F S m w) av u) :
    ∃ v, (Instr.fieldAt s u i).run P w = .ok v w ∧ VRel S m w (okB F S m w) δ.val v ∧ δ.wr = [] := by
  unfold fieldAddrK at h
  simp only [Option.bind_eq_some_iff] at h
  obtain ⟨f, hf, z, hz, h⟩ := h
  obtain ⟨fs, hu, hfs⟩ := tfield_some hf
  cases hz0 : Nat.beq z 0 with
  | true => simp only [hz0, cond_true] at h; cases h
  | false =>
    simp only [hz0, cond_false] at h
    have hz1 : z ≠ 0 := fun e => by subst e; simp at hz0
    have run : ∀ b o, (Instr.fieldAt s (.pointer (some ⟨b, o, none⟩)) i).run P w = .ok (.pointer (some ⟨b, o + f.offset, none⟩)) w := by
      intro b o
      simp [Instr.fieldAt, run_underlying hu, hfs, Instr.sureAddr, fieldPlace, run_sizeOf' hz, hz1, add_lit']
    split at h
    · rename_i id off
      have := pure1_some h; subst this
      cases hv with
      | ptr _ _ cs b hs hm => exact ⟨_, run b off, .ptr id _ cs b hs hm, rfl⟩
    · rename_i id n j sub
      have := pure1_some h; subst this
      cases hv with
      | eptr _ _ _ _ k fz xs b hs hn hu' =>
        exact ⟨_, run b _, by rw [Nat.add_assoc]; exact .eptr id n j _ k fz xs b hs hn hu', rfl⟩
    · rename_i cs
      cases hb : Nat.ble f.offset cs.length with
      | false => simp only [hb, cond_false] at h; cases h
      | true =>
        simp only [hb, cond_true] at h
        have hle : f.offset ≤ cs.length := Nat.le_of_ble_eq_true hb
        have := pure1_some h; subst this
        cases hv with
        | cptr _ b o us hb hl hc hcell hT =>
          refine ⟨_, run b o, .cptr _ b _ (us.drop f.offset) hb (by simp [hl]) (fun T hT => hc T (List.mem_of_mem_drop hT)) (fun j u hu => ?_) (fun j T u h1 h2 => ?_), rfl⟩
          · rw [List.getElem?_drop] at hu
            rw [Nat.add_assoc]
            exact hcell _ u hu
          · rw [List.getElem?_drop] at h1 h2
            exact hT _ T u h1 h2
    · cases h

theorem VRel.sc_inv {ok : Nat → Prop} {v u : Value} (h : VRel S m w ok (.t (.sc v)) u) : u = v := by
  cases h with
  | t _ _ h => cases h; rfl

theorem fieldK_sound {s : TypeId} {av : AVal} {i : Nat} {δ : Dl} (h : fieldK P s av i = some δ) {u : Value} (hv : VRel S m w (okB F S m w) av u) :
    ∃ v, (Instr.field s u i).run P w = .ok v w ∧ VRel S m w (okB F S m w) δ.val v ∧ δ.wr = [] := by
  unfold fieldK at h
  simp only [Option.bind_eq_some_iff] at h
  obtain ⟨f, hf, z, hz, ag, hag, h⟩ := h
  obtain ⟨fs, hu, hfs⟩ := tfield_some hf
  have run : ∀ us : List Value, (ag = false → z = 1) → f.offset + z ≤ us.length ∨ z = 0 → (Instr.field s (.agg us.toArray) i).run P w = .ok (loaded ag ((us.drop f.offset).take z)) w := by
    intro us h1 hle
    cases ag with
    | true =>
      simp [Instr.field, run_underlying hu, hfs, asAgg, Go.part, run_isAgg' hag, run_sizeOf' hz, loaded]
    | false =>
      have hz1 := h1 rfl
      subst hz1
      have hlt : f.offset < us.length := by omega
      simp [Instr.field, run_underlying hu, hfs, asAgg, Go.part, run_isAgg' hag, loaded, hlt]
      rw [List.drop_eq_getElem_cons hlt]
      rfl
  split at h
  · rename_i cs
    simp only [Option.bind_eq_some_iff] at h
    obtain ⟨v, ⟨r, hr, hmk⟩, hp⟩ := h
    have := pure1_some hp; subst this
    cases hv with
    | agg _ us hl hc h1 =>
      obtain ⟨hr1, hr2⟩ := part_some hr
      have hlen : ((us.drop f.offset).take z).length = r.length := by rw [hr1]; simp [hl]
      obtain ⟨hval, hone⟩ := mkV_rel hmk hlen (fun j v u hj hu => by
        have hj' := part_get hr hj
        rw [List.getElem?_take] at hu
        split at hu
        · rw [List.getElem?_drop] at hu
          exact ⟨hc _ v u hj' hu, h1 u (List.mem_of_getElem? hu)⟩
        · cases hu)
      exact ⟨_, run us (fun e => by rw [← hr2]; exact hone e) (by have := part_len hr; rw [hl]; omega), hval, rfl⟩
  · rename_i cs
    simp only [Option.bind_eq_some_iff] at h
    obtain ⟨v, ⟨r, hr, hmk⟩, hp⟩ := h
    have := pure1_some hp; subst this
    cases hv with
    | t _ _ hT =>
      cases hT with
      | agg _ us hl hc h1 =>
        obtain ⟨hr1, hr2⟩ := part_some hr
        have hlen : ((us.drop f.offset).take z).length = r.length := by rw [hr1]; simp [hl]
        obtain ⟨hval, hone⟩ := mkT_rel (w := w) (ok := okB F S m w) hmk hlen (fun T hT => hc T (List.mem_of_mem_drop (List.mem_of_mem_take (hr1 ▸ hT)))) (fun j v u hj hu => by
          have hj' := part_get hr hj
          rw [List.getElem?_take] at hu
          split at hu
          · rw [List.getElem?_drop] at hu
            exact h1 _ v u hj' hu
          · cases hu)
        exact ⟨_, run us (fun e => by rw [← hr2]; exact hone e) (by have := part_len hr; rw [hl]; omega), .t _ _ hval, rfl⟩
  · cases h

theorem szIs_eq {e : TypeId} {k : Nat} (h : szIs P e k = true) : tsz P e = some k := by
  unfold szIs at h
  split at h
  · rename_i z hz; rw [hz, Nat.eq_of_beq_eq_true h]
  · cases h
theorem bif_some {α : Type} {b : Bool} {x : Option α} {r : α} (h : (bif b then x else none) = some r) : b = true ∧ x = some r := by
  cases b with
  | true => exact ⟨rfl, h⟩
  | false => cases h

theorem indexAddrK_sound {t : TypeId} {x i : AVal} {c : Orc} {δ : Dl} (h : indexAddrK P t x i st c = some δ) (hc : All δ.cnd) (hst : ∀ id o, st id = some o → S id = some o) (hS : SRel F S m w)
    {ux ui : Value} (hx : VRel S m w (okB F S m w) x ux) (hi : VRel S m w (okB F S m w) i ui) :
    ∃ v, (Instr.indexAt t ux ui).run P w = .ok v w ∧ VRel S m w (okB F S m w) δ.val v ∧ δ.wr = [] := by
  unfold indexAddrK at h
  split at h
  · rename_i e k xs ik j hu
    have hui := VRel.sc_inv hi
    subst hui
    simp only at h
    obtain ⟨hz, h⟩ := bif_some h
    have hz := szIs_eq hz
    have := pure1_some h; subst this
    simp only [All] at hc
    obtain ⟨hj, hX, -⟩ := hc
    generalize eltOf c xs j.toNat = X at hX
    cases hx with
    | t _ _ hT =>
      cases hT with
      | lst _ _ A cap us hk hxx hn hm hA hl hrep =>
        have hlt : j.toNat < xs.length := (List.getElem?_eq_some_iff.1 hX).1
        obtain ⟨b, o, rfl, hb, hcell⟩ := hA (fun e => by subst e; simp at hlt)
        have hE := hxx X (List.mem_of_getElem? hX)
        have hbig : (j.toNat + 1) * k ≤ us.length := by rw [hl]; exact Nat.mul_le_mul_right k (by omega)
        rw [Nat.add_mul] at hbig
        refine ⟨.pointer (some ⟨b, o + j.toNat * k, none⟩), ?_, ?_, rfl⟩
        · have h2 : j < (xs.length : Int) := by omega
          simp [Instr.indexAt, asIntOf, run_underlying hu, run_sizeOf' hz, hj, h2, add_lit']
        · refine .cptr _ b _ ((us.drop (j.toNat * k)).take k) hb (by rw [hE.1]; simp; omega) hE.2 (fun q u hq => ?_) (fun q T u h1 h2 => ?_)
          · rw [List.getElem?_take] at hq
            split at hq
            · rw [List.getElem?_drop] at hq
              rw [Nat.add_assoc]
              exact hcell _ u hq
            · cases hq
          · rw [List.getElem?_take] at h2
            split at h2
            · rename_i hqk
              rw [List.getElem?_drop] at h2
              exact hrep _ T u ((flat_get hxx hX hqk).trans h1) h2
            · cases h2
  · rename_i e id n ik j hu
    have hui := VRel.sc_inv hi
    subst hui
    split at h
    rotate_left
    · cases h
    rename_i k fz xs hs
    obtain ⟨hz, h⟩ := bif_some h
    have hz := szIs_eq hz
    have := pure1_some h; subst this
    simp only [All] at hc
    obtain ⟨hn, hj, hjn, -⟩ := hc
    cases hx with
    | row _ _ k' fz' xs' L hs' hn' hu' =>
      have hs2 := hst id _ hs
      rw [hs2] at hs'
      cases hs'
      have hL := hu' hn
      have := hS.objs id _ hs2
      obtain ⟨a1, a2, a3, a4, a5⟩ := this
      rcases a5 with ⟨a5, a6⟩ | ⟨b, us, e, h1, h2, h3, h4, h5⟩
      · rw [a6] at a3; omega
      · subst hL
        refine ⟨.pointer (some ⟨b, j.toNat * k + 0, none⟩), ?_, .eptr id n _ 0 k fz xs b hs2 hn' (fun _ => h1), rfl⟩
        simp [Instr.indexAt, asIntOf, run_underlying hu, run_sizeOf' hz, hj, hjn, rowVal, h1, add_lit']
  · rename_i len e id off ik j hu
    have hui := VRel.sc_inv hi
    subst hui
    simp only [Option.bind_eq_some_iff] at h
    obtain ⟨z, hz, h⟩ := h
    have := pure1_some h; subst this
    simp only [All] at hc
    obtain ⟨hj, hjn, -⟩ := hc
    cases hx with
    | ptr _ _ cs b hs hm =>
      refine ⟨.pointer (some ⟨b, off + j.toNat * z, none⟩), ?_, .ptr id _ cs b hs hm, rfl⟩
      simp [Instr.indexAt, asIntOf, run_underlying hu, run_sizeOf' hz, hj, hjn, Instr.sureAddr, add_lit']
  · cases h

theorem indexK_sound {t : TypeId} {x i : AVal} {δ : Dl} (h : indexK P t x i = some δ) (hc : All δ.cnd)
    {ux ui : Value} (hx : VRel S m w (okB F S m w) x ux) (hi : VRel S m w (okB F S m w) i ui) :
    ∃ v, (Instr.index t ux ui).run P w = .ok v w ∧ VRel S m w (okB F S m w) δ.val v ∧ δ.wr = [] := by
  unfold indexK at h
  split at h
  · rename_i s ik j hu
    have := pure1_some h; subst this
    have := VRel.sc_inv hx; subst this
    have := VRel.sc_inv hi; subst this
    simp only [All] at hc
    obtain ⟨hj, hjn, -⟩ := hc
    have hlt : j.toNat < s.size := by omega
    refine ⟨_, ?_, .t _ _ (.sc _ rfl), rfl⟩
    simp [Instr.index, asIntOf, run_underlying hu, hj, hlt]
  · cases h

theorem unK_sound {op : UnOp} {x : AVal} {δ : Dl} (h : unK op x = some δ) {ux : Value} (hx : VRel S m w (okB F S m w) x ux) :
    ∃ v, (Op.unary op ux).run P w = .ok v w ∧ VRel S m w (okB F S m w) δ.val v ∧ δ.wr = [] := by
  unfold unK at h
  split at h
  · have := pure1_some h; subst this
    have := VRel.sc_inv hx; subst this
    exact ⟨_, by simp [Op.unary], .t _ _ (.sc _ rfl), rfl⟩
  · have := pure1_some h; subst this
    have := VRel.sc_inv hx; subst this
    exact ⟨_, by simp [Op.unary, Op.intArith], .t _ _ (.sc _ rfl), rfl⟩
  · cases h

theorem convK_sound {src dst : TypeId} {x : AVal} {δ : Dl} (h : convK P src dst x = some δ) {ux : Value} (hx : VRel S m w (okB F S m w) x ux) :
    ∃ v, (convert src dst ux).run P w = .ok v w ∧ VRel S m w (okB F S m w) δ.val v ∧ δ.wr = [] := by
  unfold convK at h
  split at h
  · rename_i d k ik n hs hd
    have := pure1_some h; subst this
    have := VRel.sc_inv hx; subst this
    exact ⟨_, by simp [convert, run_underlying hs, run_underlying hd, Conv.intToInt], .t _ _ (.sc _ rfl), rfl⟩
  · rename_i s hs hd
    have := pure1_some h; subst this
    have := VRel.sc_inv hx; subst this
    exact ⟨_, by simp [convert, run_underlying hs, run_underlying hd], .t _ _ (.sc _ rfl), rfl⟩
  · cases h

theorem lenK_sound {t ty : TypeId} {x : AVal} {δ : Dl} (h : lenK P t x st = some δ) {ux : Value} (hx : VRel S m w (okB F S m w) x ux) :
    ∃ v, (Builtin.len_ #[t] ty #[ux]).run P w = .ok v w ∧ VRel S m w (okB F S m w) δ.val v ∧ δ.wr = [] := by
  unfold lenK at h
  split at h
  · rename_i s hu
    have := pure1_some h; subst this
    have := VRel.sc_inv hx; subst this
    exact ⟨_, by simp [Builtin.len_, run_underlying hu, goInt], .t _ _ (.sc _ rfl), rfl⟩
  · rename_i e k xs hu
    have := pure1_some h; subst this
    cases hx with
    | t _ _ hT =>
      cases hT with
      | lst _ _ A cap us hk hxx hn hm hA hl hrep =>
        exact ⟨_, by simp [Builtin.len_, run_underlying hu, goInt], .t _ _ (.sc _ rfl), rfl⟩
  · rename_i e A n c hu
    have := pure1_some h; subst this
    have := VRel.sc_inv hx; subst this
    exact ⟨_, by simp [Builtin.len_, run_underlying hu, goInt], .t _ _ (.sc _ rfl), rfl⟩
  · rename_i e id n hu
    have := pure1_some h; subst this
    cases hx with
    | row _ _ k' fz' xs' L hs' hn' hu' =>
      exact ⟨_, by simp [Builtin.len_, run_underlying hu, goInt, rowVal], .t _ _ (.sc _ rfl), rfl⟩
  · rename_i n e hu
    have := pure1_some h; subst this
    exact ⟨_, by simp [Builtin.len_, run_underlying hu, goInt], .t _ _ (.sc _ rfl), rfl⟩
  · cases h

theorem eqC_cases {d : Option TypeDesc} {a b : Tree} {r : Bool} (h : eqC d a b = some r) :
    (∃ k k' x y, d = some (.int k') ∧ a = .sc (.int k x) ∧ b = .sc (.int k y) ∧ r = (x == y)) ∨
    (∃ x y, d = some .string ∧ a = .sc (.string x) ∧ b = .sc (.string y) ∧ r = (x.toList == y.toList)) ∨
    (∃ x y, d = some .bool ∧ a = .sc (.bool x) ∧ b = .sc (.bool y) ∧ r = (x == y)) := by
  unfold eqC at h
  split at h
  · split at h
    · split at h
      · rename_i e; subst e; simp only [Option.some.injEq] at h; exact .inl ⟨_, _, _, _, rfl, rfl, rfl, h.symm⟩
      · cases h
    · cases h
  · split at h
    · simp only [Option.some.injEq] at h; exact .inr (.inl ⟨_, _, rfl, rfl, rfl, h.symm⟩)
    · cases h
  · split at h
    · simp only [Option.some.injEq] at h; exact .inr (.inr ⟨_, _, rfl, rfl, rfl, h.symm⟩)
    · cases h
  · cases h

theorem eqFields_run (d : Nat) (xs ys : Array Value) : ∀ (fs : List Field) (i : Nat) (a b : List Tree) (r : Bool), eqL P i fs a b = some r →
    (∀ (j : Nat) (v : Value), a[j]? = some (.sc v) → xs[i + j]? = some v) → (∀ (j : Nat) (v : Value), b[j]? = some (.sc v) → ys[i + j]? = some v) →
    (Op.eqFields (d + 1) xs ys fs).run P w = .ok r w
  | [], i, [], [], r, h, _, _ => by simp [eqL] at h; subst h; simp [Op.eqFields]
  | [], i, _ :: _, _, r, h, _, _ => by simp [eqL] at h
  | [], i, [], _ :: _, r, h, _, _ => by simp [eqL] at h
  | f :: fs, i, [], _, r, h, _, _ => by simp [eqL] at h
  | f :: fs, i, _ :: _, [], r, h, _, _ => by simp [eqL] at h
  | f :: fs, i, a :: l, b :: l', r, h, hx, hy => by
    simp only [eqL] at h
    obtain ⟨hc, h⟩ := bif_some h
    simp only [Bool.and_eq_true, bne_iff_ne, ne_eq] at hc
    have ho := Nat.eq_of_beq_eq_true hc.1
    split at h
    rotate_left
    · cases h
    rename_i x y hxy hr
    simp only [Option.some.injEq] at h
    have ih := eqFields_run d xs ys fs (i + 1) l l' y hr (fun j v hj => by rw [show i + 1 + j = i + (j + 1) by omega]; exact hx (j + 1) v hj) (fun j v hj => by rw [show i + 1 + j = i + (j + 1) by omega]; exact hy (j + 1) v hj)
    have key : ∀ va vb, a = .sc va → b = .sc vb → (tagg P f.type = some false) → (Op.equalIn (d + 1) f.type va vb).run P w = .ok x w → (Op.eqFields (d + 1) xs ys (f :: fs)).run P w = .ok r w := by
      intro va vb ha hb ht he
      have h1 := hx 0 va (by simp [ha])
      have h2 := hy 0 vb (by simp [hb])
      simp only [Nat.add_zero] at h1 h2
      simp only [Op.eqFields, hc.2, ne_eq, not_false_eq_true, if_true, Sem.run_bind, Go.part, run_isAgg' ht, Result.andThen_ok, Bool.false_eq_true, if_false, ho, h1, h2, Sem.run_pure, he, Sem.run_ite]
      rw [← h]
      cases x
      · simp
      · simp [ih]
    rcases eqC_cases hxy with ⟨k, k', p, q, hd, ha, hb, rfl⟩ | ⟨p, q, hd, ha, hb, rfl⟩ | ⟨p, q, hd, ha, hb, rfl⟩
    · exact key _ _ ha hb (by simp [tagg, hd]) (run_equalIn_int w d f.type k k' p q hd)
    · exact key _ _ ha hb (by simp [tagg, hd]) (run_equalIn_string w d f.type p q hd)
    · exact key _ _ ha hb (by simp [tagg, hd]) (run_equalIn_bool' w d f.type p q hd)

theorem structEq_run {t : TypeId} {a b : List Tree} {r : Bool} (h : structEq P t a b = some r) {us vs : List Value}
    (hx : ∀ (j : Nat) (v : Value), a[j]? = some (.sc v) → us[j]? = some v) (hy : ∀ (j : Nat) (v : Value), b[j]? = some (.sc v) → vs[j]? = some v) :
    (Op.equalIn 10000 t (.agg us.toArray) (.agg vs.toArray)).run P w = .ok r w ∧ P.eqGuardType P.depth t = false := by
  unfold structEq at h
  split at h
  rotate_left
  · cases h
  rename_i fs hu
  obtain ⟨hc, h⟩ := bif_some h
  simp only [Bool.and_eq_true, Bool.not_eq_true'] at hc
  have hfs : P.fieldsOf t = fs := by simp [Program.fieldsOf, hu]
  refine ⟨?_, hc.2⟩
  have := run_equalIn_struct (P := P) w 9999 t us.toArray vs.toArray (by rw [hfs]; exact hu) hc.1
  rw [this, hfs]
  exact eqFields_run 9998 us.toArray vs.toArray fs.toList 0 a b r h (fun j v hj => by simpa using hx j v hj) (fun j v hj => by simpa using hy j v hj)

theorem binK_sound {op : BinOp} {t : TypeId} {x y : AVal} {δ : Dl} (h : binK P op t x y = some δ) (hc : All δ.cnd) {ux uy : Value} {ox oy : Operand}
    (hx : VRel S m w (okB F S m w) x ux) (hy : VRel S m w (okB F S m w) y uy) :
    ∃ v, (do eqGuard op t ox oy ux uy; binOp op t ux uy).run P w = .ok v w ∧ VRel S m w (okB F S m w) δ.val v ∧ δ.wr = [] := by
  unfold binK at h
  split at h
  · rename_i k a k' b
    have := VRel.sc_inv hx; subst this
    have := VRel.sc_inv hy; subst this
    split at h
    rotate_left
    · cases h
    rename_i hk
    subst hk
    have hg : (eqGuard op t ox oy (.int k a) (.int k b)).run P w = .ok () w := by cases op <;> simp [eqGuard]
    cases op <;> simp only [binA] at h <;> first
      | (cases h; done)
      | (have := pure1_some h; subst this
         simp only [All] at hc
         refine ⟨_, ?_, .t _ _ (.sc _ rfl), rfl⟩
         simp only [Sem.run_bind, hg, Result.andThen_ok]
         simp [binOp, Op.intArith, Op.intDiv, Op.intCmp, hc])
  · rename_i a b
    have := VRel.sc_inv hx; subst this
    have := VRel.sc_inv hy; subst this
    have hg : (eqGuard op t ox oy (.string a) (.string b)).run P w = .ok () w := by cases op <;> simp [eqGuard]
    cases op <;> simp only [binS] at h <;> first
      | (cases h; done)
      | (have := pure1_some h; subst this
         simp only [All] at hc
         refine ⟨_, ?_, .t _ _ (.sc _ rfl), rfl⟩
         simp only [Sem.run_bind, hg, Result.andThen_ok]
         simp [binOp, Op.stringOp]
         try simpa using hc.1)
  · rename_i a b
    have := VRel.sc_inv hx; subst this
    have := VRel.sc_inv hy; subst this
    have hg : (eqGuard op t ox oy (.bool a) (.bool b)).run P w = .ok () w := by cases op <;> simp [eqGuard]
    split at h
    · rename_i hu
      have := pure1_some h; subst this
      refine ⟨_, ?_, .t _ _ (.sc _ rfl), rfl⟩
      have he := run_equalIn_bool' (P := P) w 9999 t a b hu
      simp only [Sem.run_bind, hg, Result.andThen_ok, binOp, Op.equal, Op.maxDepth, he]
      simp
    · rename_i hu
      have := pure1_some h; subst this
      refine ⟨_, ?_, .t _ _ (.sc _ rfl), rfl⟩
      have he := run_equalIn_bool' (P := P) w 9999 t a b hu
      simp only [Sem.run_bind, hg, Result.andThen_ok, binOp, Op.equal, Op.maxDepth, he]
      simp
    · cases h
  · rename_i a b
    cases hx with
    | t _ _ hTx =>
      cases hTx with
      | agg _ us hlx hcx h1x =>
        cases hy with
        | t _ _ hTy =>
          cases hTy with
          | agg _ vs hly hcy h1y =>
            have hxs : ∀ (i : Nat) (v : Value), a[i]? = some (.sc v) → us[i]? = some v := fun i v hi => by
              have hil : i < us.length := by rw [hlx]; exact (List.getElem?_eq_some_iff.1 hi).1
              have := h1x i _ _ hi (List.getElem?_eq_getElem hil)
              generalize hu : us[i] = uu at this
              cases this
              rw [List.getElem?_eq_getElem hil, hu]
            have hys : ∀ (i : Nat) (v : Value), b[i]? = some (.sc v) → vs[i]? = some v := fun i v hi => by
              have hil : i < vs.length := by rw [hly]; exact (List.getElem?_eq_some_iff.1 hi).1
              have := h1y i _ _ hi (List.getElem?_eq_getElem hil)
              generalize hu : vs[i] = uu at this
              cases this
              rw [List.getElem?_eq_getElem hil, hu]
            have run : ∀ r, structEq P t a b = some r → (Op.equalIn 10000 t (.agg us.toArray) (.agg vs.toArray)).run P w = .ok r w ∧ (eqGuard op t ox oy (.agg us.toArray) (.agg vs.toArray)).run P w = .ok () w := fun r hr =>
              ⟨(structEq_run hr hxs hys).1, run_eqGuard_agg w op t ox oy _ _ (structEq_run (w := w) hr hxs hys).2⟩
            split at h
            · rename_i r hr
              have := pure1_some h; subst this
              refine ⟨_, ?_, .t _ _ (.sc _ rfl), rfl⟩
              simp only [Sem.run_bind, (run r hr).2, Result.andThen_ok, run_eql_struct, (run r hr).1]
            · rename_i r hr
              have := pure1_some h; subst this
              refine ⟨_, ?_, .t _ _ (.sc _ rfl), rfl⟩
              simp only [Sem.run_bind, (run r hr).2, Result.andThen_ok, run_neq_struct, (run r hr).1]
            · cases h
  · cases h

end
end Go.Ab
