/- Slice literals, make, stores, append. -/
import Derived.Test.YtbdbibmbfmlobaaAbWrite
import Derived.IntWalk
set_option linter.unusedVariables false
namespace Go.Ab
variable {P : Program} {w : World} {F : Nat → Prop} {S st : Store} {m : Place}

/-! ### A store into a live object -/
theorem rewrite_obj (hS : SRel F S m w) {id b : Nat} {o o' : Ob} (hid : S id = some o) (hlive : o.live = true) (hb : (m id).1 = some b) {w' : World}
    (hos : w'.os = w.os) (htape : w'.tape = w.tape) (hout : w'.output = w.output) (hsz : w'.heap.size = w.heap.size) (hheap : ∀ c, c ≠ b → w'.heap[c]? = w.heap[c]?)
    (hlen : o.len ≤ o'.len) (hsh : o.same o')
    (ho' : FrameExt F S m w (upd S id o') m w' → ORel (upd S id o') m w' (okB F (upd S id o') m w') o' (m id)) :
    SRel F (upd S id o') m w' ∧ FrameExt F S m w (upd S id o') m w' := by
  have hF : FrameExt F S m w (upd S id o') m w' := by
    refine ⟨hos, htape, hout, by omega, fun c hc hf => hheap c ?_, fun i oi hi => ?_, fun i oi hi hn => ?_⟩
    · rintro rfl
      rcases hf with hf | hf
      · exact hS.avoid id o c hid hb hf
      · exact hf id o hid hlive hb
    · by_cases e : i = id
      · subst e
        rw [hid] at hi; cases hi
        exact ⟨o', upd_same _ _ _, by omega, fun _ => rfl, fun h => (by rw [hlive] at h; cases h), .inl rfl, hsh⟩
      · refine ⟨oi, by rw [upd_ne e]; exact hi, Nat.le_refl _, fun _ => rfl, fun h => h, .inl rfl, oi.same_refl⟩
    · by_cases e : i = id
      · subst e; rw [hid] at hn; cases hn
      · rw [upd_ne e] at hi; rw [hi] at hn; cases hn
  have back : ∀ i oi, upd S id o' i = some oi → ∃ oi', S i = some oi' := by
    intro i oi h
    by_cases e : i = id
    · subst e; exact ⟨_, hid⟩
    · rw [upd_ne e] at h; exact ⟨_, h⟩
  refine ⟨⟨fun i oi hi => ?_, fun i j oi oj c hi hj h1 h2 => ?_, fun i oi c hi hm hFb => ?_, fun c hc => by rw [hsz]; exact hS.low c hc⟩, hF⟩
  · by_cases e : i = id
    · subst e
      rw [upd_same] at hi; cases hi
      exact ho' hF
    · rw [upd_ne e] at hi
      exact (hS.objs i oi hi).persist hF (fun c hc => hheap c (fun e' => by subst e'; exact e (hS.inj i id _ _ _ hi hid hc hb)))
  · obtain ⟨_, hi'⟩ := back i oi hi
    obtain ⟨_, hj'⟩ := back j oj hj
    exact hS.inj i j _ _ c hi' hj' h1 h2
  · obtain ⟨_, hi'⟩ := back i oi hi
    exact hS.avoid i _ c hi' hm hFb

theorem setRow_get (w : World) (b c : Nat) (cs : Array Value) (h : c ≠ b) : (w.setRow b cs).heap[c]? = w.heap[c]? := setRow_other w b c cs h

theorem run_storeVar' {t : TypeId} {sz : Nat} (hsz : tsz P t = some sz) {b off : Nat} {cur : Array Value} {e : TypeId} (hh : w.heap[b]? = some (.cells cur e (0, 0))) {u : Value} {vs : List Value} (hu : u.cells = vs.toArray)
    (hl : vs.length = sz) (hle : off + vs.length ≤ cur.size) (h1 : ∀ v ∈ vs, v.oneCell' = true) :
    (storeVar t ⟨b, off, none⟩ u).run P w = .ok () (w.setRow b (cur.toList.take off ++ vs ++ cur.toList.drop (off + vs.length)).toArray) := by
  have := run_storeCells_at P b off e vs 0 cur w hh (by simpa using hle) h1
  simp only [Nat.add_zero] at this
  simp [storeVar, run_sizeOf' hsz, hu, hl, this]

theorem allT_rel {ok : Nat → Prop} {cs : List AVal} {Ts : List Tree} (h : allT cs = some Ts) {us : List Value} (hl : us.length = cs.length)
    (hr : ∀ (i : Nat) (v : AVal) (u : Value), cs[i]? = some v → us[i]? = some u → VRel S m w ok v u ∧ u.oneCell' = true) :
    Ts.length = us.length ∧ (∀ (i : Nat) (T : Tree) (u : Value), Ts[i]? = some T → us[i]? = some u → TRep w ok T u) := by
  have := allT_some h
  subst this
  simp only [List.length_map] at hl
  refine ⟨hl.symm, fun i T u hT hu => ?_⟩
  have := (hr i (.t T) u (by simp [hT]) hu).1
  cases this with
  | t _ _ h => exact h

theorem flat_set {k : Nat} : ∀ {xs : List Tree} {i : Nat} {X X' : Tree}, (∀ x ∈ xs, Elt k x) → xs[i]? = some X → X'.cells.length = k →
    flat (xs.set i X') = (flat xs).take (i * k) ++ X'.cells ++ (flat xs).drop (i * k + k)
  | [], i, X, X', _, h, _ => by simp at h
  | x :: xs, 0, X, X', h, hX, hl => by
    have h1 := (h x (by simp)).1
    simp only [List.set_cons_zero, flat, Nat.zero_mul, List.take_zero, List.nil_append, Nat.zero_add]
    rw [List.drop_append, h1, List.drop_of_length_le (l := x.cells) (by omega)]
    simp
  | x :: xs, i + 1, X, X', h, hX, hl => by
    have h1 := (h x (by simp)).1
    simp at hX
    have ih := flat_set (xs := xs) (X' := X') (fun y hy => h y (by simp [hy])) hX hl
    simp only [List.set_cons_succ, flat, ih]
    rw [List.take_append, List.take_of_length_le (l := x.cells) (by rw [h1, Nat.add_mul]; omega), List.drop_append, List.drop_of_length_le (l := x.cells) (by rw [h1, Nat.add_mul]; omega), h1]
    simp only [List.nil_append, List.append_assoc]
    rw [show (i + 1) * k - k = i * k by rw [Nat.add_mul]; omega, show (i + 1) * k + k - k = i * k + k by rw [Nat.add_mul]; omega]

theorem setCells_some {k : Nat} {X X' : Tree} {sub : Nat} {new : List Tree} (hX : Elt k X) (hn : ∀ T ∈ new, T.isCell = true) (h : setCells X sub new = some X') :
    sub + new.length ≤ k ∧ X'.cells = X.cells.take sub ++ new ++ X.cells.drop (sub + new.length) ∧ Elt k X' := by
  unfold setCells at h
  split at h
  · rename_i cs
    simp only [Option.map_eq_some_iff] at h
    obtain ⟨r, hr, rfl⟩ := h
    obtain ⟨h1, rfl⟩ := setRange_some hr
    have hl : cs.length = k := hX.1
    refine ⟨by omega, rfl, ?_, fun T hT => ?_⟩
    · simp [Tree.cells]; omega
    · simp only [Tree.cells, List.mem_append] at hT
      rcases hT with (hT | hT) | hT
      · exact hX.2 T (List.mem_of_mem_take hT)
      · exact hn T hT
      · exact hX.2 T (List.mem_of_mem_drop hT)
  · rename_i hna
    split at h
    · rename_i T
      obtain ⟨h1, h2⟩ := bif_some h
      have h1 := Nat.eq_of_beq_eq_true h1
      simp only [Option.some.injEq] at h2
      subst h2; subst h1
      have hT := hn T (by simp)
      have hTc : T.cells = [T] := by cases T <;> first | rfl | simp [Tree.isCell] at hT
      have hXc : X.cells = [X] := by cases X <;> first | rfl | exact absurd rfl (hna _)
      have hk := hX.1
      rw [hXc] at hk
      simp at hk
      subst hk
      exact ⟨by simp, by rw [hTc, hXc]; simp, by rw [Elt, hTc]; exact ⟨rfl, fun U hU => by simp at hU; subst hU; exact hT⟩⟩
    · cases h

theorem storeK_sound {t : TypeId} {a v : AVal} {c : Orc} {δ : Dl} (h : storeK P t a v st c = some δ) (hc : All δ.cnd) (hst : ∀ id o, st id = some o → S id = some o) (hS : SRel F S m w)
    {ua uv : Value} (ha : VRel S m w (okB F S m w) a ua) (hv : VRel S m w (okB F S m w) v uv) :
    ∃ w' m', (Instr.storeAt t ua uv).run P w = .ok () w' ∧ SRel F (app S δ.wr) m' w' ∧ FrameExt F S m w (app S δ.wr) m' w' ∧ δ.val = .junk := by
  unfold storeK at h
  split at h
  · rename_i sz id off hsz
    split at h
    rotate_left
    · cases h
    rename_i cs hs
    simp only at h
    obtain ⟨hcond, h⟩ := bif_some h
    simp only [Bool.and_eq_true] at hcond
    have hlen := Nat.eq_of_beq_eq_true hcond.1
    simp only [Option.bind_eq_some_iff] at h
    obtain ⟨cs', hset, h⟩ := h
    simp only [Option.some.injEq] at h
    subst h
    obtain ⟨hle, rfl⟩ := setRange_some hset
    have hs2 := hst id _ hs
    obtain ⟨vs, hvs, hvl, hvr⟩ := VRel.cellsOf hv hcond.2
    cases ha with
    | ptr _ _ cs0 b hs' hm =>
      obtain ⟨b', us, e, h1, h2, h3, h4⟩ := hS.objs id _ hs2
      rw [hm] at h1; cases h1
      have hrun := run_storeVar' (P := P) hsz (off := off) h2 hvs (by rw [hvl, hlen]) (by rw [hvl, h3]; omega) (fun u hu => by
        obtain ⟨i, hi, rfl⟩ := List.mem_iff_getElem.1 hu
        exact (hvr i _ _ (List.getElem?_eq_getElem (by omega)) (List.getElem?_eq_getElem hi)).2)
      have key := rewrite_obj (o' := .box (cs.take off ++ cellsV v ++ cs.drop (off + (cellsV v).length))) hS hs2 rfl hm (w' := w.setRow b (us.toList.take off ++ vs ++ us.toList.drop (off + vs.length)).toArray)
        rfl rfl rfl (by simp) (fun c hc => setRow_get w b c _ hc) (by simp [Ob.len]; omega) (by simp [Ob.same]; omega) (fun hF => by
          have hcr : CRel S m w (okB F S m w) cs us.toList := ⟨by simpa using h3, fun i v u a b => h4 i v u a (by simpa using b)⟩
          have := hcr.splice ⟨hvl, hvr⟩ hle
          exact ⟨b, _, e, hm, setRow_heap w b us _ e _ h2, by simpa using this.1, fun i v u a b => ⟨hF.val (this.2 i v u a (by simpa using b)).1, (this.2 i v u a (by simpa using b)).2⟩⟩)
      exact ⟨w.setRow b (us.toList.take off ++ vs ++ us.toList.drop (off + vs.length)).toArray, m, by simp [Instr.storeAt, Instr.sureAddr, hrun], key.1, key.2, rfl⟩
  · rename_i sz id n i sub hsz
    split at h
    rotate_left
    · cases h
    rename_i k xs hs
    simp only at h
    split at h
    rotate_left
    · cases h
    rename_i v' f p hsnap
    simp only [Option.bind_eq_some_iff] at h
    obtain ⟨new, hnew, h⟩ := h
    obtain ⟨hcond, h⟩ := bif_some h
    simp only [Bool.and_eq_true, Bool.not_eq_true'] at hcond
    obtain ⟨⟨hlen, hcell⟩, hnotid⟩ := hcond
    have hlen := Nat.eq_of_beq_eq_true hlen
    simp only [Option.bind_eq_some_iff] at h
    obtain ⟨X', hset, h⟩ := h
    simp only [Option.some.injEq] at h
    subst h
    rw [All_append] at hc
    simp only [All] at hc
    obtain ⟨hp, hn, hX, -⟩ := hc
    generalize eltOf c xs i = X at hset hX
    have hs2 := hst id _ hs
    have hsn := snap_sound hst hS hsnap hp hv
    obtain ⟨r1, r2, r3, r4⟩ := freezeAll f S hS hsn.1
    have hv' := hsn.2 f hsn.1 (fun x hx => hx)
    have hcells : ∀ T ∈ new, T.isCell = true := fun T hT => List.all_eq_true.1 hcell T hT
    have hcv : (cellsV v').all isCellV = true := by
      rw [allT_some hnew]
      simpa [isCellV] using hcell
    obtain ⟨vs, hvs, hvl, hvr⟩ := VRel.cellsOf hv' hcv
    obtain ⟨t1, t2⟩ := allT_rel hnew hvl hvr
    have hid : app S f id = some (.row k false xs) := by
      rw [r4 id (fun hmem => by
        have := hasId_iff.2 hmem
        rw [this] at hnotid; cases hnotid)]
      exact hs2
    cases ha with
    | eptr _ _ _ _ k0 fz0 xs0 b hs0 hn0 hu0 =>
      rw [hs2] at hs0; cases hs0
      have hm := hu0 hn
      obtain ⟨a1, a2, a3, a4, a5⟩ := r1.objs id _ hid
      rcases a5 with ⟨a5, _⟩ | ⟨b', us, e, h1, h2, h3, h4, h5⟩
      · rw [hm] at a5; cases a5
      rw [hm] at h1; cases h1
      have hE := a2 X (List.mem_of_getElem? hX)
      obtain ⟨s1, s2, s3⟩ := setCells_some hE hcells hset
      have hil : i < xs.length := (List.getElem?_eq_some_iff.1 hX).1
      have hbig : (i + 1) * k ≤ us.size := by rw [h3]; exact Nat.mul_le_mul_right k (by omega)
      rw [Nat.add_mul] at hbig
      have hvs1 : ∀ u ∈ vs, u.oneCell' = true := fun u hu => by
        obtain ⟨q, hq, rfl⟩ := List.mem_iff_getElem.1 hu
        exact (hvr q _ _ (List.getElem?_eq_getElem (by omega)) (List.getElem?_eq_getElem hq)).2
      have hrun := run_storeVar' (P := P) hsz (off := i * k + sub) h2 hvs (by rw [← t1, hlen]) (by omega) hvs1
      have hfl : flat (xs.set i X') = (flat xs).take (i * k + sub) ++ new ++ (flat xs).drop (i * k + sub + new.length) := by
        rw [flat_set a2 hX s3.1, s2]
        have e1 : X.cells.take sub = ((flat xs).drop (i * k)).take sub := by
          apply List.ext_getElem?
          intro j
          simp only [List.getElem?_take, List.getElem?_drop]
          split
          · rename_i hj
            rw [flat_get a2 hX (by omega)]
          · rfl
        have e2 : X.cells.drop (sub + new.length) ++ (flat xs).drop (i * k + k) = (flat xs).drop (i * k + sub + new.length) := by
          have hfl := flat_len a2
          have hxl : (i + 1) * k ≤ (flat xs).length := by rw [hfl]; exact Nat.mul_le_mul_right k (by omega)
          rw [Nat.add_mul] at hxl
          apply List.ext_getElem?
          intro j
          by_cases hj : sub + new.length + j < k
          · rw [List.getElem?_append_left (by simp [hE.1]; omega), List.getElem?_drop, List.getElem?_drop, show i * k + sub + new.length + j = i * k + (sub + new.length + j) by omega, flat_get a2 hX hj]
          · rw [List.getElem?_append_right (by simp [hE.1]; omega), List.getElem?_drop, List.getElem?_drop]
            simp only [List.length_drop, hE.1]
            congr 1
            omega
        rw [e1]
        simp only [List.append_assoc]
        rw [e2]
        rw [← List.append_assoc, ← List.take_add]
      have key := rewrite_obj (o' := .row k false (xs.set i X')) r1 hid rfl hm (w' := w.setRow b (us.toList.take (i * k + sub) ++ vs ++ us.toList.drop (i * k + sub + vs.length)).toArray)
        rfl rfl rfl (by simp) (fun c hc => setRow_get w b c _ hc) (by simp [Ob.len]) (by simp [Ob.same]) (fun hF => by
          refine ⟨a1, fun x hx => ?_, by simpa using a3, a4, .inr ⟨b, _, e, hm, setRow_heap w b us _ e _ h2, by simp; omega, fun j u hu => ?_, fun j T u hT hu => ?_⟩⟩
          · rcases List.mem_or_eq_of_mem_set hx with hx | rfl
            · exact a2 x hx
            · exact s3
          · have hu : (us.toList.take (i * k + sub) ++ vs ++ us.toList.drop (i * k + sub + vs.length))[j]? = some u := by simpa using hu
            rcases List.mem_append.1 (List.mem_of_getElem? hu) with hu | hu
            · rcases List.mem_append.1 hu with hu | hu
              · obtain ⟨q, hq⟩ := List.getElem?_of_mem (List.mem_of_mem_take hu)
                exact h4 q u (by simpa using hq)
              · exact hvs1 u hu
            · obtain ⟨q, hq⟩ := List.getElem?_of_mem (List.mem_of_mem_drop hu)
              exact h4 q u (by simpa using hq)
          · have hu : (us.toList.take (i * k + sub) ++ vs ++ us.toList.drop (i * k + sub + vs.length))[j]? = some u := by simpa using hu
            rw [hfl] at hT
            have hfll := flat_len a2
            have hxl : (i + 1) * k ≤ (flat xs).length := by rw [hfll]; exact Nat.mul_le_mul_right k (by omega)
            rw [Nat.add_mul] at hxl
            refine hF.tree ?_
            by_cases c1 : j < i * k + sub
            · rw [List.getElem?_append_left (by simp; omega), List.getElem?_append_left (by simp; omega), List.getElem?_take, if_pos c1] at hT
              rw [List.getElem?_append_left (by simp; omega), List.getElem?_append_left (by simp; omega), List.getElem?_take, if_pos c1] at hu
              exact h5 j T u hT (by simpa using hu)
            · by_cases c2 : j < i * k + sub + new.length
              · have q1 : ((flat xs).take (i * k + sub)).length = i * k + sub := by simp; omega
                have q2 : (us.toList.take (i * k + sub)).length = i * k + sub := by simp; omega
                rw [List.getElem?_append_left (by simp; omega), List.getElem?_append_right (by omega), q1] at hT
                rw [List.getElem?_append_left (by simp; omega), List.getElem?_append_right (by omega), q2] at hu
                exact t2 _ T u hT hu
              · have q1 : ((flat xs).take (i * k + sub) ++ new).length = i * k + sub + new.length := by simp; omega
                have q2 : (us.toList.take (i * k + sub) ++ vs).length = i * k + sub + vs.length := by simp; omega
                rw [List.getElem?_append_right (by omega), q1, List.getElem?_drop] at hT
                rw [List.getElem?_append_right (by omega), q2, List.getElem?_drop] at hu
                rw [t1] at hT
                exact h5 _ T u hT (by simpa using hu))
      refine ⟨w.setRow b (us.toList.take (i * k + sub) ++ vs ++ us.toList.drop (i * k + sub + vs.length)).toArray, m, by simp [Instr.storeAt, Instr.sureAddr, hrun], ?_, ?_, rfl⟩
      · rw [app_append]; exact key.1
      · rw [app_append]; exact r2.trans hS key.2
  · cases h

end Go.Ab
