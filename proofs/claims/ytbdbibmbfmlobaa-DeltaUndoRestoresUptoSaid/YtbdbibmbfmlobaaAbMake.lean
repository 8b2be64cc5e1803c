/- Slice literals, make, append. -/
import Derived.Test.YtbdbibmbfmlobaaAbAppend
set_option linter.unusedVariables false
namespace Go.Ab
variable {P : Program} {w : World} {F : Nat → Prop} {S st : Store} {m : Place}

theorem repl_len {α : Type} (l : List α) (n : Nat) : (repl l n).length = n * l.length := by
  induction n with
  | zero => simp [repl]
  | succ n ih => simp [repl, ih, Nat.add_mul]; omega
theorem repl_get {α : Type} [Inhabited α] (l : List α) : ∀ (n j : Nat), j < n * l.length → (repl l n)[j]? = some (l[j % l.length]!)
  | 0, j, h => by simp at h
  | n + 1, j, h => by
    by_cases hj : j < l.length
    · simp only [repl]
      rw [List.getElem?_append_left hj, Nat.mod_eq_of_lt hj, List.getElem?_eq_getElem hj, List.getElem!_eq_getElem?_getD, List.getElem?_eq_getElem hj]
      rfl
    · simp only [repl]
      have hs : (n + 1) * l.length = n * l.length + l.length := Nat.succ_mul _ _
      rw [List.getElem?_append_right (by omega), repl_get l n (j - l.length) (by omega)]
      rw [Nat.mod_eq_sub_mod (a := j) (by omega)]
theorem repl_range (z : Array Value) (n : Nat) : (Array.range (n * z.size)).map (fun i => z[i % z.size]!) = (repl z.toList n).toArray := by
  apply Array.ext_getElem?
  intro j
  simp only [Array.getElem?_map, List.getElem?_toArray]
  by_cases hj : j < n * z.size
  · rw [repl_get z.toList n j (by simpa using hj)]
    simp [hj, getElem!_def]
  · rw [List.getElem?_eq_none (by rw [repl_len]; simpa using hj)]
    simp [hj]
theorem map_range_zero (f : Nat → Value) : (Array.range 0).map f = #[] := by simp [Array.range]
theorem repl_map {α β : Type} (f : α → β) (l : List α) (n : Nat) : repl (l.map f) n = (repl l n).map f := by
  induction n with
  | zero => rfl
  | succ n ih => simp [repl, ih]
theorem repl_mem {α : Type} {l : List α} {n : Nat} {x : α} (h : x ∈ repl l n) : x ∈ l := by
  induction n with
  | zero => simp [repl] at h
  | succ n ih =>
    simp only [repl, List.mem_append] at h
    exact h.elim id ih

theorem blt_pos {k : Nat} (h : Nat.blt 0 k = true) : 0 < k := Nat.lt_of_succ_le (Nat.le_of_ble_eq_true h)
theorem mkT_some {ag : Bool} {l : List Tree} {x : Tree} (h : mkT ag l = some x) (hc : ∀ T ∈ l, T.isCell = true) : x.cells = l := by
  cases ag with
  | true => simp [mkT] at h; subst h; rfl
  | false =>
    match l with
    | [T] =>
      simp [mkT] at h; subst h
      have hT := hc T (by simp)
      cases T <;> first | rfl | simp [Tree.isCell] at hT
    | [] => simp [mkT] at h
    | _ :: _ :: _ => simp [mkT] at h
theorem group_some {ag : Bool} {k : Nat} : ∀ {n : Nat} {l xs : List Tree}, group ag k n l = some xs → (∀ T ∈ l, T.isCell = true) → flat xs = l ∧ xs.length = n ∧ ∀ x ∈ xs, Elt k x
  | 0, [], xs, h, _ => by simp [group] at h; subst h; exact ⟨rfl, rfl, fun x hx => by simp at hx⟩
  | 0, _ :: _, xs, h, _ => by simp [group] at h
  | n + 1, l, xs, h, hc => by
    simp only [group] at h
    split at h
    rotate_left
    · cases h
    rename_i x r h1 h2
    obtain ⟨h3, h4⟩ := bif_some h
    simp only [Option.some.injEq] at h4
    subst h4
    have h3 := Nat.eq_of_beq_eq_true h3
    have hcx := mkT_some h1 (fun T hT => hc T (List.mem_of_mem_take hT))
    obtain ⟨g1, g2, g3⟩ := group_some h2 (fun T hT => hc T (List.mem_of_mem_drop hT))
    refine ⟨by simp [flat, hcx, g1], by simp [g2], fun y hy => ?_⟩
    simp only [List.mem_cons] at hy
    rcases hy with rfl | hy
    · exact ⟨by rw [hcx]; exact h3, fun T hT => hc T (List.mem_of_mem_take (hcx ▸ hT))⟩
    · exact g3 y hy

theorem telem_some {t e : TypeId} (h : telem P t = some e) : P.underlying t = some (.slice e) := by
  unfold telem at h
  split at h
  · rename_i e' hu; simp at h; subst h; exact hu
  · cases h

theorem getElem?_zip {α β : Type} {l : List α} {r : List β} {i : Nat} {p : α × β} (h : (l.zip r)[i]? = some p) : l[i]? = some p.1 ∧ r[i]? = some p.2 := by
  rw [List.getElem?_zip_eq_some] at h
  exact h

theorem buildSliceK_sound {t : TypeId} {len nid : Nat} {parts : List (Nat × AVal)} {δ : Dl} (h : buildSliceK P t len parts st nid = some δ) (hc : All δ.cnd) (hst : ∀ id o, st id = some o → S id = some o) (hS : SRel F S m w) (hid : S nid = none)
    {uparts : Array (Nat × Value)} (hl : uparts.size = parts.length)
    (hr : ∀ (i : Nat) (p : Nat × AVal) (q : Nat × Value), parts[i]? = some p → uparts[i]? = some q → p.1 = q.1 ∧ VRel S m w (okB F S m w) p.2 q.2) :
    Done F S m w δ.wr δ.val ((Instr.buildSlice t len uparts).run P w) := by
  unfold buildSliceK at h
  simp only [Option.bind_eq_some_iff] at h
  obtain ⟨e, he, k, hk, ag, hag, z, hz, h⟩ := h
  split at h
  rotate_left
  · cases h
  rename_i vs f p hsn
  obtain ⟨hcond, h⟩ := bif_some h
  simp only [Bool.and_eq_true] at hcond
  obtain ⟨⟨⟨hbig, hk0⟩, hzl⟩, hcell⟩ := hcond
  have hbig := Nat.le_of_ble_eq_true hbig
  have hk0 : 0 < k := blt_pos hk0
  have hzl := Nat.eq_of_beq_eq_true hzl
  simp only [Option.bind_eq_some_iff] at h
  obtain ⟨cs, hf, ts, hts, xs, hxs, h⟩ := h
  simp only [Option.some.injEq] at h
  subst h
  have hu := telem_some he
  obtain ⟨zv, hzv, zs, hzs, rfl, hz1⟩ := tzeros_some hz
  simp only [List.length_map] at hzl
  have hsnap := snaps_sound (us := uparts.toList.map (·.2)) hst hS hsn hc (by simp [hl]) (fun i v u hv hu' => by
    simp only [List.getElem?_map, Option.map_eq_some_iff] at hv hu'
    obtain ⟨a, ha, rfl⟩ := hv
    obtain ⟨b, hb, rfl⟩ := hu'
    exact (hr i a b ha (by simpa using hb)).2)
  obtain ⟨q1, q2, q3⟩ := hsnap
  obtain ⟨r1, r2, r3, r4⟩ := freezeAll f S hS q2
  have hvl : vs.length = parts.length := by rw [q1]; simp [hl]
  have hparts : ((parts.map (·.1)).zip vs).length = parts.length := by simp [hvl]
  obtain ⟨us', hfill, hcr⟩ := fill_rel (ok := okB F (app S f) m w) ((parts.map (·.1)).zip vs) uparts.toList _ cs (repl zs len) hf (by rw [hparts]; simpa using hl) (fun i p q hp hq => by
    obtain ⟨h1, h2⟩ := getElem?_zip hp
    simp only [List.getElem?_map, Option.map_eq_some_iff] at h1
    obtain ⟨a, ha, ha'⟩ := h1
    have hq' : uparts[i]? = some q := by simpa using hq
    refine ⟨by rw [← ha']; exact (hr i a q ha hq').1, q3 f q2 (fun x hx => hx) i p.2 q.2 h2 (by simp [hq']), List.all_eq_true.1 hcell p.2 (List.mem_of_getElem? h2)⟩)
    (by rw [repl_map]; exact CRel.scs (fun u hu => hz1 u (repl_mem hu)))
  obtain ⟨t1, t2⟩ := allT_rel hts hcr.1 hcr.2
  have hus1 : ∀ u ∈ us', u.oneCell' = true := fun u hu => by
    obtain ⟨i, hi, rfl⟩ := List.mem_iff_getElem.1 hu
    have : i < cs.length := by rw [← hcr.1]; exact hi
    exact (hcr.2 i _ _ (List.getElem?_eq_getElem this) (List.getElem?_eq_getElem hi)).2
  have hcellT : ∀ T ∈ ts, T.isCell = true := fun T hT => by
    obtain ⟨i, hi, rfl⟩ := List.mem_iff_getElem.1 hT
    have h1 := t2 i _ _ (List.getElem?_eq_getElem hi) (List.getElem?_eq_getElem (by omega))
    have h2 := hus1 us'[i] (List.getElem_mem _)
    generalize ts[i] = T at h1
    generalize us'[i] = u at h1 h2
    cases h1 with
    | agg => simp [Value.oneCell'] at h2
    | sc => rfl
    | lst => rfl
  obtain ⟨g1, g2, g3⟩ := group_some hxs hcellT
  have hlen : us'.length = len * k := by rw [← t1, ← g1, flat_len g3, g2]
  have hnid : app S f nid = none := by
    rw [r4 nid (fun hmem => by
      obtain ⟨x, hx, hx'⟩ := List.mem_map.1 hmem
      obtain ⟨k', fz, xs', h1, _⟩ := q2 x.1 x.2 hx
      rw [hx', hid] at h1; cases h1)]
    exact hid
  obtain ⟨n1, n2, n3⟩ := new_row r1 hnid (xs := xs) hk0 g3 len (by omega) (by simp only [maxLen]; have : len ≤ len * k := Nat.le_mul_of_pos_right _ hk0; omega) hlen hus1 (fun j T u hT hu => t2 j T u (by rw [← g1]; exact hT) hu) e
  refine ⟨.slice (some ⟨w.heap.size, 0, none⟩) len len, w.alloc (.cells us'.toArray e), place m nid (some w.heap.size, len), ?_, by rw [app_append]; exact n1, by rw [app_append]; exact r2.trans hS n2, by rw [app_append]; have := n3 (okB F (app (app S f) [(nid, Ob.row k false xs)]) (place m nid (some w.heap.size, len)) (w.alloc (Obj.cells us'.toArray e))); rw [g2] at this; exact this⟩
  have hzsz : zv.cells.size = k := by rw [hzs]; simpa using hzl
  have hng : ¬ (len * k > 2 ^ 24) := by omega
  have hfill' : Instr.fill (fun i => some (i * k, k)) ((Array.range (len * k)).map (fun i => zv.cells[i % zv.cells.size]!)) uparts.toList = some us'.toArray := by
    rw [← hfill, ← hzsz, repl_range, hzs]
  by_cases h0 : len * k = 0
  · have hl0 : len = 0 := by
      rcases Nat.mul_eq_zero.1 h0 with h | h
      · exact h
      · omega
    subst hl0
    have hf0 : Instr.fill (fun i => some (i * k, k)) #[] uparts.toList = some us'.toArray := hfill
    simp [Instr.buildSlice, run_underlying hu, run_sizeOf' hk, map_range_zero, hf0, newRow]
  · simp only [Instr.buildSlice, Sem.run_bind, run_underlying hu, run_sizeOf' hk, Result.andThen_ok]
    simp only [hng, if_false, h0, Sem.run_bind, run_zeroValue' hzv, Result.andThen_ok, Sem.run_pure, hfill']
    simp [newRow]

theorem TWs_get : ∀ {l l' : List Tree}, TWs l l' → l.length = l'.length ∧ ∀ (i : Nat) (T T' : Tree), l[i]? = some T → l'[i]? = some T' → (T = T' ∨ (T = .sc (.slice none 0 0) ∧ ∃ k, 0 < k ∧ T' = .lst k []))
  | [], [], _ => ⟨rfl, fun i T T' h => by simp at h⟩
  | T :: l, T' :: l', h => by
    obtain ⟨a, b⟩ := TWs_get h.2
    refine ⟨by simp [a], fun i S S' h1 h2 => ?_⟩
    cases i with
    | zero => simp at h1 h2; subst h1; subst h2; exact h.1
    | succ i => exact b i S S' (by simpa using h1) (by simpa using h2)
  | [], _ :: _, h => h.elim
  | _ :: _, [], h => h.elim
theorem TWs_refl (l : List Tree) : TWs l l := by
  induction l with
  | nil => trivial
  | cons T l ih => exact ⟨.inl rfl, ih⟩
theorem makeSliceK_sound {t : TypeId} {l c : AVal} {nid : Nat} {orc : Orc} {δ : Dl} (h : makeSliceK P t l c nid orc = some δ) (hc : All δ.cnd) (hS : SRel F S m w) (hid : S nid = none)
    {ul uc : Value} (hl : VRel S m w (okB F S m w) l ul) (hcv : VRel S m w (okB F S m w) c uc) : Done F S m w δ.wr δ.val ((Instr.makeSlice t ul uc).run P w) := by
  unfold makeSliceK at h
  simp only [Option.bind_eq_some_iff] at h
  obtain ⟨e, he, k, hk, b, hb, ag, hag, z, hz, x, hx, h⟩ := h
  split at h
  rotate_left
  · cases h
  rename_i k1 n k2 mm
  obtain ⟨hcond, h⟩ := bif_some h
  simp only [Bool.and_eq_true] at hcond
  obtain ⟨⟨hk0, hzl⟩, hb256⟩ := hcond
  have hk0 : 0 < k := blt_pos hk0
  have hzl := Nat.eq_of_beq_eq_true hzl
  have hb256 := Nat.le_of_ble_eq_true hb256
  simp only [Option.some.injEq] at h
  subst h
  rw [All_append] at hc
  simp only [All] at hc
  obtain ⟨⟨c1, c2, c3, -⟩, c4⟩ := hc
  have := VRel.sc_inv hl; subst this
  have := VRel.sc_inv hcv; subst this
  have hu := telem_some he
  obtain ⟨zv, hzv, zs, hzs, rfl, hz1⟩ := tzeros_some hz
  simp only [List.length_map] at hzl
  have hxc := mkT_some hx (fun T hT => by
    obtain ⟨v, _, rfl⟩ := List.mem_map.1 hT
    rfl)
  have hy : TWs x.cells (orc.elt.getD x).cells := by
    cases ho : orc.elt with
    | none => exact TWs_refl _
    | some y => rw [ho] at c4; exact c4.1
  generalize orc.elt.getD x = y at *
  rw [hxc] at hy
  obtain ⟨ty1, ty2⟩ := TWs_get hy
  simp only [List.length_map] at ty1
  have hE : Elt k y := ⟨by rw [← ty1]; exact hzl, fun T hT => by
    obtain ⟨q, hq, e⟩ := List.mem_iff_getElem.1 hT
    have h1 : (zs.map Tree.sc)[q]? = some (Tree.sc zs[q]) := by rw [List.getElem?_map, List.getElem?_eq_getElem (by omega)]; rfl
    rcases ty2 q _ T h1 (by rw [List.getElem?_eq_getElem hq, e]) with e' | ⟨_, k', _, e'⟩
    · rw [← e']; rfl
    · rw [e']; rfl⟩
  have hflat : ∀ q : Nat, flat (List.replicate q y) = repl y.cells q := by
    intro q
    induction q with
    | zero => rfl
    | succ q ih => simp [List.replicate_succ, flat, repl, ih]
  have hus1 : ∀ u ∈ repl zs mm.toNat, u.oneCell' = true := fun u hu => hz1 u (repl_mem hu)
  have hrl : (repl zs mm.toNat).length = mm.toNat * k := by rw [repl_len, hzl]
  obtain ⟨n1, n2, n3⟩ := new_row hS hid (xs := List.replicate n.toNat y) hk0 (fun z' hz' => by rw [(List.mem_replicate.1 hz').2]; exact hE) mm.toNat (by simp; omega) (by simp only [maxLen]; omega) hrl hus1 (fun j T u hT hu => by
    rw [hflat] at hT
    have hyl : y.cells.length = k := hE.1
    have hj : j < n.toNat * k := by have := (List.getElem?_eq_some_iff.1 hT).1; rw [repl_len, hyl] at this; exact this
    have hnm : n.toNat * k ≤ mm.toNat * k := Nat.mul_le_mul_right k (by omega)
    have e1 := repl_get y.cells n.toNat j (by rw [hyl]; exact hj)
    have e2 := repl_get zs mm.toNat j (by rw [hzl]; omega)
    rw [hT, hyl] at e1
    rw [hu, hzl] at e2
    have hjk : j % k < k := Nat.mod_lt _ hk0
    have e3 : y.cells[j % k]? = some T := by
      rw [e1, List.getElem!_eq_getElem?_getD, List.getElem?_eq_getElem (by omega)]; rfl
    have e4 : zs[j % k]? = some u := by
      rw [e2, List.getElem!_eq_getElem?_getD, List.getElem?_eq_getElem (by omega)]; rfl
    have h1 : (zs.map Tree.sc)[j % k]? = some (Tree.sc u) := by rw [List.getElem?_map, e4]; rfl
    rcases ty2 (j % k) _ T h1 e3 with e' | ⟨e', k', hk', e''⟩
    · rw [← e']; exact .sc _ (hus1 _ (List.mem_of_getElem? hu))
    · rw [e'']
      simp only [Tree.sc.injEq] at e'
      rw [e']
      exact .lst k' [] none 0 [] hk' (fun x hx => by simp at hx) (Nat.le_refl _) (by simp [maxLen]) (fun h => absurd rfl h) (by simp) (fun j T u hT => by simp [flat] at hT)) e
  refine ⟨.slice (some ⟨w.heap.size, 0, none⟩) n.toNat mm.toNat, _, _, ?_, n1, n2, by have := n3 (okB F (app S [(nid, Ob.row k false (List.replicate n.toNat y))]) (place m nid (some w.heap.size, mm.toNat)) (w.alloc (Obj.cells (repl zs mm.toNat).toArray e))); simp only [List.length_replicate] at this; exact this⟩
  have hzsz : zv.cells.size = k := by rw [hzs]; simpa using hzl
  have w1 : IntKind.i64.wrap n = n := IntWalk.i64_in n (by omega)
  have w2 : IntKind.i64.wrap mm = mm := IntWalk.i64_in mm (by omega)
  have hbm : (b : Int) * mm ≤ 2 ^ 48 := by
    have h1 : (b : Int) * mm ≤ 256 * mm := Int.mul_le_mul_of_nonneg_right (by omega) (by omega)
    omega
  have hi : ∃ i, P.info? e = some i ∧ i.bytes = b := by
    unfold tby at hb
    cases hi : P.info? e with
    | none => simp [hi] at hb
    | some i => simp [hi] at hb; exact ⟨i, rfl, hb⟩
  obtain ⟨i, hi1, hi2⟩ := hi
  have t1 : ¬ (mm < 0) := by omega
  have t2 : ¬ (n < 0) := by omega
  have t3 : ¬ (n > mm) := by omega
  have t4 : ¬ ((b : Int) * mm > 2 ^ 48) := by omega
  have hrange : (Array.range (mm.toNat * k)).map (fun i => zv.cells[i % zv.cells.size]!) = (repl zs mm.toNat).toArray := by
    rw [← hzsz, repl_range, hzs]
  by_cases h0 : mm.toNat * k = 0
  · have hm0 : mm.toNat = 0 := by
      rcases Nat.mul_eq_zero.1 h0 with h | h
      · exact h
      · omega
    obtain rfl : mm = 0 := by omega
    obtain rfl : n = 0 := by omega
    simp [Instr.makeSlice, run_underlying hu, asInt, asIntOf, typeInfo, hi1, w1, run_sizeOf' hk, newRow, repl, map_range_zero]
  · simp only [Instr.makeSlice, Sem.run_bind, run_underlying hu, asInt, asIntOf, Sem.run_pure, Result.andThen_ok, typeInfo, run_program, hi1, hi2, w1, w2]
    simp only [t1, t2, t3, t4, decide_false, Bool.or_self, Bool.false_eq_true, if_false, Sem.run_bind, run_askRoom, Result.andThen_ok, run_sizeOf' hk, h0, run_zeroValue' hzv, Sem.run_pure, hrange, newRow, run_newObj]
    rfl

end Go.Ab
