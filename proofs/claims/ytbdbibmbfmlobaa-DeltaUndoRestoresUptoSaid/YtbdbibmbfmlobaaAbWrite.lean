/- The operations that make or write memory. -/
import Derived.Test.YtbdbibmbfmlobaaAbSlice
set_option linter.unusedVariables false
namespace Go.Ab
variable {P : Program} {w : World} {F : Nat → Prop} {S st : Store} {m : Place}

theorem app_append (S : Store) (f g : List (Nat × Ob)) : app S (f ++ g) = app (app S f) g := by
  induction f generalizing S with
  | nil => rfl
  | cons x f ih => obtain ⟨i, o⟩ := x; exact ih _

/-- Cells of a block. -/
def CRel (st : Store) (m : Place) (w : World) (ok : Nat → Prop) (cs : List AVal) (us : List Value) : Prop :=
  us.length = cs.length ∧ ∀ (i : Nat) (v : AVal) (u : Value), cs[i]? = some v → us[i]? = some u → VRel st m w ok v u ∧ u.oneCell' = true

theorem setRange_some {α : Type} {l r new : List α} {off : Nat} (h : setRange l off new = some r) : off + new.length ≤ l.length ∧ r = l.take off ++ new ++ l.drop (off + new.length) := by
  unfold setRange at h
  obtain ⟨h1, h2⟩ := bif_some h
  exact ⟨Nat.le_of_ble_eq_true h1, by simp only [Option.some.injEq] at h2; exact h2.symm⟩

theorem CRel.splice {ok : Nat → Prop} {cs new : List AVal} {us vs : List Value} {off : Nat} (h : CRel S m w ok cs us) (hn : CRel S m w ok new vs) (hle : off + new.length ≤ cs.length) :
    CRel S m w ok (cs.take off ++ new ++ cs.drop (off + new.length)) (us.take off ++ vs ++ us.drop (off + vs.length)) := by
  obtain ⟨h1, h2⟩ := h
  obtain ⟨n1, n2⟩ := hn
  refine ⟨by simp [h1, n1], fun i v u hv hu => ?_⟩
  rw [n1] at hu
  by_cases a : i < off
  · have l1 : i < (cs.take off ++ new).length := by simp; omega
    have l2 : i < (us.take off ++ vs).length := by simp [n1, h1]; omega
    rw [List.getElem?_append_left l1, List.getElem?_append_left (by simp; omega), List.getElem?_take, if_pos a] at hv
    rw [List.getElem?_append_left l2, List.getElem?_append_left (by simp [h1]; omega), List.getElem?_take, if_pos a] at hu
    exact h2 i v u hv hu
  · by_cases b : i < off + new.length
    · have e1 : (cs.take off).length = off := by simp; omega
      have e2 : (us.take off).length = off := by simp [h1]; omega
      rw [List.getElem?_append_left (by simp; omega), List.getElem?_append_right (by omega), e1] at hv
      rw [List.getElem?_append_left (by simp [n1, h1]; omega), List.getElem?_append_right (by omega), e2] at hu
      exact n2 _ v u hv hu
    · have e1 : (cs.take off ++ new).length = off + new.length := by simp; omega
      have e2 : (us.take off ++ vs).length = off + new.length := by simp [h1, n1]; omega
      rw [List.getElem?_append_right (by omega), e1, List.getElem?_drop] at hv
      rw [List.getElem?_append_right (by omega), e2, List.getElem?_drop] at hu
      exact h2 _ v u hv hu

theorem fold_set : ∀ (vs : List Value) (i off : Nat) (cs : Array Value), off + i + vs.length ≤ cs.size →
    ((vs.zipIdx i).foldl (fun (cs : Array Value) (x : Value × Nat) => cs.setIfInBounds (off + x.2) x.1) cs).toList = cs.toList.take (off + i) ++ vs ++ cs.toList.drop (off + i + vs.length)
  | [], i, off, cs, _ => by simp
  | v :: vs, i, off, cs, h => by
    have ih := fold_set vs (i + 1) off (cs.setIfInBounds (off + i) v) (by simp at h ⊢; omega)
    simp only [List.zipIdx_cons, List.foldl_cons]
    rw [ih]
    have := list_seg_step cs.toList (off + i) v vs (by simp at h ⊢; omega)
    simpa [Array.toList_setIfInBounds, Nat.add_assoc] using this

theorem fill_rel {ok : Nat → Prop} {place : Nat → Option (Nat × Nat)} : ∀ (parts : List (Nat × AVal)) (uparts : List (Nat × Value)) (cs cs' : List AVal) (us : List Value), fillV place cs parts = some cs' →
    uparts.length = parts.length → (∀ (i : Nat) (p : Nat × AVal) (q : Nat × Value), parts[i]? = some p → uparts[i]? = some q → p.1 = q.1 ∧ VRel S m w ok p.2 q.2 ∧ (cellsV p.2).all isCellV = true) →
    CRel S m w ok cs us → ∃ us' : List Value, Instr.fill place us.toArray uparts = some us'.toArray ∧ CRel S m w ok cs' us'
  | [], uparts, cs, cs', us, h, hl, _, hc => by
    have : uparts = [] := List.eq_nil_of_length_eq_zero (by simpa using hl)
    subst this
    simp only [fillV, Option.some.injEq] at h
    subst h
    exact ⟨us, rfl, hc⟩
  | (i, v) :: parts, uparts, cs, cs', us, h, hl, hr, hc => by
    match uparts, hl with
    | (i', u) :: uparts, hl =>
      obtain ⟨e1, hv, hcell⟩ := hr 0 (i, v) (i', u) rfl rfl
      simp only at e1 hv hcell
      subst e1
      simp only [fillV] at h
      split at h
      · cases h
      rename_i off size hp
      obtain ⟨hsz, h⟩ := bif_some h
      have hsz := Nat.eq_of_beq_eq_true hsz
      split at h
      rotate_left
      · cases h
      rename_i cells hset
      obtain ⟨hle, rfl⟩ := setRange_some hset
      obtain ⟨vs, hvs, hvl, hvr⟩ := VRel.cellsOf hv hcell
      have hspl := hc.splice ⟨hvl, hvr⟩ hle
      obtain ⟨us', h1, h2⟩ := fill_rel parts uparts _ cs' _ h (by simpa using hl) (fun j p q hp hq => hr (j + 1) p q hp hq) hspl
      refine ⟨us', ?_, h2⟩
      simp only [Instr.fill, hp]
      have hus : u.cells.size = size := by rw [hvs]; simp [hvl, hsz]
      have hle' : ¬ (off + u.cells.size > us.toArray.size) := by rw [hus]; simp only [List.size_toArray, hc.1]; omega
      have hcond : (decide (u.cells.size ≠ size) || decide (off + u.cells.size > us.toArray.size)) = false := by simp [hus]; simp [hc.1]; omega
      rw [if_neg (by simpa using hcond)]
      rw [← h1]
      congr 1
      apply Array.ext'
      have := fold_set vs 0 off us.toArray (by simp [hvl, hc.1]; omega)
      rw [hvs, ← Array.foldl_toList, Array.toList_zipIdx]
      simpa using this

/-! ### New blocks -/
theorem alloc_old (w : World) (o : Go.Obj) (b : Nat) (h : b < w.heap.size) : (w.alloc o).heap[b]? = w.heap[b]? := Go.RowKit.Below.heap_alloc w o b h
theorem alloc_new (w : World) (o : Go.Obj) : (w.alloc o).heap[w.heap.size]? = some o := by
  show (w.heap.push o)[w.heap.size]? = _
  simp

theorem new_ext {nid : Nat} (hid : S nid = none) (o : Ob) (us : Array Value) (e : TypeId) (cap : Nat) :
    FrameExt F S m w (upd S nid o) (place m nid (some w.heap.size, cap)) (w.alloc (.cells us e)) :=
  ext_new hid rfl rfl rfl (by simp) (fun b hb => alloc_old w _ b hb) (fun b hb => by simp at hb; omega)

theorem new_box (hS : SRel F S m w) {nid : Nat} (hid : S nid = none) {cs : List AVal} {us : List Value} (hc : CRel S m w (okB F S m w) cs us) (e : TypeId) :
    SRel F (upd S nid (.box cs)) (place m nid (some w.heap.size, 0)) (w.alloc (.cells us.toArray e)) ∧
    FrameExt F S m w (upd S nid (.box cs)) (place m nid (some w.heap.size, 0)) (w.alloc (.cells us.toArray e)) ∧
    VRel (upd S nid (.box cs)) (place m nid (some w.heap.size, 0)) (w.alloc (.cells us.toArray e)) (okB F (upd S nid (.box cs)) (place m nid (some w.heap.size, 0)) (w.alloc (.cells us.toArray e))) (.ptr nid 0) (.pointer (some ⟨w.heap.size, 0, none⟩)) := by
  have hF := new_ext (F := F) (S := S) (m := m) (w := w) hid (.box cs) us.toArray e 0
  refine ⟨hS.new hid hF (fun b hb => alloc_old w _ b hb) (fun b hb => by simp at hb; omega) ?_, hF, .ptr nid 0 cs _ (upd_same _ _ _) (by rw [place_same])⟩
  exact ⟨w.heap.size, us.toArray, e, rfl, alloc_new w _, by simp [hc.1], fun i v u hv hu => ⟨hF.val (hc.2 i v u hv (by simpa using hu)).1, (hc.2 i v u hv (by simpa using hu)).2⟩⟩

theorem new_row (hS : SRel F S m w) {nid : Nat} (hid : S nid = none) {k : Nat} {xs : List Tree} (hk : 0 < k) (hx : ∀ x ∈ xs, Elt k x) (cap : Nat) (hcap : xs.length ≤ cap) (hm : cap ≤ maxLen) {us : List Value} (hl : us.length = cap * k)
    (h1 : ∀ u ∈ us, u.oneCell' = true) (hr : ∀ (j : Nat) (T : Tree) (u : Value), (flat xs)[j]? = some T → us[j]? = some u → TRep w (okB F S m w) T u) (e : TypeId) :
    SRel F (upd S nid (.row k false xs)) (place m nid (some w.heap.size, cap)) (w.alloc (.cells us.toArray e)) ∧
    FrameExt F S m w (upd S nid (.row k false xs)) (place m nid (some w.heap.size, cap)) (w.alloc (.cells us.toArray e)) ∧
    ∀ ok, VRel (upd S nid (.row k false xs)) (place m nid (some w.heap.size, cap)) (w.alloc (.cells us.toArray e)) ok (.row nid xs.length) (.slice (some ⟨w.heap.size, 0, none⟩) xs.length cap) := by
  have hF := new_ext (F := F) (S := S) (m := m) (w := w) hid (.row k false xs) us.toArray e cap
  refine ⟨hS.new hid hF (fun b hb => alloc_old w _ b hb) (fun b hb => by simp at hb; omega) ?_, hF, fun ok => ?_⟩
  · refine ⟨hk, hx, hcap, hm, .inr ⟨w.heap.size, us.toArray, e, rfl, alloc_new w _, by simp [hl], fun j u hu => h1 u (List.mem_of_getElem? (by simpa using hu)), fun j T u hj hu => hF.tree (hr j T u hj (by simpa using hu))⟩⟩
  · exact .row nid xs.length k false xs (some w.heap.size, cap) (upd_same _ _ _) (Nat.le_refl _) (fun _ => place_same _ _ _)

theorem tzeros_some {t : TypeId} {z : List Tree} (h : tzeros P t = some z) : ∃ v, tzero P t = some v ∧ ∃ vs : List Value, v.cells = vs.toArray ∧ z = vs.map .sc ∧ ∀ u ∈ vs, u.oneCell' = true := by
  unfold tzeros at h
  simp only [Option.bind_eq_some_iff] at h
  obtain ⟨v, h1, h2⟩ := h
  simp only [vcells] at h2
  split at h2
  · rename_i hall
    simp only [Option.some.injEq] at h2
    refine ⟨v, h1, v.cells.toList, by simp, h2.symm, fun u hu => by simpa using List.all_eq_true.1 hall u hu⟩
  · cases h2
theorem CRel.scs {ok : Nat → Prop} {vs : List Value} (h : ∀ u ∈ vs, u.oneCell' = true) : CRel S m w ok ((vs.map Tree.sc).map AVal.t) vs := by
  refine ⟨by simp, fun i v u hv hu => ?_⟩
  simp only [List.map_map, List.getElem?_map, Option.map_eq_some_iff] at hv
  obtain ⟨a, ha, rfl⟩ := hv
  rw [hu] at ha; cases ha
  have := h _ (List.mem_of_getElem? hu)
  exact ⟨.t _ _ (.sc _ this), this⟩

theorem allocK_sound {e : TypeId} {nid : Nat} {δ : Dl} (h : allocK P e nid = some δ) (hS : SRel F S m w) (hid : S nid = none) : Done F S m w δ.wr δ.val ((Instr.alloc e true (.tuple #[])).run P w) := by
  unfold allocK at h
  simp only [Option.bind_eq_some_iff] at h
  obtain ⟨z, hz, h⟩ := h
  simp only [Option.some.injEq] at h
  subst h
  obtain ⟨v, hv, vs, hvs, rfl, h1⟩ := tzeros_some hz
  obtain ⟨r1, r2, r3⟩ := new_box hS hid (CRel.scs h1) e
  exact ⟨_, _, _, by simp [Instr.alloc, run_zeroValue' hv, newVar, newRow, hvs], r1, r2, r3⟩

theorem boxK_sound {e : TypeId} {x : AVal} {nid : Nat} {δ : Dl} (h : boxK x nid = some δ) (hS : SRel F S m w) (hid : S nid = none) {u : Value} (hx : VRel S m w (okB F S m w) x u) :
    Done F S m w δ.wr δ.val ((Instr.box e u).run P w) := by
  unfold boxK at h
  obtain ⟨hc, h⟩ := bif_some h
  simp only [Option.some.injEq] at h
  subst h
  obtain ⟨us, hus, hl, hr⟩ := VRel.cellsOf hx hc
  obtain ⟨r1, r2, r3⟩ := new_box hS hid ⟨hl, hr⟩ e
  exact ⟨_, _, _, by simp [Instr.box, newVar, newRow, hus], r1, r2, r3⟩

theorem buildK_sound {t : TypeId} {parts : List (Nat × AVal)} {δ : Dl} (h : buildK P t parts = some δ) (hS : SRel F S m w) {uparts : Array (Nat × Value)} (hl : uparts.size = parts.length)
    (hr : ∀ (i : Nat) (p : Nat × AVal) (q : Nat × Value), parts[i]? = some p → uparts[i]? = some q → p.1 = q.1 ∧ VRel S m w (okB F S m w) p.2 q.2) :
    Done F S m w δ.wr δ.val ((Instr.build t uparts).run P w) := by
  unfold buildK at h
  simp only [Option.bind_eq_some_iff] at h
  obtain ⟨z, hz, place, hp, h⟩ := h
  obtain ⟨hall, h⟩ := bif_some h
  simp only [Option.bind_eq_some_iff] at h
  obtain ⟨cs, hf, h⟩ := h
  have := pure1_some h; subst this
  obtain ⟨v, hv, vs, hvs, rfl, h1⟩ := tzeros_some hz
  obtain ⟨us', hfill, hrel⟩ := fill_rel (ok := okB F S m w) parts uparts.toList _ cs vs hf (by simpa using hl) (fun i p q hp hq => by
    obtain ⟨a, b⟩ := hr i p q hp (by simpa using hq)
    exact ⟨a, b, List.all_eq_true.1 hall p (List.mem_of_getElem? hp)⟩) (CRel.scs h1)
  have hb : P.built t uparts.toList = some us'.toArray := by
    unfold tzero at hv
    cases hi : P.info? t with
    | none => simp [hi] at hv
    | some i =>
      simp only [hi, Option.bind_some] at hv
      unfold placeOf at hp
      split at hp
      · rename_i fs hu
        simp only [Option.map_eq_some_iff] at hp
        obtain ⟨ps, hps, rfl⟩ := hp
        unfold structPlaces at hps
        simp only [Program.built, hi, hu, hv, hps, hvs]
        simpa using hfill
      · rename_i n e hu
        simp only [Option.map_eq_some_iff] at hp
        obtain ⟨s, hs, rfl⟩ := hp
        unfold tsz at hs
        cases hie : P.info? e with
        | none => simp [hie] at hs
        | some ie =>
          simp [hie] at hs
          subst hs
          simp only [Program.built, hi, hu, hv, hie, hvs]
          exact hfill
      · cases hp
  exact Done.same hS ⟨_, run_build w t uparts _ hb, VRel.aggV hrel.1 hrel.2⟩

end Go.Ab
