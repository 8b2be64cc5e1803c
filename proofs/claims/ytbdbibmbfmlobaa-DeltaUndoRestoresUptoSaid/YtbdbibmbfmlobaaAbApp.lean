/- append onto a slice of the function's own. -/
import Derived.Test.YtbdbibmbfmlobaaAbMake
import Derived.Laws.Append
set_option linter.unusedVariables false
namespace Go.Ab
variable {P : Program} {w : World} {F : Nat → Prop} {S st : Store} {m : Place}

/-- What is appended, cell by cell. -/
structure Src (w : World) (ok : Nat → Prop) (k : Nat) (ys : List Tree) (ux : Value) (news : List Value) : Prop where
  elts : ∀ x ∈ ys, Elt k x
  len : news.length = ys.length * k
  one : ∀ u ∈ news, u.oneCell' = true
  rep : ∀ (j : Nat) (T : Tree) (u : Value), (flat ys)[j]? = some T → news[j]? = some u → TRep w ok T u
  shape : ∃ A c, ux = .slice A ys.length c ∧ (A = none → ys = []) ∧ ∀ a, A = some a → ∀ (j : Nat) (u : Value), news[j]? = some u → w.cell? (a.add j) = some u

theorem src_sound {k : Nat} {x : AVal} {ys : List Tree} {p : List Prop} (hk : 0 < k) (h : srcOf st k x = some (ys, p)) (hp : All p) (hst : ∀ id o, st id = some o → S id = some o) (hS : SRel F S m w) {ux : Value}
    (hx : VRel S m w (okB F S m w) x ux) : ∃ news, Src w (okB F S m w) k ys ux news := by
  unfold srcOf at h
  split at h
  · rename_i k' xs
    obtain ⟨h1, h2⟩ := bif_some h
    have h1 := Nat.eq_of_beq_eq_true h1
    subst h1
    simp only [Option.some.injEq, Prod.mk.injEq] at h2
    obtain ⟨rfl, rfl⟩ := h2
    cases hx with
    | t _ _ hT =>
      cases hT with
      | lst _ _ A c us hk hxx hn hm hA hl hrep =>
        have hfl := flat_len hxx
        refine ⟨us, hxx, hl, fun u hu => ?_, hrep, A, c, rfl, fun e => ?_, fun a ha j u hu => ?_⟩
        · obtain ⟨j, hj, rfl⟩ := List.mem_iff_getElem.1 hu
          have hj' : j < (flat xs).length := by omega
          exact (hrep j _ _ (List.getElem?_eq_getElem hj') (List.getElem?_eq_getElem hj)).one (flat_cell hxx _ (List.getElem_mem _))
        · by_cases hne : xs = []
          · exact hne
          · obtain ⟨b, o, h, _⟩ := hA hne
            rw [e] at h; cases h
        · by_cases hne : xs = []
          · subst hne
            have : us = [] := List.eq_nil_of_length_eq_zero (by simpa using hl)
            subst this; simp at hu
          · obtain ⟨b, o, h, _, hcell⟩ := hA hne
            rw [ha] at h; cases h
            rw [add_lit']; exact hcell j u hu
  · simp only [Option.some.injEq, Prod.mk.injEq] at h
    obtain ⟨rfl, rfl⟩ := h
    have := VRel.sc_inv hx; subst this
    exact ⟨[], fun x hx => by simp at hx, by simp, fun u hu => by simp at hu, fun j T u h => by simp [flat] at h, none, 0, rfl, fun _ => rfl, fun a ha => by cases ha⟩
  · rename_i id n
    split at h
    rotate_left
    · cases h
    rename_i k' fz xs hs
    obtain ⟨h1, h2⟩ := bif_some h
    have h1 := Nat.eq_of_beq_eq_true h1
    subst h1
    simp only [Option.some.injEq, Prod.mk.injEq] at h2
    obtain ⟨rfl, rfl⟩ := h2
    simp only [All] at hp
    obtain ⟨hn, -⟩ := hp
    have hs2 := hst id _ hs
    cases hx with
    | row _ _ k0 fz0 xs0 L hs0 hn0 hu0 =>
      rw [hs2] at hs0; cases hs0
      have hL := hu0 hn
      obtain ⟨a1, a2, a3, a4, a5⟩ := hS.objs id _ hs2
      have hfl := flat_len a2
      rcases a5 with ⟨a5, a6⟩ | ⟨b, us, e, h1, h2, h3, h4, h5⟩
      · have hx : xs = [] := List.eq_nil_of_length_eq_zero (by rw [a6] at a3; omega)
        subst hx
        refine ⟨[], a2, by simp, fun u hu => by simp at hu, fun j T u h => by simp [flat] at h, none, L.2, ?_, fun _ => rfl, fun a ha => by cases ha⟩
        rw [← hL, rowVal, a5, hn]; rfl
      · have hle : xs.length * k ≤ us.size := by rw [h3]; exact Nat.mul_le_mul_right k a3
        refine ⟨us.toList.take (xs.length * k), a2, by simp; omega, fun u hu => ?_, fun j T u hT hu => ?_, ⟨some ⟨b, 0, none⟩, L.2, ?_, fun e => absurd e (by simp), fun a ha j u hu => ?_⟩⟩
        · obtain ⟨j, hj⟩ := List.getElem?_of_mem (List.mem_of_mem_take hu)
          exact h4 j u (by simpa using hj)
        · rw [List.getElem?_take] at hu
          split at hu
          · exact h5 j T u hT (by simpa using hu)
          · cases hu
        · rw [← hL, rowVal, h1, hn]; rfl
        · cases ha
          rw [add_lit', Nat.zero_add]
          rw [List.getElem?_take] at hu
          split at hu
          · simp only [World.cell?, h2]; simpa using hu
          · cases hu
  · cases h

/-- The appended cells are read in whatever world has them. -/
theorem Src.first {ok : Nat → Prop} {k : Nat} {ys : List Tree} {ux : Value} {news : List Value} (h : Src w ok k ys ux news) (w' : World) (hw : ∀ a, w'.cell? a = w.cell? a) :
    (Builtin.firstCells k ys.length ux).run P w' = .ok news.toArray w' ∧ (Builtin.lenOf ux).run P w' = .ok ys.length w' := by
  obtain ⟨A, c, rfl, hA, hc⟩ := h.shape
  refine ⟨?_, by simp [Builtin.lenOf]⟩
  cases A with
  | none =>
    have := hA rfl
    subst this
    have : news = [] := List.eq_nil_of_length_eq_zero (by simpa using h.len)
    subst this
    simp [Builtin.firstCells]
  | some a => exact run_firstCells_some w' k ys.length a ys.length c news h.len (fun j v hv => by rw [hw]; exact hc a rfl j v hv)

theorem run_app {t ty e : TypeId} {i : TypeInfo} {z : Value} (ht : P.underlying t = some (.slice e)) (hi : P.info? e = some i) (hz : i.zero = some z) {ok : Nat → Prop} {k : Nat} (hk : i.size = k)
    {ys : List Tree} {ux : Value} {news : List Value} (hs : Src w ok k ys ux news) (hb : i.bytes ≤ 128) (L : Option Nat × Nat) (n : Nat) (olds : List Value) (hlo : olds.length = n * k) (hcap : n ≤ L.2) (hbig : n + ys.length ≤ 1099511627776)
    (hL : (L = (none, 0) ∧ olds = []) ∨ ∃ b cur e', L.1 = some b ∧ w.heap[b]? = some (.cells cur e' (0, 0)) ∧ cur.size = L.2 * k ∧ olds = cur.toList.take (n * k)) :
    (n + ys.length ≤ L.2 ∧ ((L = (none, 0) ∧ (Builtin.append_ #[t, t] ty #[rowVal L n, ux]).run P w = .ok (rowVal L (n + ys.length)) w) ∨
      ∃ b cur e', L.1 = some b ∧ w.heap[b]? = some (.cells cur e' (0, 0)) ∧
        (Builtin.append_ #[t, t] ty #[rowVal L n, ux]).run P w = .ok (rowVal L (n + ys.length)) (w.setRow b (cur.toList.take (n * k) ++ news ++ cur.toList.drop (n * k + news.length)).toArray))) ∨
    (L.2 < n + ys.length ∧ ∃ cap, n + ys.length ≤ cap ∧ cap ≤ maxLen ∧
      (Builtin.append_ #[t, t] ty #[rowVal L n, ux]).run P w = .ok (rowVal (some w.heap.size, cap) (n + ys.length)) (w.drew.alloc (.cells (olds.toArray ++ news.toArray ++ Builtin.zeroCells z.cells (cap - (n + ys.length))) e))) := by
  have hsz : tsz P e = some k := by simp [tsz, hi, hk]
  have hd := hs.first (P := P) w (fun _ => rfl)
  by_cases hroom : n + ys.length ≤ L.2
  · refine .inl ⟨hroom, ?_⟩
    rcases hL with ⟨rfl, h0⟩ | ⟨b, cur, e', h1, h2, h3, h4⟩
    · left
      refine ⟨rfl, ?_⟩
      simp only at hroom
      have hy : ys.length = 0 := by omega
      have hn : n = 0 := by omega
      have hne : news = [] := List.eq_nil_of_length_eq_zero (by rw [hs.len, hy]; simp)
      rw [hy] at hd ⊢
      subst hn
      simp [Builtin.append_, run_underlying ht, run_sizeOf' hsz, hd.1, hd.2, rowVal]
    · right
      refine ⟨b, cur, e', h1, h2, ?_⟩
      have hfit : n * k + news.length ≤ cur.size := by rw [hs.len, h3, ← Nat.add_mul]; exact Nat.mul_le_mul_right _ hroom
      have hst := run_storeCells_at P b (n * k) e' news 0 cur w h2 (by simpa using hfit) hs.one
      simp only [Nat.add_zero] at hst
      simp [Builtin.append_, run_underlying ht, run_sizeOf' hsz, hd.1, hd.2, rowVal, hroom, h1, add_lit', hst]
  · refine .inr ⟨by omega, grownCap w (n + ys.length) L.2 e, grownCap_ge _ _ _ _, grownCap_le_maxLen _ _ _ _ (by simp only [maxLen]; omega), ?_⟩
    have hd' := hs.first (P := P) w.drew (fun _ => rfl)
    have h63 : ¬ (9223372036854775807 < ((n : Int) + (ys.length : Int))) := by omega
    have h48 : ¬ (281474976710656 < Builtin.nextslicecap (n + ys.length) L.2 * i.bytes) := by
      have := growslice_fits (need := n + ys.length) (old := L.2) (bytes := i.bytes) (by omega) (by
        have : (n + ys.length) * i.bytes ≤ 1099511627776 * 128 := Nat.mul_le_mul hbig hb
        omega)
      omega
    have hold : (Builtin.firstCells k n (rowVal L n)).run P w.drew = .ok olds.toArray w.drew := by
      rcases hL with ⟨rfl, h0⟩ | ⟨b, cur, e', h1, h2, h3, h4⟩
      · subst h0
        simp at hlo
        simp [rowVal, Builtin.firstCells]
      · rw [rowVal, h1]
        refine run_firstCells_some w.drew k n _ _ _ olds hlo (fun j v hv => ?_)
        rw [add_lit', Nat.zero_add]
        subst h4
        rw [List.getElem?_take] at hv
        split at hv
        · show w.cell? _ = _
          simp only [World.cell?, h2]; simpa using hv
        · cases hv
    have hzv : tzero P e = some z := by simp [tzero, hi, hz]
    have hrv : rowVal L n = .slice (L.1.map fun b => ⟨b, 0, none⟩) n L.2 := rfl
    simp only [Builtin.append_, rowVal] at hold ⊢
    simp [run_underlying ht, run_sizeOf' hsz, hd.2, hroom, h63, h48, typeInfo, hi, Question.forced, hold, hd'.1, run_zeroValue' hzv, newRow, grownCap]
    rw [← Array.append_assoc, List.append_toArray olds news]

theorem Elt.append {k : Nat} {xs ys : List Tree} (h1 : ∀ x ∈ xs, Elt k x) (h2 : ∀ x ∈ ys, Elt k x) : ∀ x ∈ xs ++ ys, Elt k x := fun x hx => (List.mem_append.1 hx).elim (h1 x) (h2 x)

/-- The cells behind a longer row. -/
theorem grown_cells {ok : Nat → Prop} {k n : Nat} {xs ys : List Tree} {olds news rest : List Value} (ha : ∀ x ∈ xs, Elt k x) (hn : n = xs.length) (hlo : olds.length = n * k)
    (hr : ∀ (j : Nat) (T : Tree) (u : Value), (flat xs)[j]? = some T → olds[j]? = some u → TRep w ok T u) (hrep : ∀ (j : Nat) (T : Tree) (u : Value), (flat ys)[j]? = some T → news[j]? = some u → TRep w ok T u)
    (hel : ∀ x ∈ ys, Elt k x) (hl : news.length = ys.length * k) (j : Nat) (T : Tree) (u : Value) (hT : (flat (xs ++ ys))[j]? = some T) (hu : (olds ++ news ++ rest)[j]? = some u) : TRep w ok T u := by
  have hfx := flat_len ha
  have hfy := flat_len hel
  rw [flat_append] at hT
  by_cases c1 : j < n * k
  · rw [List.getElem?_append_left (by rw [hfx, ← hn]; exact c1)] at hT
    rw [List.getElem?_append_left (by simp; omega), List.getElem?_append_left (by omega)] at hu
    exact hr j T u hT hu
  · have hj : j < (flat xs ++ flat ys).length := (List.getElem?_eq_some_iff.1 hT).1
    simp only [List.length_append, hfx, hfy, ← hn] at hj
    rw [List.getElem?_append_right (by rw [hfx, ← hn]; omega), hfx, ← hn] at hT
    rw [List.getElem?_append_left (by simp; omega), List.getElem?_append_right (by omega), hlo] at hu
    exact hrep _ T u hT hu

/-- An object moves to a new block and grows. -/
theorem move_obj (hS : SRel F S m w) {id : Nat} {o o' : Ob} (hid : S id = some o) (hlt : o.len < o'.len) (hsh : o.same o') (hlv : o.live = true) (us : Array Value) (e : TypeId) (cap : Nat)
    (ho' : FrameExt F S m w (upd S id o') (place m id (some w.heap.size, cap)) (w.alloc (.cells us e)) →
      ORel (upd S id o') (place m id (some w.heap.size, cap)) (w.alloc (.cells us e)) (okB F (upd S id o') (place m id (some w.heap.size, cap)) (w.alloc (.cells us e))) o' (some w.heap.size, cap)) :
    SRel F (upd S id o') (place m id (some w.heap.size, cap)) (w.alloc (.cells us e)) ∧ FrameExt F S m w (upd S id o') (place m id (some w.heap.size, cap)) (w.alloc (.cells us e)) := by
  have hF : FrameExt F S m w (upd S id o') (place m id (some w.heap.size, cap)) (w.alloc (.cells us e)) := by
    refine ⟨rfl, rfl, rfl, by simp, fun b hb _ => alloc_old w _ b hb, fun i oi hi => ?_, fun i oi hi hn => ?_⟩
    · by_cases e : i = id
      · subst e
        rw [hid] at hi; cases hi
        exact ⟨o', upd_same _ _ _, by omega, fun e => by omega, fun h => (by rw [hlv] at h; cases h), .inr (fun b hb => by rw [place_same] at hb; simp at hb; omega), hsh⟩
      · exact ⟨oi, by rw [upd_ne e]; exact hi, Nat.le_refl _, fun _ => place_ne e, fun h => h, .inl (by rw [place_ne e]), oi.same_refl⟩
    · by_cases e : i = id
      · subst e; rw [hid] at hn; cases hn
      · rw [upd_ne e] at hi; rw [hi] at hn; cases hn
  have hlt : ∀ i oi b, S i = some oi → (m i).1 = some b → b < w.heap.size := by
    intro i oi b hi hm
    have := hS.objs i oi hi
    cases oi with
    | box cs =>
      obtain ⟨b', us, e, h1, h2, _⟩ := this
      rw [h1] at hm; cases hm
      exact (Array.getElem?_eq_some_iff.1 h2).1
    | row k fz xs =>
      obtain ⟨_, _, _, _, h5⟩ := this
      rcases h5 with ⟨h1, _⟩ | ⟨b', us, e, h1, h2, _⟩
      · rw [h1] at hm; cases hm
      · rw [h1] at hm; cases hm
        exact (Array.getElem?_eq_some_iff.1 h2).1
  refine ⟨⟨fun i oi hi => ?_, fun i j oi oj c hi hj h1 h2 => ?_, fun i oi c hi hm hFb => ?_, fun c hc => Nat.lt_of_lt_of_le (hS.low c hc) hF.size⟩, hF⟩
  · by_cases e : i = id
    · subst e
      rw [upd_same] at hi; cases hi
      rw [place_same]; exact ho' hF
    · rw [upd_ne e] at hi
      rw [place_ne e]
      exact (hS.objs i oi hi).persist hF (fun b hm => alloc_old w _ b (hlt i oi b hi hm))
  · by_cases e : i = id
    · by_cases e' : j = id
      · rw [e, e']
      · subst e
        rw [place_same] at h1
        rw [place_ne e'] at h2
        rw [upd_ne e'] at hj
        have := hlt j oj c hj h2
        simp at h1; omega
    · by_cases e' : j = id
      · subst e'
        rw [place_same] at h2
        rw [place_ne e] at h1
        rw [upd_ne e] at hi
        have := hlt i oi c hi h1
        simp at h2; omega
      · rw [place_ne e] at h1
        rw [place_ne e'] at h2
        rw [upd_ne e] at hi
        rw [upd_ne e'] at hj
        exact hS.inj i j oi oj c hi hj h1 h2
  · by_cases e : i = id
    · subst e
      rw [place_same] at hm
      have := hS.low c hFb
      simp at hm; omega
    · rw [upd_ne e] at hi
      rw [place_ne e] at hm
      exact hS.avoid i oi c hi hm hFb

theorem drewF : FrameExt F S m w S m w.drew := ⟨rfl, rfl, rfl, Nat.le_refl _, fun _ _ _ => rfl, fun id o h => ⟨o, h, Nat.le_refl _, fun _ => rfl, fun h => h, .inl rfl, o.same_refl⟩, fun id o h h' => by rw [h'] at h; cases h⟩
theorem SRel.drew (hS : SRel F S m w) : SRel F S m w.drew := ⟨fun id o h => (hS.objs id o h).persist drewF (fun _ _ => rfl), hS.inj, hS.avoid, hS.low⟩

theorem appendK_sound {ts : Array TypeId} {ty : TypeId} {s x : AVal} {nid : Nat} {δ : Dl} (h : appendK P ts s x st nid = some δ) (hc : All δ.cnd) (hst : ∀ id o, st id = some o → S id = some o) (hS : SRel F S m w) (hid : S nid = none)
    {us ux : Value} (hs : VRel S m w (okB F S m w) s us) (hx : VRel S m w (okB F S m w) x ux) : Done F S m w δ.wr δ.val ((Builtin.append_ ts ty #[us, ux]).run P w) := by
  unfold appendK at h
  split at h
  rotate_left
  · cases h
  rename_i tS tX hts
  simp only [Option.bind_eq_some_iff] at h
  obtain ⟨e, he, k, hk, b, hb, z, hz, ⟨ys, p⟩, hsrc, h⟩ := h
  obtain ⟨hcond, h2⟩ := bif_some h
  clear h
  simp only at h2
  simp only [Bool.and_eq_true] at hcond
  obtain ⟨⟨⟨ht, hk0⟩, hb128⟩, hzl⟩ := hcond
  have ht := Nat.eq_of_beq_eq_true ht
  subst ht
  have hk0 := blt_pos hk0
  have hb128 := Nat.le_of_ble_eq_true hb128
  have hzl := Nat.eq_of_beq_eq_true hzl
  have hu := telem_some he
  obtain ⟨zv, hzv, zs, hzs, rfl, hz1⟩ := tzeros_some hz
  simp only [List.length_map] at hzl
  have htsa : ts = #[tS, tS] := by
    apply Array.ext'
    simpa using hts
  subst htsa
  obtain ⟨i, hi, hik, hib, hizero⟩ : ∃ i, P.info? e = some i ∧ i.size = k ∧ i.bytes = b ∧ i.zero = some zv := by
    unfold tsz at hk
    unfold tby at hb
    unfold tzero at hzv
    cases hi : P.info? e with
    | none => simp [hi] at hk
    | some i => simp [hi] at hk hb hzv; exact ⟨i, rfl, hk, hb, hzv⟩
  have hzeros : ∀ q : Nat, (Builtin.zeroCells zv.cells q).toList = repl zs q := fun q => by
    have := repl_range zv.cells q
    simp only [Builtin.zeroCells]
    rw [this, hzs]
  split at h2
  · -- onto nil
    simp only [Option.some.injEq] at h2
    subst h2
    rw [All_append] at hc
    simp only [All] at hc
    obtain ⟨hp, hbig, -⟩ := hc
    obtain ⟨news, hsr⟩ := src_sound hk0 hsrc hp hst hS hx
    have := VRel.sc_inv hs; subst this
    have hrun := run_app (ty := ty) hu hi hizero hik hsr (by omega) (none, 0) 0 [] (by simp) (by simp) (by simpa using hbig) (.inl ⟨rfl, rfl⟩)
    simp only [Nat.zero_add] at hrun
    rcases hrun with ⟨hr1, ⟨_, hrun⟩ | ⟨b, cur, e', h1, _⟩⟩ | ⟨hr1, cap, hcap, hm, hrun⟩
    · have hy : ys = [] := List.eq_nil_of_length_eq_zero (by omega)
      subst hy
      -- the row stays nil
      have hF := ext_new (F := F) (S := S) (m := m) (w := w) (w' := w) (o := .row k false []) (L := (none, 0)) hid rfl rfl rfl (Nat.le_refl _) (fun _ _ => rfl) (fun b hb => by simp at hb)
      refine ⟨_, w, place m nid (none, 0), hrun, hS.new hid hF (fun _ _ => rfl) (fun b hb => by simp at hb) ⟨hk0, fun x hx => by simp at hx, by simp, by simp [maxLen], .inl ⟨rfl, rfl⟩⟩, hF, ?_⟩
      exact .row nid 0 k false [] (none, 0) (upd_same _ _ _) (Nat.le_refl _) (fun _ => place_same _ _ _)
    · simp at h1
    · have hlen : (news ++ repl zs (cap - ys.length)).length = cap * k := by
        rw [List.length_append, hsr.len, repl_len, hzl, ← Nat.add_mul]; congr 1; omega
      obtain ⟨n1, n2, n3⟩ := new_row hS.drew hid (xs := ys) hk0 hsr.elts cap hcap hm hlen
        (fun u hu => (List.mem_append.1 hu).elim (hsr.one u) (fun h => hz1 u (repl_mem h))) (fun j T u hT hu => by
          rw [List.getElem?_append_left (by rw [hsr.len, ← flat_len hsr.elts]; exact (List.getElem?_eq_some_iff.1 hT).1)] at hu
          exact drewF.tree (hsr.rep j T u hT hu)) e
      have ecells : (([] : List Value).toArray ++ news.toArray ++ Builtin.zeroCells zv.cells (cap - ys.length)) = (news ++ repl zs (cap - ys.length)).toArray := by
        apply Array.ext'
        simp [hzeros]
      rw [ecells] at hrun
      exact ⟨_, _, _, hrun, n1, drewF.trans hS n2, n3 _⟩
  · -- onto a row
    rename_i id n
    split at h2
    rotate_left
    · cases h2
    rename_i k' xs hs'
    obtain ⟨hkk, h⟩ := bif_some h2
    have hkk := Nat.eq_of_beq_eq_true hkk
    subst hkk
    simp only [Option.some.injEq] at h
    subst h
    rw [All_append] at hc
    simp only [All] at hc
    obtain ⟨hp, hn, hbig, -⟩ := hc
    obtain ⟨news, hsr⟩ := src_sound hk0 hsrc hp hst hS hx
    have hs2 := hst id _ hs'
    have hnid : id ≠ nid := fun e => by subst e; rw [hid] at hs2; cases hs2
    cases hs with
    | row _ _ k0 fz0 xs0 L hs0 hn0 hu0 =>
      rw [hs2] at hs0; cases hs0
      have hL := hu0 hn
      obtain ⟨a1, a2, a3, a4, a5⟩ := hS.objs id _ hs2
      rw [hL] at a3 a4 a5
      have hfl := flat_len a2
      obtain ⟨olds, ho1, ho2, ho3, ho4⟩ : ∃ olds : List Value, olds.length = n * k ∧ ((L = (none, 0) ∧ olds = []) ∨ ∃ b cur e', L.1 = some b ∧ w.heap[b]? = some (.cells cur e' (0, 0)) ∧ cur.size = L.2 * k ∧ olds = cur.toList.take (n * k)) ∧
          (∀ u ∈ olds, u.oneCell' = true) ∧ (∀ (j : Nat) (T : Tree) (u : Value), (flat xs)[j]? = some T → olds[j]? = some u → TRep w (okB F S m w) T u) := by
        rcases a5 with ⟨a5, a6⟩ | ⟨b, cur, e', h1, h2, h3, h4, h5⟩
        · have hx : xs = [] := List.eq_nil_of_length_eq_zero (by rw [a6] at a3; omega)
          subst hx
          exact ⟨[], by simp [hn], .inl ⟨Prod.ext a5 a6, rfl⟩, fun u hu => by simp at hu, fun j T u h => by simp [flat] at h⟩
        · have hle : n * k ≤ cur.size := by rw [h3]; exact Nat.mul_le_mul_right k (by omega)
          refine ⟨cur.toList.take (n * k), by simp; omega, .inr ⟨b, cur, e', h1, h2, h3, rfl⟩, fun u hu => ?_, fun j T u hT hu => ?_⟩
          · obtain ⟨j, hj⟩ := List.getElem?_of_mem (List.mem_of_mem_take hu)
            exact h4 j u (by simpa using hj)
          · rw [List.getElem?_take] at hu
            split at hu
            · exact h5 j T u hT (by simpa using hu)
            · cases hu
      have hrun := run_app (ty := ty) hu hi hizero hik hsr (by omega) L n olds ho1 (by omega) hbig ho2
      have helt := Elt.append a2 hsr.elts
      have hlen2 : (xs ++ ys).length = n + ys.length := by simp [hn]
      rcases hrun with ⟨hr1, ⟨hL0, hrun⟩ | ⟨b, cur, e', h1, h2, hrun⟩⟩ | ⟨hr1, cap, hcap, hm, hrun⟩
      · -- still nil
        subst hL0
        simp only at hr1
        have hy : ys = [] := List.eq_nil_of_length_eq_zero (by omega)
        subst hy
        have he : app S [(id, Ob.row k false (xs ++ []))] = S := by
          funext j
          show upd S id (.row k false (xs ++ [])) j = S j
          by_cases e : j = id
          · subst e; rw [upd_same, List.append_nil, hs2]
          · rw [upd_ne e]
        refine ⟨_, w, m, hrun, ?_, ?_, ?_⟩
        · rw [he]; exact hS
        · rw [he]; exact FrameExt.refl F S m w
        · rw [he]; exact .row id _ k false xs _ hs2 (by simp [hn]) (fun _ => hL)
      · -- in place
        have hcs : cur.size = L.2 * k ∧ olds = cur.toList.take (n * k) := by
          rcases ho2 with ⟨hq, _⟩ | ⟨b0, cur0, e0, q1, q2, q3, q4⟩
          · rw [hq] at h1; cases h1
          · rw [h1] at q1; cases q1
            rw [h2] at q2; cases q2
            exact ⟨q3, q4⟩
        have hfit : n * k + news.length ≤ cur.size := by rw [hsr.len, hcs.1, ← Nat.add_mul]; exact Nat.mul_le_mul_right _ hr1
        have hcur1 : ∀ (j : Nat) (u : Value), cur[j]? = some u → u.oneCell' = true := by
          rcases a5 with ⟨a5, _⟩ | ⟨b0, cur0, e0, q1, q2, q3, q4, q5⟩
          · rw [a5] at h1; cases h1
          · rw [h1] at q1; cases q1
            rw [h2] at q2; cases q2
            exact q4
        have key := rewrite_obj (o' := .row k false (xs ++ ys)) hS hs2 rfl (by rw [hL]; exact h1) (w' := w.setRow b (cur.toList.take (n * k) ++ news ++ cur.toList.drop (n * k + news.length)).toArray)
          rfl rfl rfl (by simp) (fun c hc => setRow_get w b c _ hc) (by simp [Ob.len]) (by simp [Ob.same]) (fun hF => by
            rw [hL]
            refine ⟨hk0, helt, by omega, a4, .inr ⟨b, _, e', h1, setRow_heap w b cur _ e' _ h2, by simp; omega, fun j u hu => ?_, fun j T u hT hu => ?_⟩⟩
            · have hu : (cur.toList.take (n * k) ++ news ++ cur.toList.drop (n * k + news.length))[j]? = some u := by simpa using hu
              rcases List.mem_append.1 (List.mem_of_getElem? hu) with hu | hu
              · rcases List.mem_append.1 hu with hu | hu
                · obtain ⟨q, hq⟩ := List.getElem?_of_mem (List.mem_of_mem_take hu)
                  exact hcur1 q u (by simpa using hq)
                · exact hsr.one u hu
              · obtain ⟨q, hq⟩ := List.getElem?_of_mem (List.mem_of_mem_drop hu)
                exact hcur1 q u (by simpa using hq)
            · have hu : (olds ++ news ++ cur.toList.drop (n * k + news.length))[j]? = some u := by rw [hcs.2]; simpa using hu
              exact hF.tree (grown_cells a2 hn ho1 ho4 hsr.rep hsr.elts hsr.len j T u hT hu))
        refine ⟨_, _, m, hrun, key.1, key.2, ?_⟩
        exact .row id _ k false (xs ++ ys) L (upd_same _ _ _) (by rw [hlen2]; exact Nat.le_refl _) (fun _ => hL)
      · -- a new block
        have hzl' : (repl zs (cap - (n + ys.length))).length = (cap - (n + ys.length)) * k := by rw [repl_len, hzl]
        have ecells : (olds.toArray ++ news.toArray ++ Builtin.zeroCells zv.cells (cap - (n + ys.length))) = (olds ++ news ++ repl zs (cap - (n + ys.length))).toArray := by
          apply Array.ext'
          simp [hzeros]
        rw [ecells] at hrun
        have key := move_obj (o' := .row k false (xs ++ ys)) hS.drew hs2 (by simp [Ob.len]; omega) (by simp [Ob.same]) rfl (olds ++ news ++ repl zs (cap - (n + ys.length))).toArray e cap (fun hF => by
          refine ⟨hk0, helt, by rw [hlen2]; exact hcap, hm, .inr ⟨w.heap.size, _, e, rfl, alloc_new w.drew _, ?_, fun j u hu => ?_, fun j T u hT hu => ?_⟩⟩
          · simp only [List.size_toArray, List.length_append, ho1, hsr.len, hzl', ← Nat.add_mul]
            congr 1; omega
          · have hu : (olds ++ news ++ repl zs (cap - (n + ys.length)))[j]? = some u := by simpa using hu
            rcases List.mem_append.1 (List.mem_of_getElem? hu) with hu | hu
            · exact (List.mem_append.1 hu).elim (ho3 u) (hsr.one u)
            · exact hz1 u (repl_mem hu)
          · have hu : (olds ++ news ++ repl zs (cap - (n + ys.length)))[j]? = some u := by simpa using hu
            exact hF.tree (drewF.tree (grown_cells a2 hn ho1 ho4 hsr.rep hsr.elts hsr.len j T u hT hu)))
        refine ⟨_, _, _, hrun, key.1, drewF.trans hS key.2, ?_⟩
        exact .row id _ k false (xs ++ ys) _ (upd_same _ _ _) (by rw [hlen2]; exact Nat.le_refl _) (fun _ => place_same _ _ _)
  · cases h2

end Go.Ab
