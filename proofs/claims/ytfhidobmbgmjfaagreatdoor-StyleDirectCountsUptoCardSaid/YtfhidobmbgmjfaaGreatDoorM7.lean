/- Items below their parents, in the order in which they are shown. -/
import Derived.Test.YtfhidobmbgmjfaaGreatDoorM1
import Derived.Test.YtfhidobmbgmjfaaGreatDoorM2
import Derived.Test.YtfhidobmbgmjfaaGreatDoorM3
import Derived.Test.YtfhidobmbgmjfaaGreatDoorM4
import Derived.Test.YtfhidobmbgmjfaaGreatDoorM5
import Derived.Test.YtfhidobmbgmjfaaGreatDoorM6
import Derived.Shelf.Unicode.ValidAny
section
set_option linter.unusedVariables false
set_option linter.unusedSimpArgs false
set_option maxRecDepth 100000
namespace Go.Ch
open Go Go.Ab

/-- The items of a parent, in their order; those below it. -/
def kidsI (its : List DItem) (p : Int) : List DItem := srtP (its.filter fun x => x.parent == p)
def walkI (its : List DItem) : Nat → Int → List DItem
  | 0, _ => []
  | n + 1, p => (kidsI its p).flatMap fun x => x :: walkI its n x.item
theorem kidsI_mem {its : List DItem} {p : Int} {x : DItem} : x ∈ kidsI its p ↔ x ∈ its ∧ x.parent = p := by
  unfold kidsI srtP
  rw [(srtO_perm ltP _).mem_iff, List.mem_filter]
  simp
structure Its (its : List DItem) (r : Int → Nat) : Prop where
  rk : Rk its r
  uq : UniqI DItem.item its
  pos : ∀ x ∈ its, 0 < x.item
variable {its : List DItem} {r : Int → Nat}
inductive Dn (its : List DItem) (p : Int) : Int → Prop
  | base : Dn its p p
  | step (x : DItem) (hx : x ∈ its) (h : Dn its p x.parent) : Dn its p x.item
theorem Dn.inv (h : Its its r) {a k : Int} (hd : Dn its a k) {x : DItem} (hx : x ∈ its) (e : x.item = k) (hne : a ≠ k) : Dn its a x.parent := by
  cases hd with
  | base => exact absurd rfl hne
  | step y hy hb => rw [h.uq.uniq x hx y hy e]; exact hb
theorem Dn.comp (h : Its its r) {a b k : Int} (ha : Dn its a k) (hb : Dn its b k) : Dn its a b ∨ Dn its b a := by
  induction ha with
  | base => exact .inr hb
  | step x hx ha ih =>
    by_cases e : b = x.item
    · subst e; exact .inl (.step x hx ha)
    · exact ih (hb.inv h hx rfl e)
theorem Dn.rank (h : Its its r) {a k : Int} (ha : 0 < a) (hd : Dn its a k) : 0 < k ∧ r a ≤ r k := by
  induction hd with
  | base => exact ⟨ha, Nat.le_refl _⟩
  | step x hx hd ih => have := h.rk x hx ih.1; exact ⟨h.pos x hx, by omega⟩
theorem Dn.trans {a b c : Int} (h : Dn its a b) (k : Dn its b c) : Dn its a c := by
  induction k with
  | base => exact h
  | step x hx _ ih => exact .step x hx ih
theorem Dn.noback (h : Its its r) {x : DItem} (hx : x ∈ its) (hp : 0 ≤ x.parent) (hd : Dn its x.item x.parent) : False := by
  obtain ⟨h1, h2⟩ := hd.rank h (h.pos x hx)
  have := h.rk x hx h1
  omega
theorem walkI_below : ∀ (n : Nat) {p : Int} {y : DItem}, y ∈ walkI its n p → y ∈ its ∧ Dn its p y.parent
  | 0, p, y, hy => by simp [walkI] at hy
  | n + 1, p, y, hy => by
    simp only [walkI, List.mem_flatMap, List.mem_cons] at hy
    obtain ⟨x, hx, hy⟩ := hy
    obtain ⟨h1, h2⟩ := kidsI_mem.1 hx
    rcases hy with rfl | hy
    · exact ⟨h1, h2 ▸ .base⟩
    · obtain ⟨q1, q2⟩ := walkI_below n hy
      exact ⟨q1, Dn.trans (.step x h1 (h2 ▸ .base)) q2⟩
theorem walkI_item {n : Nat} {p : Int} {y : DItem} (hy : y ∈ walkI its n p) : Dn its p y.item := .step y (walkI_below n hy).1 (walkI_below n hy).2
theorem filter_uniq {l : List DItem} (h : UniqI DItem.item l) (q : DItem → Bool) : UniqI DItem.item (l.filter q) := by
  unfold UniqI at *
  exact h.sublist (List.filter_sublist.map _)
theorem kidsI_uniq (h : Its its r) (p : Int) : UniqI DItem.item (kidsI its p) := by
  have := filter_uniq h.uq (fun x => x.parent == p)
  unfold UniqI kidsI srtP at *
  exact ((srtO_perm ltP _).map _).nodup_iff.2 this
theorem walkI_nodup (h : Its its r) : ∀ (n : Nat) {p : Int}, 0 ≤ p → ((walkI its n p).map DItem.item).Nodup
  | 0, p, _ => by simp [walkI]
  | n + 1, p, hp => by
    simp only [walkI]
    have hu := kidsI_uniq h p
    have hk : ∀ x ∈ kidsI its p, x ∈ its ∧ x.parent = p := fun x hx => kidsI_mem.1 hx
    generalize kidsI its p = l at *
    induction l with
    | nil => simp
    | cons x l ih =>
      obtain ⟨h1, h2⟩ := hk x List.mem_cons_self
      simp only [UniqI, List.map_cons, List.nodup_cons] at hu
      simp only [List.flatMap_cons, List.map_append, List.map_cons]
      rw [List.nodup_append]
      refine ⟨List.nodup_cons.2 ⟨fun hm => ?_, walkI_nodup h n (Int.le_of_lt (h.pos x h1))⟩, ih hu.2 (fun y hy => hk y (List.mem_cons_of_mem _ hy)), fun a ha b hb e => ?_⟩
      · obtain ⟨y, hy, e⟩ := List.mem_map.1 hm
        obtain ⟨q1, q2⟩ := walkI_below n hy
        have := h.uq.uniq y q1 x h1 e
        subst this
        exact Dn.noback h h1 (by omega) q2
      · subst e
        obtain ⟨y, hy, rfl⟩ := List.mem_map.1 hb
        simp only [List.mem_flatMap, List.mem_cons] at hy
        obtain ⟨z, hz, hy⟩ := hy
        obtain ⟨k1, k2⟩ := hk z (List.mem_cons_of_mem _ hz)
        have d1 : Dn its x.item y.item := by
          rcases List.mem_cons.1 ha with e | ha
          · rw [e]; exact .base
          · obtain ⟨y', hy', e⟩ := List.mem_map.1 ha
            rw [← e]; exact walkI_item hy'
        have d2 : Dn its z.item y.item := by
          rcases hy with rfl | hy
          · exact .base
          · exact walkI_item hy
        have hne : x.item ≠ z.item := fun e => hu.1 (List.mem_map.2 ⟨z, hz, e.symm⟩)
        rcases d1.comp h d2 with d | d
        · have := d.inv h k1 rfl hne
          rw [k2, ← h2] at this
          exact Dn.noback h h1 (by omega) this
        · have := d.inv h h1 rfl hne.symm
          rw [h2, ← k2] at this
          exact Dn.noback h k1 (by omega) this

/-! ### How deep -/
def mu (its : List DItem) (r : Int → Nat) (p : Int) : Nat := if p = 0 then its.length + 1 else (its.filter fun x => decide (r p < r x.item)).length + 1
theorem filter_lt {l : List DItem} {p q : DItem → Bool} (h : ∀ x ∈ l, q x = true → p x = true) {x : DItem} (hx : x ∈ l) (h1 : p x = true) (h2 : q x = false) : (l.filter q).length < (l.filter p).length := by
  induction l with
  | nil => cases hx
  | cons a l ih =>
    have hle : (l.filter q).length ≤ (l.filter p).length := by
      have hs : ∀ (l : List DItem), (∀ x ∈ l, q x = true → p x = true) → (l.filter q).length ≤ (l.filter p).length := by
        intro l
        induction l with
        | nil => intro _; exact Nat.le_refl _
        | cons a l ih =>
          intro h
          have := ih (fun x hx => h x (List.mem_cons_of_mem _ hx))
          have ha := h a List.mem_cons_self
          simp only [List.filter_cons]
          split
          · rename_i hq; rw [if_pos (ha hq)]; simp only [List.length_cons]; omega
          · split <;> (try simp only [List.length_cons]) <;> omega
      exact hs l (fun x hx => h x (List.mem_cons_of_mem _ hx))
    rcases List.mem_cons.1 hx with rfl | hx
    · simp only [List.filter_cons, h1, h2, if_true]
      simp only [Bool.false_eq_true, if_false, List.length_cons]; omega
    · have := ih (fun x hx => h x (List.mem_cons_of_mem _ hx)) hx
      have ha := h a List.mem_cons_self
      simp only [List.filter_cons]
      split
      · rename_i hq; rw [if_pos (ha hq)]; simp only [List.length_cons]; omega
      · split <;> (try simp only [List.length_cons]) <;> omega
theorem mu_kid (h : Its its r) {x : DItem} (hx : x ∈ its) (hp : 0 ≤ x.parent) : mu its r x.item < mu its r x.parent := by
  have h0 := h.pos x hx
  unfold mu
  rw [if_neg (by omega)]
  split
  · have := filter_lt (l := its) (p := fun _ => true) (q := fun y => decide (r x.item < r y.item)) (fun _ _ _ => rfl) hx rfl (by simp)
    rw [filter_all] at this; omega
  · have hlt := h.rk x hx (by omega)
    have := filter_lt (l := its) (p := fun y => decide (r x.parent < r y.item)) (q := fun y => decide (r x.item < r y.item)) (fun y _ hy => by simp at hy ⊢; omega) hx (by simpa using hlt) (by simp)
    omega
theorem mu_pos (its : List DItem) (r : Int → Nat) (p : Int) : 0 < mu its r p := by unfold mu; split <;> omega

/-! ### What the maps hold on the way -/
abbrev KE := Int × Bool × List DItem
def kdM (e : KE) : Int × MV := (e.1, if e.2.1 then .im (TL 4 ditT e.2.2) else .rw 4 (e.2.2.map ditT))
def onM (k : Int) : Int × MV := (k, .im (TB true))
def findK (K : List KE) (k : Int) : Option KE := K.find? (fun e => e.1 == k)
theorem lookK {K : List KE} {k : Int} : lookE (K.map kdM) k = (findK K k).map fun e => (kdM e).2 := lookE_map (f := kdM) (key := Prod.fst) (fun _ => rfl)
theorem putKD {K : List KE} (e : KE) : putE (K.map kdM) e.1 (kdM e).2 = (putK Prod.fst K e).map kdM := putE_map (f := kdM) (key := Prod.fst) (fun _ => rfl)
theorem lookS {S : List Int} {k : Int} : lookT (S.map onM) k (TB false) = some (TB (decide (k ∈ S))) := by
  unfold lookT
  rw [lookE_map (f := onM) (key := id) (fun _ => rfl)]
  cases hf : S.find? (fun x => id x == k) with
  | none =>
    have : k ∉ S := fun hm => by have := List.find?_eq_none.1 hf k hm; simp at this
    simp [this]
  | some x =>
    obtain ⟨h1, h2⟩ := find_at (key := id) hf
    have : k ∈ S := h2 ▸ h1
    simp [this, onM]
theorem putS {S : List Int} {k : Int} : putE (S.map onM) k (.im (TB true)) = (putK id S k).map onM := putE_map (f := onM) (key := id) (fun _ => rfl)
/-- The list of a parent is put in order, and written no more. -/
def frzK (K : List KE) (p : Int) : List KE := K.map fun e => if e.1 = p then (e.1, true, srtP e.2.2) else e
def frzL (K : List KE) (l : List Int) : List KE := l.foldl frzK K
def addS (S : List Int) (l : List Int) : List Int := l.foldl (putK id) S
structure KOk (its : List DItem) (K : List KE) (V : List Int) : Prop where
  uq : UniqI Prod.fst K
  has : ∀ e ∈ K, e.1 ∉ V → e.2.1 = false ∧ e.2.2.Perm (its.filter fun x => x.parent == e.1)
  no : ∀ d, d ∉ V → (∀ e ∈ K, e.1 ≠ d) → (its.filter fun x => x.parent == d) = []
theorem frzK_keys (K : List KE) (p : Int) : (frzK K p).map Prod.fst = K.map Prod.fst := by
  unfold frzK
  rw [List.map_map]
  apply List.map_congr_left
  intro e _
  simp only [Function.comp]
  split <;> rfl
theorem KOk.frz {K : List KE} {V : List Int} (h : KOk its K V) (p : Int) : KOk its (frzK K p) (V ++ [p]) := by
  refine ⟨by have := h.uq; unfold UniqI at *; rw [frzK_keys]; exact this, fun e he hv => ?_, fun d hd hn => ?_⟩
  · simp only [List.mem_append, List.mem_singleton, not_or] at hv
    obtain ⟨e0, h0, rfl⟩ := List.mem_map.1 he
    by_cases hp : e0.1 = p
    · rw [if_pos hp] at hv; exact absurd hp hv.2
    · rw [if_neg hp] at hv ⊢
      exact h.has e0 h0 hv.1
  · simp only [List.mem_append, List.mem_singleton, not_or] at hd
    refine h.no d hd.1 (fun e he hh => ?_)
    have : (if e.1 = p then (e.1, true, srtP e.2.2) else e) ∈ frzK K p := List.mem_map.2 ⟨e, he, rfl⟩
    refine hn _ this ?_
    split <;> exact hh
theorem KOk.frzL {K : List KE} {V : List Int} (h : KOk its K V) : ∀ l, KOk its (Ch.frzL K l) (V ++ l)
  | [] => by simpa [Ch.frzL] using h
  | p :: l => by
    have := (h.frz p).frzL l
    rw [List.append_assoc] at this
    exact this
/-- At a parent that was not visited: what the map holds for it. -/
theorem KOk.at {K : List KE} {V : List Int} (h : KOk its K V) (h0 : Its its r) {p : Int} (hp : p ∉ V) :
    (findK K p = none ∧ kidsI its p = []) ∨ ∃ xs, findK K p = some (p, false, xs) ∧ srtP xs = kidsI its p ∧ xs.Perm (its.filter fun x => x.parent == p) := by
  cases hf : findK K p with
  | none =>
    refine .inl ⟨rfl, ?_⟩
    have := h.no p hp (find_not hf)
    unfold kidsI; rw [this]; rfl
  | some e =>
    obtain ⟨h1, h2⟩ := find_at hf
    obtain ⟨b1, b2⟩ := h.has e h1 (h2 ▸ hp)
    obtain ⟨k, b, xs⟩ := e
    simp only at h2 b1 b2
    subst h2 b1
    exact .inr ⟨xs, rfl, (srtP_eq b2.symm (filter_uniq h0.uq _)).symm, b2⟩
/-- What a walk from p is given: n rounds are enough, and what it comes to was not visited. -/
structure WIn (its : List DItem) (r : Int → Nat) (n : Nat) (p : Int) (K : List KE) (V : List Int) (no : Nat) : Prop where
  ok : Its its r
  p0 : 0 ≤ p
  mu : mu its r p ≤ n
  k : KOk its K V
  nd : (V ++ p :: (walkI its n p).map DItem.item).Nodup
  len : no + (walkI its n p).length ≤ 10000000000
  lenI : its.length ≤ 10000000000
/-- One item and what is below it. -/
def blkI (its : List DItem) (n : Nat) (x : DItem) : List DItem := x :: walkI its n x.item
def dneI (its : List DItem) (n : Nat) (p : Int) (i : Nat) : List DItem := ((kidsI its p).take i).flatMap (blkI its n)
theorem dneI_all (its : List DItem) (n : Nat) (p : Int) {i : Nat} (h : (kidsI its p).length ≤ i) : dneI its n p i = walkI its (n + 1) p := by
  unfold dneI
  rw [List.take_of_length_le h]
  rfl
theorem dneI_succ (its : List DItem) (n : Nat) (p : Int) {i : Nat} (h : i < (kidsI its p).length) : dneI its n p (i + 1) = dneI its n p i ++ ((kidsI its p).getD i default :: walkI its n ((kidsI its p).getD i default).item) := by
  unfold dneI
  rw [List.take_succ_eq_append_getElem h, List.flatMap_append]
  simp [blkI, List.getD, List.getElem?_eq_getElem h]
theorem dneI_pre (its : List DItem) (n : Nat) (p : Int) (i : Nat) : ∃ rest, walkI its (n + 1) p = dneI its n p i ++ rest := by
  refine ⟨((kidsI its p).drop i).flatMap (blkI its n), ?_⟩
  unfold dneI
  rw [← List.flatMap_append, List.take_append_drop]
  rfl
theorem getDI_mem {l : List DItem} {i : Nat} (h : i < l.length) : l.getD i default ∈ l := by
  rw [show l.getD i default = l[i] by simp [List.getD, List.getElem?_eq_getElem h]]
  exact List.getElem_mem h
theorem WIn.kid {n : Nat} {p : Int} {K : List KE} {V : List Int} {no : Nat} (h : WIn its r (n + 1) p K V no) {i : Nat} (hi : i < (kidsI its p).length) :
    WIn its r n ((kidsI its p).getD i default).item (frzL K (p :: (dneI its n p i).map DItem.item)) (V ++ p :: (dneI its n p i).map DItem.item) (no + (dneI its n p i).length + 1) := by
  obtain ⟨q1, q2⟩ := kidsI_mem.1 (getDI_mem hi)
  obtain ⟨rest, hr⟩ := dneI_pre its n p (i + 1)
  have hd := dneI_succ its n p hi
  have hmu := mu_kid h.ok q1 (by rw [q2]; exact h.p0)
  rw [q2] at hmu
  have := h.mu
  have hn := h.nd
  have hl := h.len
  rw [hr, hd] at hn hl
  refine ⟨h.ok, Int.le_of_lt (h.ok.pos _ q1), by omega, h.k.frzL _, ?_, ?_, h.lenI⟩
  · refine hn.sublist ?_
    simp only [List.map_append, List.map_cons, List.append_assoc, List.cons_append]
    refine List.Sublist.append_left (List.Sublist.cons_cons _ ?_) _
    refine List.Sublist.append_left ?_ _
    refine List.Sublist.cons_cons _ ?_
    exact List.sublist_append_left _ _
  · simp only [List.length_append, List.length_cons] at hl ⊢; omega
theorem WIn.notV {n : Nat} {p : Int} {K : List KE} {V : List Int} {no : Nat} (h : WIn its r n p K V no) : p ∉ V := fun hp => by
  have := List.nodup_append.1 h.nd
  exact this.2.2 p hp p List.mem_cons_self rfl
theorem frzK_found {K : List KE} (hu : UniqI Prod.fst K) {p : Int} {xs : List DItem} (hf : findK K p = some (p, false, xs)) : putK Prod.fst K (p, true, srtP xs) = frzK K p := by
  have hm := (find_at hf).1
  clear hf
  induction K with
  | nil => cases hm
  | cons e K ih =>
    have hu' := hu
    simp only [UniqI, List.map_cons, List.nodup_cons] at hu
    unfold frzK
    rw [List.map_cons]
    simp only [putK]
    by_cases he : p = e.1
    · rw [if_pos he]
      have h1 : e = (p, false, xs) := hu'.uniq e List.mem_cons_self _ hm he.symm
      subst h1
      rw [if_pos rfl]
      congr 1
      symm
      refine (List.map_congr_left (fun y hy => ?_)).trans (List.map_id _)
      rw [if_neg (fun h => hu.1 (List.mem_map.2 ⟨y, hy, h⟩))]; rfl
    · rw [if_neg he, if_neg (fun h => he h.symm)]
      congr 1
      exact ih hu.2 ((List.mem_cons.1 hm).resolve_left (fun h => he (by rw [← h])))
theorem frzK_none {K : List KE} {p : Int} (hf : findK K p = none) : frzK K p = K := by
  have := find_not hf
  unfold frzK
  refine (List.map_congr_left (fun y hy => ?_)).trans (List.map_id _)
  rw [if_neg (this y hy)]; rfl
theorem putK_twice {K : List KE} {p : Int} {b b' : Bool} {xs ys : List DItem} : putK Prod.fst (putK Prod.fst K (p, b, xs)) (p, b', ys) = putK Prod.fst K (p, b', ys) := by
  induction K with
  | nil => simp [putK]
  | cons e K ih =>
    simp only [putK]
    by_cases he : p = e.1
    · rw [if_pos he, if_pos he]; simp [putK]
    · rw [if_neg he, if_neg he]; simp only [putK]; rw [if_neg he, ih]
theorem frz_put {K : List KE} (hu : UniqI Prod.fst K) {p : Int} {xs : List DItem} (hf : findK K p = some (p, false, xs)) :
    lookE ((putK Prod.fst K (p, false, srtP xs)).map kdM) p = some (.rw 4 ((srtP xs).map ditT)) ∧ putE ((putK Prod.fst K (p, false, srtP xs)).map kdM) p (.im (TL 4 ditT (srtP xs))) = (frzK K p).map kdM := by
  constructor
  · rw [lookK]
    have : findK (putK Prod.fst K (p, false, srtP xs)) p = some (p, false, srtP xs) := find_uniq (x := (p, false, srtP xs)) hu.putK putK_self
    rw [this]; rfl
  · have := putKD (K := putK Prod.fst K (p, false, srtP xs)) (p, true, srtP xs)
    rw [putK_twice, frzK_found hu hf] at this
    exact this
@[simp] theorem srtP_len (l : List DItem) : (srtP l).length = l.length := (srtO_perm ltP l).length_eq
theorem WIn.at {n : Nat} {p : Int} {K : List KE} {V : List Int} {no : Nat} (h : WIn its r n p K V no) :
    (findK K p = none ∧ kidsI its p = []) ∨ ∃ xs, findK K p = some (p, false, xs) ∧ srtP xs = kidsI its p ∧ xs.length ≤ 10000000000 ∧ UniqI DItem.item xs := by
  rcases h.k.at h.ok h.notV with h | ⟨xs, h1, h2, h3⟩
  · exact .inl h
  · refine .inr ⟨xs, h1, h2, ?_, ?_⟩
    · rw [h3.length_eq]; exact Nat.le_trans (List.length_filter_le _ _) h.lenI
    · have := filter_uniq h.ok.uq (fun x => x.parent == p)
      unfold UniqI at *
      exact (h3.map _).nodup_iff.2 this
abbrev noD : List DItem := []
open Go.Proofs Go.RowKit Go.Shelf Go.Sort in
theorem fc_sortNil : FC Go.Proofs.Tryz.prog 146 [VN, .fn 147 []] emp (.tup []) emp := by
  intro F m w xs hS hl hv
  match xs, hl with
  | [x0, x1], _ =>
  have v0 := hv 0 _ _ rfl rfl
  have v1 := hv 1 _ _ rfl rfl
  cases v1 with
  | fn _ _ us hlu _ =>
  obtain rfl : us = [] := List.length_eq_zero_iff.1 hlu
  cases v0 with
  | t _ _ h =>
  cases h with
  | sc _ h =>
  have key := AnyF.slices_SortFunc_none Go.Proofs.Tryz.sortP none 0 (.func (.func 147) #[] #[]) w
  change Calls Go.Proofs.Tryz.prog 146 _ _ _ at key
  refine key.mono ?_
  rintro e' w' ⟨rfl, rfl⟩
  exact ⟨_, m, rfl, hS, FrameExt.refl F _ m _, .tup [] [] rfl (fun i v u hv => by simp at hv)⟩
end Go.Ch
end
section
set_option linter.unusedVariables false
set_option linter.unusedSimpArgs false
set_option maxRecDepth 100000
set_option maxHeartbeats 4000000
open Go Go.Proofs Go.Ab
namespace Go.Ch
theorem fc_walk1 (its : List DItem) (r : Int → Nat) (n : Nat) (ih : ∀ (p : Int) (K : List KE) (S : List Int) (o : List DItem) (V : List Int), WIn its r n p K V o.length → FC Tryz.prog 145 [VI p, .ptr 0 0, .ptr 1 0, .ptr 2 0, .ptr 3 0] (app emp [(0, .box [.hdl 4]), (1, .box [.row 5 o.length]), (2, .box [.hdl 6]), (3, .box [.fn 145 [.ptr 0 0, .ptr 1 0, .ptr 2 0, .ptr 3 0]]), (4, .mp (List.map kdM K) none), (5, OR 4 ditT o), (6, .mp (List.map onM S) none)]) (.tup []) (app emp [(0, .box [.hdl 4]), (1, .box [.row 5 ((o ++ walkI its n p).length)]), (2, .box [.hdl 6]), (3, .box [.fn 145 [.ptr 0 0, .ptr 1 0, .ptr 2 0, .ptr 3 0]]), (4, .mp (List.map kdM (frzL K (p :: (walkI its n p).map DItem.item))) none), (5, OR 4 ditT (o ++ walkI its n p)), (6, .mp (List.map onM (addS S ((walkI its n p).map DItem.item))) none)])) (p : Int) (K : List KE) (S : List Int) (o : List DItem) (V : List Int) (hW : WIn its r (n + 1) p K V o.length) : FC Tryz.prog 145 [VI p, .ptr 0 0, .ptr 1 0, .ptr 2 0, .ptr 3 0] (app emp [(0, .box [.hdl 4]), (1, .box [.row 5 o.length]), (2, .box [.hdl 6]), (3, .box [.fn 145 [.ptr 0 0, .ptr 1 0, .ptr 2 0, .ptr 3 0]]), (4, .mp (List.map kdM K) none), (5, OR 4 ditT o), (6, .mp (List.map onM S) none)]) (.tup []) (app emp [(0, .box [.hdl 4]), (1, .box [.row 5 ((o ++ walkI its (n + 1) p).length)]), (2, .box [.hdl 6]), (3, .box [.fn 145 [.ptr 0 0, .ptr 1 0, .ptr 2 0, .ptr 3 0]]), (4, .mp (List.map kdM (frzL K (p :: (walkI its (n + 1) p).map DItem.item))) none), (5, OR 4 ditT (o ++ walkI its (n + 1) p)), (6, .mp (List.map onM (addS S ((walkI its (n + 1) p).map DItem.item))) none)]) := by
 refine .go Tryz.f145 ?_
 have hk := hW.at
 have hu := kidsI_uniq hW.ok p
 rcases hk with ⟨hf, hnil⟩ | ⟨xs, hf, hsrt, hlx, hux⟩
 ·
  
  refine .loop (α := Nat × List KE × (List DItem) × List Int) [.r [(2, X (Xm0 (List.map kdM K) p) (by rw [lookK, hf]; rfl)), (3, X (Xc0 fc_sortNil X0))], .r [(2, X (Xm0 (List.map kdM K) p) (by rw [lookK, hf]; rfl))], .le (.nL 14 4)] 79 (fun (i, K2, o2, S2) => ([(2, .ptr 1 0), (3, .ptr 2 0), (4, .ptr 3 0), (14, VL 4 ditT noD), (15, VI 0), (16, VI (i : Int))], [(0, .box [.hdl 4]), (1, .box [.row 5 o2.length]), (2, .box [.hdl 6]), (3, .box [.fn 145 [.ptr 0 0, .ptr 1 0, .ptr 2 0, .ptr 3 0]]), (4, .mp (List.map kdM K2) none), (5, OR 4 ditT o2), (6, .mp (List.map onM S2) none)])) (fun (i, K2, o2, S2) => i ≤ (noD : List DItem).length ∧ o2 = o ++ dneI its n p i ∧ K2 = (frzL K (p :: (dneI its n p i).map DItem.item)) ∧ S2 = addS S ((dneI its n p i).map DItem.item)) (fun (i, K2, o2, S2) => (noD : List DItem).length - i) (0, K, o, S) ?_ ?_
  ·
   refine ⟨Nat.zero_le _, by simp [dneI], ?_, by simp [dneI, addS]⟩
   simp only [dneI, List.take_zero, List.flatMap_nil, List.map_nil, frzL, List.foldl_cons, List.foldl_nil]
   all_goals first | rfl | exact (frzK_none hf).symm
  rintro ⟨i, K2, o2, S2⟩ I2 ih2
  try dsimp only at I2
  refine .bp [.r []] (decide ((i : Int) < 0)) (fun h2 => ?_) (fun h2 => ?_)
  ·
   have hL : (noD : List DItem) = kidsI its p := by first | exact hsrt | exact hnil.symm
   have hd := dneI_succ its n p (i := i) (by rw [← hL]; first | omega | (exfalso; omega))
   rw [← hL] at hd
   have hkid : WIn its r n ((noD : List DItem).getD i default).item K2 (V ++ p :: (dneI its n p i).map DItem.item) (o2 ++ [(noD : List DItem).getD i default]).length := by
    have hq := hW.kid (i := i) (by rw [← hL]; first | omega | (exfalso; omega))
    rw [← hL, ← I2.2.2.1] at hq
    have hlen : (o2 ++ [(noD : List DItem).getD i default]).length = o.length + (dneI its n p i).length + 1 := by rw [I2.2.1]; simp; omega
    rw [hlen]; exact hq
   have hol : o2.length ≤ 1099511627775 := by have := hkid.len; rw [List.length_append] at this; omega
   have hli : (noD : List DItem).length ≤ 10000000000 := by first | (rw [srtP_len]; exact hlx) | simp
   refine .back [.r [(0, X (Xi ditT noD (i : Int)))], .r [(6, X (rowC ditT [((noD.getD i default))] (Xap 4 ditT 5 o2 [((noD.getD i default))]))), (8, X (Xmu onM S2 (putK id S2 ((noD : List DItem).getD i default).item) (((noD.getD i default)).item) 6 (.im (TB true))) putS)], .r [(3, X (Xc3 215 [(0, 0), (1, 1), (2, 2), (3, 3), (4, 4), (5, 5), (6, 6)] (ih (((noD.getD i default)).item) K2 (putK id S2 ((noD : List DItem).getD i default).item) (o2 ++ [((noD.getD i default))]) _ (by first | assumption | exact hkid)) X0))], .r [(0, X (Xn ((i : Int) + 1)))]] [(0, 0), (1, 1), (2, 2), (3, 3), (4, 4), (5, 5), (6, 6)] (ih2 ((i + 1), (frzL K2 ((((noD.getD i default)).item) :: (walkI its n (((noD.getD i default)).item)).map DItem.item)), ((o2 ++ [((noD.getD i default))]) ++ walkI its n (((noD.getD i default)).item)), (addS (putK id S2 ((noD : List DItem).getD i default).item) ((walkI its n (((noD.getD i default)).item)).map DItem.item))) ?_ ?_)
   ·
    refine ⟨by omega, ?_, ?_, ?_⟩
    · rw [hd, I2.2.1]; simp
    · rw [hd, I2.2.2.1]; simp [frzL]
    · rw [hd, I2.2.2.2]; simp [addS]
   ·
    ((try dsimp only); omega)
  ·
   have e1 : ((o ++ walkI its (n + 1) p).length : Nat) = o2.length := by
    have ha := dneI_all its n p (i := i) (by first | (rw [← hsrt]; omega) | (rw [hnil]; exact Nat.zero_le _))
    rw [← ha]
    first | rw [← I2.2.1] | rw [← I2.2.2.1] | rw [← I2.2.2.2]
   have e2 : ((frzL K (p :: (walkI its (n + 1) p).map DItem.item)) : List KE) = K2 := by
    have ha := dneI_all its n p (i := i) (by first | (rw [← hsrt]; omega) | (rw [hnil]; exact Nat.zero_le _))
    rw [← ha]
    first | rw [← I2.2.1] | rw [← I2.2.2.1] | rw [← I2.2.2.2]
   have e3 : ((o ++ walkI its (n + 1) p) : List DItem) = o2 := by
    have ha := dneI_all its n p (i := i) (by first | (rw [← hsrt]; omega) | (rw [hnil]; exact Nat.zero_le _))
    rw [← ha]
    first | rw [← I2.2.1] | rw [← I2.2.2.1] | rw [← I2.2.2.2]
   have e4 : ((addS S ((walkI its (n + 1) p).map DItem.item)) : List Int) = S2 := by
    have ha := dneI_all its n p (i := i) (by first | (rw [← hsrt]; omega) | (rw [hnil]; exact Nat.zero_le _))
    rw [← ha]
    first | rw [← I2.2.1] | rw [← I2.2.2.1] | rw [← I2.2.2.2]
   exact .finE [] [(0, 0), (1, 1), (2, 2), (3, 3), (4, 4), (5, 5), (6, 6)] (fun ((z0, z1, z2, z3) : Nat × (List KE) × (List DItem) × (List Int)) => (.tup [], [(0, .box [.hdl 4]), (1, .box [.row 5 z0]), (2, .box [.hdl 6]), (3, .box [.fn 145 [.ptr 0 0, .ptr 1 0, .ptr 2 0, .ptr 3 0]]), (4, .mp (List.map kdM z1) none), (5, OR 4 ditT z2), (6, .mp (List.map onM z3) none)])) _ _ (pr e1 (pr e2 (pr e3 e4)))
 ·
  
  refine .loop (α := Nat × List KE × (List DItem) × List Int) [.r [(2, X (Xm2r (List.map kdM K) p 4 23 4 ditT xs) (by rw [lookK, hf]; rfl)), (3, X (Xc3 31 [(0, 23)] (fc_sortP xs (by omega) (by assumption)) X0))], .le (.mput 4 (List.map kdM (putK Prod.fst K (p, false, srtP xs))) [(xs.length : Nat) = (List.map ditT (srtP xs)).length, (lookE (List.map kdM K) p).isSome = true, putE (List.map kdM K) p (.rw 4 (List.map ditT (srtP xs))) = List.map kdM (putK Prod.fst K (p, false, srtP xs))] ⟨lm, (by rw [lookK, hf]; rfl), (putKD (p, false, srtP xs)), trivial⟩), .r [(2, X (Xm3 kdM (putK Prod.fst K (p, false, srtP xs)) (frzK K p) p 4 4 ditT (srtP xs)) (frz_put hW.k.uq hf)), (3, X (Xl ditT (srtP xs)))]] 79 (fun (i, K2, o2, S2) => ([(2, .ptr 1 0), (3, .ptr 2 0), (4, .ptr 3 0), (14, VL 4 ditT (srtP xs)), (15, VI ((srtP xs).length : Int)), (16, VI (i : Int))], [(0, .box [.hdl 4]), (1, .box [.row 5 o2.length]), (2, .box [.hdl 6]), (3, .box [.fn 145 [.ptr 0 0, .ptr 1 0, .ptr 2 0, .ptr 3 0]]), (4, .mp (List.map kdM K2) none), (5, OR 4 ditT o2), (6, .mp (List.map onM S2) none)])) (fun (i, K2, o2, S2) => i ≤ ((srtP xs) : List DItem).length ∧ o2 = o ++ dneI its n p i ∧ K2 = (frzL K (p :: (dneI its n p i).map DItem.item)) ∧ S2 = addS S ((dneI its n p i).map DItem.item)) (fun (i, K2, o2, S2) => ((srtP xs) : List DItem).length - i) (0, (frzK K p), o, S) ?_ ?_
  ·
   refine ⟨Nat.zero_le _, by simp [dneI], ?_, by simp [dneI, addS]⟩
   simp only [dneI, List.take_zero, List.flatMap_nil, List.map_nil, frzL, List.foldl_cons, List.foldl_nil]
   all_goals first | rfl | exact (frzK_none hf).symm
  rintro ⟨i, K2, o2, S2⟩ I2 ih2
  try dsimp only at I2
  refine .bp [.r []] (decide ((i : Int) < ((srtP xs).length : Int))) (fun h2 => ?_) (fun h2 => ?_)
  ·
   have hL : ((srtP xs) : List DItem) = kidsI its p := by first | exact hsrt | exact hnil.symm
   have hd := dneI_succ its n p (i := i) (by rw [← hL]; first | omega | (exfalso; omega))
   rw [← hL] at hd
   have hkid : WIn its r n (((srtP xs) : List DItem).getD i default).item K2 (V ++ p :: (dneI its n p i).map DItem.item) (o2 ++ [((srtP xs) : List DItem).getD i default]).length := by
    have hq := hW.kid (i := i) (by rw [← hL]; first | omega | (exfalso; omega))
    rw [← hL, ← I2.2.2.1] at hq
    have hlen : (o2 ++ [((srtP xs) : List DItem).getD i default]).length = o.length + (dneI its n p i).length + 1 := by rw [I2.2.1]; simp; omega
    rw [hlen]; exact hq
   have hol : o2.length ≤ 1099511627775 := by have := hkid.len; rw [List.length_append] at this; omega
   have hli : ((srtP xs) : List DItem).length ≤ 10000000000 := by first | (rw [srtP_len]; exact hlx) | simp
   refine .back [.r [(0, X (Xi ditT (srtP xs) (i : Int)))], .r [(6, X (rowC ditT [(((srtP xs).getD i default))] (Xap 4 ditT 5 o2 [(((srtP xs).getD i default))]))), (8, X (Xmu onM S2 (putK id S2 (((srtP xs) : List DItem).getD i default).item) ((((srtP xs).getD i default)).item) 6 (.im (TB true))) putS)], .r [(3, X (Xc3 215 [(0, 0), (1, 1), (2, 2), (3, 3), (4, 4), (5, 5), (6, 6)] (ih ((((srtP xs).getD i default)).item) K2 (putK id S2 (((srtP xs) : List DItem).getD i default).item) (o2 ++ [(((srtP xs).getD i default))]) _ (by first | assumption | exact hkid)) X0))], .r [(0, X (Xn ((i : Int) + 1)))]] [(0, 0), (1, 1), (2, 2), (3, 3), (4, 4), (5, 5), (6, 6)] (ih2 ((i + 1), (frzL K2 (((((srtP xs).getD i default)).item) :: (walkI its n ((((srtP xs).getD i default)).item)).map DItem.item)), ((o2 ++ [(((srtP xs).getD i default))]) ++ walkI its n ((((srtP xs).getD i default)).item)), (addS (putK id S2 (((srtP xs) : List DItem).getD i default).item) ((walkI its n ((((srtP xs).getD i default)).item)).map DItem.item))) ?_ ?_)
   ·
    refine ⟨by omega, ?_, ?_, ?_⟩
    · rw [hd, I2.2.1]; simp
    · rw [hd, I2.2.2.1]; simp [frzL]
    · rw [hd, I2.2.2.2]; simp [addS]
   ·
    ((try dsimp only); omega)
  ·
   have e5 : ((o ++ walkI its (n + 1) p).length : Nat) = o2.length := by
    have ha := dneI_all its n p (i := i) (by first | (rw [← hsrt]; omega) | (rw [hnil]; exact Nat.zero_le _))
    rw [← ha]
    first | rw [← I2.2.1] | rw [← I2.2.2.1] | rw [← I2.2.2.2]
   have e6 : ((frzL K (p :: (walkI its (n + 1) p).map DItem.item)) : List KE) = K2 := by
    have ha := dneI_all its n p (i := i) (by first | (rw [← hsrt]; omega) | (rw [hnil]; exact Nat.zero_le _))
    rw [← ha]
    first | rw [← I2.2.1] | rw [← I2.2.2.1] | rw [← I2.2.2.2]
   have e7 : ((o ++ walkI its (n + 1) p) : List DItem) = o2 := by
    have ha := dneI_all its n p (i := i) (by first | (rw [← hsrt]; omega) | (rw [hnil]; exact Nat.zero_le _))
    rw [← ha]
    first | rw [← I2.2.1] | rw [← I2.2.2.1] | rw [← I2.2.2.2]
   have e8 : ((addS S ((walkI its (n + 1) p).map DItem.item)) : List Int) = S2 := by
    have ha := dneI_all its n p (i := i) (by first | (rw [← hsrt]; omega) | (rw [hnil]; exact Nat.zero_le _))
    rw [← ha]
    first | rw [← I2.2.1] | rw [← I2.2.2.1] | rw [← I2.2.2.2]
   exact .finE [] [(0, 0), (1, 1), (2, 2), (3, 3), (4, 4), (5, 5), (6, 6)] (fun ((z0, z1, z2, z3) : Nat × (List KE) × (List DItem) × (List Int)) => (.tup [], [(0, .box [.hdl 4]), (1, .box [.row 5 z0]), (2, .box [.hdl 6]), (3, .box [.fn 145 [.ptr 0 0, .ptr 1 0, .ptr 2 0, .ptr 3 0]]), (4, .mp (List.map kdM z1) none), (5, OR 4 ditT z2), (6, .mp (List.map onM z3) none)])) _ _ (pr e5 (pr e6 (pr e7 e8)))

theorem fc_walk (its : List DItem) (r : Int → Nat) : ∀ (n : Nat), ∀ (p : Int) (K : List KE) (S : List Int) (o : List DItem) (V : List Int), WIn its r n p K V o.length → FC Tryz.prog 145 [VI p, .ptr 0 0, .ptr 1 0, .ptr 2 0, .ptr 3 0] (app emp [(0, .box [.hdl 4]), (1, .box [.row 5 o.length]), (2, .box [.hdl 6]), (3, .box [.fn 145 [.ptr 0 0, .ptr 1 0, .ptr 2 0, .ptr 3 0]]), (4, .mp (List.map kdM K) none), (5, OR 4 ditT o), (6, .mp (List.map onM S) none)]) (.tup []) (app emp [(0, .box [.hdl 4]), (1, .box [.row 5 ((o ++ walkI its n p).length)]), (2, .box [.hdl 6]), (3, .box [.fn 145 [.ptr 0 0, .ptr 1 0, .ptr 2 0, .ptr 3 0]]), (4, .mp (List.map kdM (frzL K (p :: (walkI its n p).map DItem.item))) none), (5, OR 4 ditT (o ++ walkI its n p)), (6, .mp (List.map onM (addS S ((walkI its n p).map DItem.item))) none)])
  | 0, p, K, S, o, V, hW => absurd hW.mu (by have := mu_pos its r p; omega)
  | n + 1, p, K, S, o, V, hW => fc_walk1 its r n (fc_walk its r n) p K S o V hW
end Go.Ch
end
section
set_option linter.unusedVariables false
set_option linter.unusedSimpArgs false
set_option maxRecDepth 100000
namespace Go.Ch
open Go Go.Ab

def fullI (ats : List (Int × List Attr)) (x : DItem) : DItem := ⟨x.item, x.parent, x.place, findA ats x.item⟩
/-- The map of the items on the way: those that were come to have their attributes. -/
def itM2 (ats : List (Int × List Attr)) (e : DItem × Bool) : Int × MV := (e.1.item, .bx [TI e.1.item, TI e.1.parent, TS e.1.place, if e.2 then TL 2 attrT (findA ats e.1.item) else TL 2 attrT e.1.attrs])
def mkM (its : List DItem) (q : List Nat) : List (DItem × Bool) := its.zipIdx.map fun p => (p.1, decide (p.2 ∈ q))
@[simp] theorem mkM_len (its : List DItem) (q : List Nat) : (mkM its q).length = its.length := by simp [mkM]
theorem mkM_get {its : List DItem} {q : List Nat} {i : Nat} (h : i < its.length) : (mkM its q)[i]? = some (its.getD i default, decide (i ∈ q)) := by
  unfold mkM
  rw [List.getElem?_map, List.getElem?_zipIdx, List.getElem?_eq_getElem h]
  simp [List.getD, List.getElem?_eq_getElem h]
theorem mkM_nil (its : List DItem) (ats : List (Int × List Attr)) : its.map itM = (mkM its []).map (itM2 ats) := by
  apply List.ext_getElem? 
  intro i
  rw [List.getElem?_map, List.getElem?_map]
  by_cases h : i < its.length
  · rw [mkM_get h, List.getElem?_eq_getElem h]
    simp [itM, itM2, List.getD, List.getElem?_eq_getElem h]
  · rw [List.getElem?_eq_none (by omega), List.getElem?_eq_none (by rw [mkM_len]; omega)]; rfl
theorem mkM_entry {its : List DItem} {ats : List (Int × List Attr)} {q : List Nat} {i : Nat} (h : i < (mkM its []).length) (hq : i ∉ q) :
    (mkM its q).length = (mkM its []).length ∧ (q ++ [i]).getLast? = some i ∧ ((mkM its q).map (itM2 ats))[i]? = some ((its.getD i default).item, .bx [TI (its.getD i default).item, TI (its.getD i default).parent, TS (its.getD i default).place, TL 2 attrT (its.getD i default).attrs]) := by
  rw [mkM_len] at h
  refine ⟨by simp, by simp, ?_⟩
  rw [List.getElem?_map, mkM_get h]
  simp [itM2, hq]
theorem mkM_look {its : List DItem} {ats : List (Int × List Attr)} {q : List Nat} {i : Nat} (hu : UniqI DItem.item its) (h : i < its.length) :
    lookE ((mkM its q).map (itM2 ats)) (its.getD i default).item = some (itM2 ats (its.getD i default, decide (i ∈ q))).2 := by
  rw [lookE_map (f := itM2 ats) (key := fun e => e.1.item) (fun _ => rfl)]
  have hu2 : UniqI (fun e : DItem × Bool => e.1.item) (mkM its q) := by
    have : (mkM its q).map (fun e => e.1.item) = its.map DItem.item := by
      apply List.ext_getElem?
      intro j
      rw [List.getElem?_map, List.getElem?_map]
      by_cases hj : j < its.length
      · rw [mkM_get hj, List.getElem?_eq_getElem hj]; simp [List.getD, List.getElem?_eq_getElem hj]
      · rw [List.getElem?_eq_none (by rw [mkM_len]; omega), List.getElem?_eq_none (by omega)]; rfl
    unfold UniqI at *
    rw [this]; exact hu
  have := find_uniq (x := (its.getD i default, decide (i ∈ q))) hu2 (List.mem_of_getElem? (mkM_get h))
  rw [this]; rfl
theorem mkM_put {its : List DItem} {ats : List (Int × List Attr)} {q : List Nat} {i : Nat} (hu : UniqI DItem.item its) (h : i < its.length) :
    putE ((mkM its q).map (itM2 ats)) (its.getD i default).item (.bx [TI (its.getD i default).item, TI (its.getD i default).parent, TS (its.getD i default).place, TL 2 attrT (findA ats (its.getD i default).item)]) = (mkM its (q ++ [i])).map (itM2 ats) := by
  have hp : ∀ (l : List (Int × MV)) (k : Int) (v : MV) (i : Nat), (l.map (·.1)).Nodup → (l[i]?).map (·.1) = some k → putE l k v = l.set i (k, v) := by
    intro l
    induction l with
    | nil => intro k v i _ h; simp at h
    | cons e l ih =>
      intro k v i hn h
      simp only [List.map_cons, List.nodup_cons] at hn
      cases i with
      | zero => simp at h; simp [putE, h]
      | succ i =>
        simp at h
        have hne : ¬ e.1 = k := fun he => by
          obtain ⟨a, ha⟩ := h
          exact hn.1 (List.mem_map.2 ⟨(k, a), List.mem_of_getElem? ha, he.symm⟩)
        have := ih k v i hn.2 (by obtain ⟨a, ha⟩ := h; rw [ha]; rfl)
        simp only [putE, List.set_cons_succ]
        split
        · rename_i he; exact absurd (by first | exact he | exact he.symm) hne
        · rw [this]
  rw [hp _ _ _ i ?_ ?_]
  · apply List.ext_getElem?
    intro j
    rw [List.getElem?_set]
    split
    · rename_i hj; subst hj
      rw [if_pos (by simp; exact h), List.getElem?_map, mkM_get h]
      simp [itM2]
    · rename_i hj
      rw [List.getElem?_map, List.getElem?_map]
      by_cases hj' : j < its.length
      · rw [mkM_get hj', mkM_get hj']
        simp [Ne.symm hj]
      · rw [List.getElem?_eq_none (by rw [mkM_len]; omega), List.getElem?_eq_none (by rw [mkM_len]; omega)]
  · have : ((mkM its q).map (itM2 ats)).map (·.1) = its.map DItem.item := by
      apply List.ext_getElem?
      intro j
      rw [List.getElem?_map, List.getElem?_map, List.getElem?_map]
      by_cases hj : j < its.length
      · rw [mkM_get hj, List.getElem?_eq_getElem hj]; simp [itM2, List.getD, List.getElem?_eq_getElem hj]
      · rw [List.getElem?_eq_none (by rw [mkM_len]; omega), List.getElem?_eq_none (by omega)]; rfl
    rw [this]; exact hu
  · rw [List.getElem?_map, mkM_get h]; rfl

/-! ### The lists of the parents -/
def addKid (K : List KE) (x : DItem) : List KE := putK Prod.fst K (x.parent, false, ((findK K x.parent).map fun e => e.2.2).getD [] ++ [x])
def kidsL (l : List DItem) : List KE := l.foldl addKid []
structure KInv (l : List DItem) (K : List KE) : Prop where
  uq : UniqI Prod.fst K
  has : ∀ e ∈ K, e.2.1 = false ∧ e.2.2 = l.filter fun x => x.parent == e.1
  no : ∀ d, (∀ e ∈ K, e.1 ≠ d) → (l.filter fun x => x.parent == d) = []
theorem KInv.add {l : List DItem} {K : List KE} (h : KInv l K) (x : DItem) : KInv (l ++ [x]) (addKid K x) := by
  have hf : ((findK K x.parent).map fun e => e.2.2).getD [] = l.filter fun y => y.parent == x.parent := by
    cases hk : findK K x.parent with
    | none => exact (h.no _ (find_not hk)).symm
    | some e =>
      obtain ⟨h1, h2⟩ := find_at hk
      have := (h.has e h1).2
      rw [h2] at this
      exact this
  unfold addKid
  rw [hf]
  refine ⟨h.uq.putK, fun e he => ?_, fun d hd => ?_⟩
  · by_cases hx : e = (x.parent, false, (l.filter fun y => y.parent == x.parent) ++ [x])
    · subst hx; exact ⟨rfl, by simp⟩
    · obtain ⟨h1, h2⟩ := putK_other h.uq he hx
      obtain ⟨h3, h4⟩ := h.has e h1
      refine ⟨h3, ?_⟩
      rw [List.filter_append, ← h4]
      have : ([x].filter fun y => y.parent == e.1) = [] := by
        simp only [List.filter_cons, List.filter_nil]
        rw [if_neg (by simpa using fun hh => h2 hh.symm)]
      rw [this, List.append_nil]
  · rw [List.filter_append, h.no d (fun e he hh => ?_)]
    · have : x.parent ≠ d := hd _ putK_self
      simp [this]
    · by_cases hx : e.1 = x.parent
      · exact hd _ putK_self (by rw [← hh, hx])
      · exact hd e (putK_old he hx) hh
theorem kidsL_inv (l : List DItem) : KInv l (kidsL l) := by
  have : ∀ (l l0 : List DItem) (K : List KE), KInv l0 K → KInv (l0 ++ l) (l.foldl addKid K) := by
    intro l
    induction l with
    | nil => intro l0 K h; simpa using h
    | cons x l ih =>
      intro l0 K h
      have := ih (l0 ++ [x]) _ (h.add x)
      simpa using this
  have := this l [] [] ⟨List.nodup_nil, (fun e he => by cases he), fun d _ => rfl⟩
  simpa [kidsL] using this
theorem KInv.ok {its l : List DItem} {K : List KE} (h : KInv l K) (hp : l.Perm its) : KOk its K [] := by
  refine ⟨h.uq, fun e he _ => ⟨(h.has e he).1, by rw [(h.has e he).2]; exact hp.filter _⟩, fun d _ hd => ?_⟩
  have h1 := h.no d hd
  have h2 := hp.filter (fun x => x.parent == d)
  rw [h1] at h2
  exact h2.symm.eq_nil
theorem nodup_len : ∀ (n : Nat) (q : List Nat), q.Nodup → (∀ i ∈ q, i < n) → q.length ≤ n
  | 0, q, _, h => by
    cases q with
    | nil => simp
    | cons a q => have := h a List.mem_cons_self; omega
  | n + 1, q, hq, h => by
    have h1 := nodup_len n (q.filter fun i => decide (i ≠ n)) (hq.sublist List.filter_sublist) (fun i hi => by
      simp only [List.mem_filter, decide_eq_true_eq] at hi
      have := h i hi.1; omega)
    have h2 : q.length ≤ (q.filter fun i => decide (i ≠ n)).length + 1 := by
      clear h1 h
      induction q with
      | nil => simp
      | cons a q ih =>
        simp only [List.nodup_cons] at hq
        simp only [List.filter_cons]
        by_cases ha : a = n
        · subst ha
          have : (q.filter fun i => decide (i ≠ a)) = q := List.filter_eq_self.2 (fun i hi => by simp; intro e; subst e; exact hq.1 hi)
          rw [if_neg (by simp), this, List.length_cons]
          omega
        · have := ih hq.2
          rw [if_pos (by simpa using ha)]
          simp only [List.length_cons]; omega
    omega
theorem seen_perm {its : List DItem} {q : List Nat} (hq : q.Nodup) (h1 : ∀ i ∈ q, i < its.length) (h2 : ∀ i, i < its.length → i ∈ q) : q.Perm (List.range its.length) := by
  rw [List.perm_ext_iff_of_nodup hq List.nodup_range]
  intro i
  rw [List.mem_range]
  exact ⟨h1 i, h2 i⟩
theorem allI_perm {its : List DItem} {q : List Nat} (f : DItem → DItem) (hq : q.Nodup) (h1 : ∀ i ∈ q, i < its.length) (h2 : ∀ i, i < its.length → i ∈ q) :
    (q.map fun i => f (its.getD i default)).Perm (its.map f) := by
  have h := (seen_perm hq h1 h2).map fun i => f (its.getD i default)
  have e : (List.range its.length).map (fun i => f (its.getD i default)) = its.map f := by
    apply List.ext_getElem (by simp)
    intro i hi hj
    simp at hi
    simp [List.getD, List.getElem?_eq_getElem hi]
  rwa [e] at h

/-! ### The items -/
def itsF (l : List DOp) : List DItem := (playP l).1.map (fullI (playP l).2)
def walkF (l : List DOp) : List DItem := walkI (itsF l) ((itsF l).length + 1) 0
def rawI (l : List DOp) : List DItem := walkF l ++ (srtN (itsF l)).filter fun x => decide (x.item ∉ (walkF l).map DItem.item)
theorem playP_ok' {l : List DOp} (hl : ∀ o ∈ l, 0 < o.itm) : PlayOk (playP l) l.length := by
  have := playP_ok hl l.length (Nat.le_refl _)
  rwa [List.take_length] at this
theorem itsF_ok {l : List DOp} (hl : ∀ o ∈ l, 0 < o.itm) : ∃ r, Its (itsF l) r := by
  have h := playP_ok' hl
  obtain ⟨r, hr⟩ := h.rank
  refine ⟨r, fun x hx => ?_, ?_, fun x hx => ?_⟩
  · obtain ⟨y, hy, rfl⟩ := List.mem_map.1 hx
    exact hr y hy
  · have := h.uniq
    unfold UniqI itsF at *
    rw [List.map_map]; exact this
  · obtain ⟨y, hy, rfl⟩ := List.mem_map.1 hx
    exact h.pos y hy
theorem itsF_len {l : List DOp} (hl : ∀ o ∈ l, 0 < o.itm) : (itsF l).length ≤ l.length := by
  have h := playP_ok' hl
  have := h.len
  unfold itsF
  rw [List.length_map]; exact this
theorem walk_sub {its : List DItem} {r : Int → Nat} (h : Its its r) (n : Nat) {p : Int} (hp : 0 ≤ p) : (walkI its n p).length ≤ its.length := by
  have hn := walkI_nodup h n hp
  have hnd : (walkI its n p).Nodup := (List.pairwise_map.1 hn).imp (fun h e => h (congrArg _ e))
  have : ∀ (w its : List DItem), w.Nodup → (∀ x ∈ w, x ∈ its) → w.length ≤ its.length := by
    intro w
    induction w with
    | nil => intro its _ _; simp
    | cons a w ih =>
      intro its hn hs
      simp only [List.nodup_cons] at hn
      have ha := hs a List.mem_cons_self
      obtain ⟨s, t, rfl⟩ := List.append_of_mem ha
      have := ih (s ++ t) hn.2 (fun x hx => by
        have := hs x (List.mem_cons_of_mem _ hx)
        simp only [List.mem_append, List.mem_cons] at this ⊢
        rcases this with h | h | h
        · exact .inl h
        · subst h; exact absurd hx hn.1
        · exact .inr h)
      simp only [List.length_append, List.length_cons] at *; omega
  exact this _ _ hnd (fun x hx => (walkI_below n hx).1)
theorem WIn.start {l : List DOp} (hl : ∀ o ∈ l, 0 < o.itm) (hn : l.length ≤ 1000000000) {r : Int → Nat} (hr : Its (itsF l) r) {K : List KE} (hK : KOk (itsF l) K []) : WIn (itsF l) r ((itsF l).length + 1) 0 K [] 0 := by
  have hlen := itsF_len hl
  have hw := walk_sub hr ((itsF l).length + 1) (Int.le_refl 0)
  refine ⟨hr, Int.le_refl _, by unfold Ch.mu; rw [if_pos rfl]; exact Nat.le_refl _, hK, ?_, by omega, by omega⟩
  rw [List.nil_append, List.nodup_cons]
  refine ⟨fun hm => ?_, walkI_nodup hr _ (Int.le_refl _)⟩
  obtain ⟨y, hy, e⟩ := List.mem_map.1 hm
  have := hr.pos y (walkI_below _ hy).1
  omega
theorem addS_mem {l : List Int} {k : Int} : ∀ {S : List Int}, k ∈ addS S l ↔ k ∈ S ∨ k ∈ l := by
  induction l with
  | nil => intro S; simp [addS]
  | cons a l ih =>
    intro S
    have : addS S (a :: l) = addS (putK id S a) l := rfl
    rw [this, ih, List.mem_cons]
    have hm : k ∈ putK id S a ↔ k = a ∨ k ∈ S := by
      constructor
      · exact putK_mem
      · rintro (rfl | h)
        · exact putK_self
        · by_cases e : k = a
          · subst e; exact putK_self
          · exact putK_old h e
    rw [hm]
    constructor
    · rintro ((h | h) | h)
      · exact .inr (.inl h)
      · exact .inl h
      · exact .inr (.inr h)
    · rintro (h | h | h)
      · exact .inl (.inr h)
      · exact .inl (.inl h)
      · exact .inr h
theorem kidsL_at (l : List DItem) (p : Int) : findK (kidsL l) p = none ∨ ∃ xs, findK (kidsL l) p = some (p, false, xs) ∧ xs.length ≤ l.length := by
  cases hf : findK (kidsL l) p with
  | none => exact .inl rfl
  | some e =>
    obtain ⟨h1, h2⟩ := find_at hf
    obtain ⟨h3, h4⟩ := (kidsL_inv l).has e h1
    obtain ⟨k, b, xs⟩ := e
    simp only at h2 h3 h4
    subst h2 h3
    exact .inr ⟨xs, rfl, by rw [h4]; exact List.length_filter_le _ _⟩
theorem addK_none {K : List KE} {x : DItem} (hf : findK K x.parent = none) : putE (K.map kdM) x.parent (.rw 4 ([x].map ditT)) = (addKid K x).map kdM := by
  unfold addKid; rw [hf]; exact putKD (x.parent, false, [] ++ [x])
theorem addK_some {K : List KE} {x : DItem} {xs : List DItem} (hf : findK K x.parent = some (x.parent, false, xs)) : putE (K.map kdM) x.parent (.rw 4 ((xs ++ [x]).map ditT)) = (addKid K x).map kdM := by
  unfold addKid; rw [hf]; exact putKD (x.parent, false, xs ++ [x])
@[simp] theorem srtN_len (l : List DItem) : (srtN l).length = l.length := (srtO_perm ltN l).length_eq
theorem filt_succ {l : List DItem} {q : DItem → Bool} {i : Nat} (h : i < l.length) : (l.take (i + 1)).filter q = (l.take i).filter q ++ (if q (l.getD i default) then [l.getD i default] else []) := by
  rw [List.take_succ_eq_append_getElem h, List.filter_append]
  simp only [List.getD, List.getElem?_eq_getElem h, Option.getD_some, List.filter_cons, List.filter_nil]
end Go.Ch
end
section
set_option linter.unusedVariables false
set_option linter.unusedSimpArgs false
set_option maxRecDepth 100000
set_option maxHeartbeats 4000000
open Go Go.Proofs Go.Ab
namespace Go.Ch
theorem fc_walk0 (l : List DOp) (hl : ∀ o ∈ l, 0 < o.itm) (hn : l.length ≤ 1000000000) (r : Int → Nat) (hr : Its (itsF l) r) (K : List KE) (hK : KOk (itsF l) K []) : FC Tryz.prog 145 [VI 0, .ptr 0 0, .ptr 1 0, .ptr 2 0, .ptr 3 0] (app emp [(0, .box [.hdl 4]), (1, .box [.row 5 (([] : List DItem).length)]), (2, .box [.hdl 6]), (3, .box [.fn 145 [.ptr 0 0, .ptr 1 0, .ptr 2 0, .ptr 3 0]]), (4, .mp (List.map kdM K) none), (5, OR 4 ditT ([] : List DItem)), (6, .mp (List.map onM ([] : List Int)) none)]) (.tup []) (app emp [(0, .box [.hdl 4]), (1, .box [.row 5 ((walkF l).length)]), (2, .box [.hdl 6]), (3, .box [.fn 145 [.ptr 0 0, .ptr 1 0, .ptr 2 0, .ptr 3 0]]), (4, .mp (List.map kdM (frzL K (0 :: (walkF l).map DItem.item))) none), (5, OR 4 ditT (walkF l)), (6, .mp (List.map onM (addS [] ((walkF l).map DItem.item))) none)]) :=
  fc_walk (itsF l) r ((itsF l).length + 1) 0 K [] [] [] (WIn.start hl hn hr hK)

theorem fc_rawI (l : List DOp) (hn : l.length ≤ 1000000000) (ho : ∀ o ∈ l, 0 < o.itm) : FC Tryz.prog 114 [VL 8 dopT l] (app emp []) (VL 4 ditT (rawI l)) (app emp []) := by
 refine .go Tryz.f114 ?_
 refine .len 0 (fun hl0 => ?_)
 have hok := playP_ok' ho
 obtain ⟨r, hr⟩ := itsF_ok ho
 have hlen := itsF_len ho
 refine .loop (α := List (DItem × Bool) × List KE × List Nat × (List DItem)) [.r [], .r [(1, X (Xc1 16 (fc_play l (by omega) (by assumption)) X0))], .r [], .r [], .le (.me 17 (List.map itM ((playP l).1)) (List.map (itM2 (playP l).2) (mkM (playP l).1 [])) (mkM_nil _ _)), .r [(4, X (Xmg (itM2 (playP l).2) (mkM (playP l).1 []) 17 96))], .le (.nR 5 4)] 105 (fun (M, K, q, a) => ([(3, .ptr 16 0), (4, .ptr 40 0), (5, .row 104 a.length), (20, .hdl 96)], [(16, .box [.hdl 17, .hdl 18]), (17, .mp (List.map (itM2 (playP l).2) M) none), (18, .mp (List.map atM ((playP l).2)) none), (32, .mp (List.map kdM K) none), (40, .box [.hdl 32]), (96, .miter 17 ((mkM (playP l).1 []).length) q), (104, OR 4 ditT a)])) (fun (M, K, q, a) => q.Nodup ∧ (∀ i ∈ q, i < (playP l).1.length) ∧ M = mkM (playP l).1 q ∧ a = q.map (fun i => fullI (playP l).2 ((playP l).1.getD i default)) ∧ K = kidsL a) (fun (M, K, q, a) => (playP l).1.length - q.length) ((mkM (playP l).1 []), [], [], []) ?_ ?_
 ·
  exact ⟨List.nodup_nil, (fun i hi => by cases hi), rfl, rfl, rfl⟩
 rintro ⟨M, K, q, a⟩ I5 ih5
 try dsimp only at I5
 refine .next [] ((mkM (playP l).1 []).length) q (List.map (itM2 (playP l).2) M) (by rw [List.length_map, I5.2.2.1, mkM_len, mkM_len]) (fun i5 hi5 hn5 => ?_) (fun ha5 => ?_)
 ·
  have hi : i5 < (playP l).1.length := by rw [mkM_len] at hi5; exact hi5
  have hnd : (q ++ [i5]).Nodup := by
   rw [List.nodup_append]; refine ⟨I5.1, by simp, fun a ha b hb e => ?_⟩; simp at hb; subst hb e; exact hn5 ha
  have hmem : ∀ j ∈ q ++ [i5], j < (playP l).1.length := fun j hj => by
   rcases List.mem_append.1 hj with h | h
   · exact I5.2.1 j h
   · simp at h; subst h; exact hi
  have hql := nodup_len _ _ hnd hmem
  have hal : a.length ≤ 1000000000 := by
   have h1 := hok.len; rw [List.length_append] at hql; rw [I5.2.2.2.1, List.length_map]; omega
  have hkk : findK K (((playP l).1).getD i5 default).parent = none ∨ ∃ xs, findK K (((playP l).1).getD i5 default).parent = some ((((playP l).1).getD i5 default).parent, false, xs) ∧ xs.length ≤ a.length := by rw [I5.2.2.2.2]; exact kidsL_at _ _
  refine .mid [.t, .r [(0, X (Xe2 (itM2 (playP l).2) M 17 ((mkM (playP l).1 []).length) (q ++ [i5]) i5 ((((playP l).1).getD i5 default).item) [TI (((((playP l).1).getD i5 default)).item), TI (((((playP l).1).getD i5 default)).parent), TS (((((playP l).1).getD i5 default)).place), TL 2 attrT (((((playP l).1).getD i5 default)).attrs)]) (by rw [I5.2.2.1]; exact mkM_entry hi5 hn5))], .r [(6, X (Xmq (List.map atM ((playP l).2)) ((((playP l).1).getD i5 default).item) 2 attrT (findA (playP l).2 (((playP l).1).getD i5 default).item)) lookA)]] ?_
  rcases hkk with hf | ⟨xs, hf, hxl⟩
  ·
   refine .back [.r [(10, X (Xm0 (List.map kdM K) (((((playP l).1).getD i5 default)).parent)) (by rw [lookK, hf]; rfl)), (15, X (rowC ditT [({ item := ((((playP l).1).getD i5 default)).item, parent := ((((playP l).1).getD i5 default)).parent, place := ((((playP l).1).getD i5 default)).place, attrs := (findA (playP l).2 (((playP l).1).getD i5 default).item) } : DItem)] (Xan ditT 361 [({ item := ((((playP l).1).getD i5 default)).item, parent := ((((playP l).1).getD i5 default)).parent, place := ((((playP l).1).getD i5 default)).place, attrs := (findA (playP l).2 (((playP l).1).getD i5 default).item) } : DItem)]))), (16, X (Xmr kdM K (addKid K (fullI (playP l).2 (((playP l).1).getD i5 default))) (((((playP l).1).getD i5 default)).parent) 32 361 4 ([({ item := ((((playP l).1).getD i5 default)).item, parent := ((((playP l).1).getD i5 default)).parent, place := ((((playP l).1).getD i5 default)).place, attrs := (findA (playP l).2 (((playP l).1).getD i5 default).item) } : DItem)].length) ditT [({ item := ((((playP l).1).getD i5 default)).item, parent := ((((playP l).1).getD i5 default)).parent, place := ((((playP l).1).getD i5 default)).place, attrs := (findA (playP l).2 (((playP l).1).getD i5 default).item) } : DItem)]) ⟨rfl, addK_none (x := fullI (playP l).2 (((playP l).1).getD i5 default)) hf⟩)], .r [(5, X (rowC ditT [({ item := ((((playP l).1).getD i5 default)).item, parent := ((((playP l).1).getD i5 default)).parent, place := ((((playP l).1).getD i5 default)).place, attrs := (findA (playP l).2 (((playP l).1).getD i5 default).item) } : DItem)] (Xap 4 ditT 104 a [({ item := ((((playP l).1).getD i5 default)).item, parent := ((((playP l).1).getD i5 default)).parent, place := ((((playP l).1).getD i5 default)).place, attrs := (findA (playP l).2 (((playP l).1).getD i5 default).item) } : DItem)])))], .le (.mput 17 (List.map (itM2 (playP l).2) (mkM (playP l).1 (q ++ [i5]))) [(lookE (List.map (itM2 (playP l).2) M) ((((playP l).1).getD i5 default).item)).isSome = true, putE (List.map (itM2 (playP l).2) M) ((((playP l).1).getD i5 default).item) (.bx [TI (((((playP l).1).getD i5 default)).item), TI (((((playP l).1).getD i5 default)).parent), TS (((((playP l).1).getD i5 default)).place), TL 2 attrT (findA (playP l).2 (((playP l).1).getD i5 default).item)]) = List.map (itM2 (playP l).2) (mkM (playP l).1 (q ++ [i5]))] ⟨(by rw [I5.2.2.1, mkM_look hok.uniq hi]; rfl), (by rw [I5.2.2.1]; exact mkM_put hok.uniq hi), trivial⟩)] [(16, 16), (17, 17), (18, 18), (32, 32), (40, 40), (96, 96), (104, 104)] (ih5 ((mkM (playP l).1 (q ++ [i5])), (addKid K (fullI (playP l).2 (((playP l).1).getD i5 default))), (q ++ [i5]), (a ++ [({ item := ((((playP l).1).getD i5 default)).item, parent := ((((playP l).1).getD i5 default)).parent, place := ((((playP l).1).getD i5 default)).place, attrs := (findA (playP l).2 (((playP l).1).getD i5 default).item) } : DItem)])) ?_ ?_)
   ·
    exact ⟨hnd, hmem, rfl, by rw [List.map_append, ← I5.2.2.2.1]; rfl, by rw [I5.2.2.2.2]; unfold kidsL; rw [List.foldl_append]; rfl⟩
   ·
    (try dsimp only); rw [List.length_append, List.length_singleton] at *; omega
  ·
   refine .back [.r [(10, X (Xm2r (List.map kdM K) (((((playP l).1).getD i5 default)).parent) 32 321 4 ditT xs) (by rw [lookK, hf]; rfl)), (15, X (rowC ditT [({ item := ((((playP l).1).getD i5 default)).item, parent := ((((playP l).1).getD i5 default)).parent, place := ((((playP l).1).getD i5 default)).place, attrs := (findA (playP l).2 (((playP l).1).getD i5 default).item) } : DItem)] (Xap 4 ditT 321 xs [({ item := ((((playP l).1).getD i5 default)).item, parent := ((((playP l).1).getD i5 default)).parent, place := ((((playP l).1).getD i5 default)).place, attrs := (findA (playP l).2 (((playP l).1).getD i5 default).item) } : DItem)]))), (16, X (Xmrh kdM K (addKid K (fullI (playP l).2 (((playP l).1).getD i5 default))) (((((playP l).1).getD i5 default)).parent) (((((playP l).1).getD i5 default)).parent) 32 321 4 ((xs ++ [({ item := ((((playP l).1).getD i5 default)).item, parent := ((((playP l).1).getD i5 default)).parent, place := ((((playP l).1).getD i5 default)).place, attrs := (findA (playP l).2 (((playP l).1).getD i5 default).item) } : DItem)]).length) ditT (xs ++ [({ item := ((((playP l).1).getD i5 default)).item, parent := ((((playP l).1).getD i5 default)).parent, place := ((((playP l).1).getD i5 default)).place, attrs := (findA (playP l).2 (((playP l).1).getD i5 default).item) } : DItem)])) ⟨rfl, rfl, addK_some (x := fullI (playP l).2 (((playP l).1).getD i5 default)) hf⟩)], .r [(5, X (rowC ditT [({ item := ((((playP l).1).getD i5 default)).item, parent := ((((playP l).1).getD i5 default)).parent, place := ((((playP l).1).getD i5 default)).place, attrs := (findA (playP l).2 (((playP l).1).getD i5 default).item) } : DItem)] (Xap 4 ditT 104 a [({ item := ((((playP l).1).getD i5 default)).item, parent := ((((playP l).1).getD i5 default)).parent, place := ((((playP l).1).getD i5 default)).place, attrs := (findA (playP l).2 (((playP l).1).getD i5 default).item) } : DItem)])))], .le (.mput 17 (List.map (itM2 (playP l).2) (mkM (playP l).1 (q ++ [i5]))) [(lookE (List.map (itM2 (playP l).2) M) ((((playP l).1).getD i5 default).item)).isSome = true, putE (List.map (itM2 (playP l).2) M) ((((playP l).1).getD i5 default).item) (.bx [TI (((((playP l).1).getD i5 default)).item), TI (((((playP l).1).getD i5 default)).parent), TS (((((playP l).1).getD i5 default)).place), TL 2 attrT (findA (playP l).2 (((playP l).1).getD i5 default).item)]) = List.map (itM2 (playP l).2) (mkM (playP l).1 (q ++ [i5]))] ⟨(by rw [I5.2.2.1, mkM_look hok.uniq hi]; rfl), (by rw [I5.2.2.1]; exact mkM_put hok.uniq hi), trivial⟩)] [(16, 16), (17, 17), (18, 18), (32, 32), (40, 40), (96, 96), (104, 104)] (ih5 ((mkM (playP l).1 (q ++ [i5])), (addKid K (fullI (playP l).2 (((playP l).1).getD i5 default))), (q ++ [i5]), (a ++ [({ item := ((((playP l).1).getD i5 default)).item, parent := ((((playP l).1).getD i5 default)).parent, place := ((((playP l).1).getD i5 default)).place, attrs := (findA (playP l).2 (((playP l).1).getD i5 default).item) } : DItem)])) ?_ ?_)
   ·
    exact ⟨hnd, hmem, rfl, by rw [List.map_append, ← I5.2.2.2.1]; rfl, by rw [I5.2.2.2.2]; unfold kidsL; rw [List.foldl_append]; rfl⟩
   ·
    (try dsimp only); rw [List.length_append, List.length_singleton] at *; omega
 ·
  have hsl := srtN_len a
  have hwl : (walkF l).length ≤ (itsF l).length := walk_sub hr _ (Int.le_refl 0)
  have hp : a.Perm (itsF l) := by rw [I5.2.2.2.1]; exact allI_perm _ I5.1 I5.2.1 (fun i hi => ha5 i (by rw [mkM_len]; exact hi))
  have hK : KOk (itsF l) K [] := by rw [I5.2.2.2.2]; exact (kidsL_inv a).ok hp
  have hua : UniqI DItem.item a := by (have := hr.uq; unfold UniqI at *; exact (hp.map _).nodup_iff.2 this)
  have hla : a.length ≤ 1000000000 := by rw [hp.length_eq]; omega
  have hsa : srtN a = srtN (itsF l) := srtN_eq hp hua
  refine .loop (α := Nat × (List DItem)) [.f, .r [], .r [], .r [], .r [], .le (.nB 121 0 4), .r [(1, X (Xc3 186 [(0, 40), (1, 121), (2, 137), (3, 153), (4, 32), (5, 177), (6, 129)] (fc_walk0 l ho hn r hr K hK) X0))], .r [(1, X (Xc3 202 [(0, 104)] (fc_sortN a (by first | assumption | omega) (by assumption)) X0))], .r []] 234 (fun (i, o2) => ([(8, .ptr 121 0), (9, .ptr 137 0), (63, .row 104 a.length), (64, VI (a.length : Int)), (65, VI (i : Int))], [(104, OR 4 ditT (srtN a)), (121, .box [.row 177 o2.length]), (129, .mp (List.map onM (addS [] ((walkF l).map DItem.item))) none), (137, .box [.hdl 129]), (177, OR 4 ditT o2)])) (fun (i, o2) => i ≤ a.length ∧ o2 = walkF l ++ ((srtN a).take i).filter fun x => decide (x.item ∉ (walkF l).map DItem.item)) (fun (i, o2) => a.length - i) (0, (walkF l)) ?_ ?_
  ·
   exact ⟨Nat.zero_le _, by simp⟩
  rintro ⟨i, o2⟩ I17 ih17
  try dsimp only at I17
  refine .bp [.r []] (decide ((i : Int) < (a.length : Int))) (fun h17 => ?_) (fun h17 => ?_)
  ·
   have hol : o2.length ≤ 1099511627775 := by
    have := List.length_filter_le (fun x => decide (x.item ∉ (walkF l).map DItem.item)) ((srtN a).take i)
    rw [List.length_take] at this; rw [I17.2, List.length_append]; omega
   refine .bp [.r [(0, X (Xpn a.length ditT (srtN a) (i : Int))), (1, X (Xen a.length ditT (srtN a) i))], .r [(3, X (Xmt (List.map onM (addS [] ((walkF l).map DItem.item))) ((((srtN a).getD i default)).item) (TB false) (TB (decide (((srtN a).getD i default).item ∈ addS [] ((walkF l).map DItem.item))))) lookS)]] (!(decide (((srtN a).getD i default).item ∈ addS [] ((walkF l).map DItem.item)))) (fun h19 => ?_) (fun h19 => ?_)
   ·
    refine .back [.r [(3, X (rowC ditT [(((srtN a).getD i default))] (Xap 4 ditT 177 o2 [(((srtN a).getD i default))])))], .r [(0, X (Xn ((i : Int) + 1)))]] [(104, 104), (121, 121), (129, 129), (137, 137), (177, 177)] (ih17 ((i + 1), (o2 ++ [(((srtN a).getD i default))])) ?_ ?_)
    ·
     simp only [addS_mem, List.not_mem_nil, false_or] at h19
     refine ⟨by omega, ?_⟩
     rw [I17.2, filt_succ (by omega)]
     first
      | rw [if_pos (by simpa using h19), List.append_assoc]
      | rw [if_neg (by simpa using h19), List.append_nil]
    ·
     ((try dsimp only); omega)
   ·
    refine .back [.r [(0, X (Xn ((i : Int) + 1)))]] [(104, 104), (121, 121), (129, 129), (137, 137), (177, 177)] (ih17 ((i + 1), o2) ?_ ?_)
    ·
     simp only [addS_mem, List.not_mem_nil, false_or] at h19
     refine ⟨by omega, ?_⟩
     rw [I17.2, filt_succ (by omega)]
     first
      | rw [if_pos (by simpa using h19), List.append_assoc]
      | rw [if_neg (by simpa using h19), List.append_nil]
    ·
     ((try dsimp only); omega)
  ·
   have e1 : ((rawI l) : List DItem) = o2 := by
    have hi : i = (srtN a).length := by omega
    rw [I17.2, hi, List.take_length, hsa]; rfl
   exact .finE [.r [], .le (.fr 2 [(o2.length : Nat) = (List.map ditT o2).length] ⟨lm, trivial⟩)] [] (fun z0 : List DItem => (VL 4 ditT z0, [])) _ _ e1
end Go.Ch
end
section
set_option linter.unusedVariables false
set_option linter.unusedSimpArgs false
set_option maxRecDepth 100000
namespace Go.Ch
open Go Go.Ab

/-- Items up to the first whose parent is none of those before it. -/
def shownF (l : List DItem) (i : Nat) : Nat := if i < l.length then if (l.getD i default).parent ∈ 0 :: (l.take i).map DItem.item then shownF l (i + 1) else i else l.length
termination_by l.length - i
theorem take_succD {l : List DItem} {i : Nat} (h : i < l.length) : l.take (i + 1) = l.take i ++ [l.getD i default] := by
  rw [List.take_succ_eq_append_getElem h]
  simp [List.getD, List.getElem?_eq_getElem h]
theorem shown_next {l : List DItem} {S : List Int} {i : Nat} (h : i < l.length) (hS : ∀ k, k ∈ S ↔ k ∈ 0 :: (l.take i).map DItem.item) :
    ∀ k, k ∈ putK id S (l.getD i default).item ↔ k ∈ 0 :: (l.take (i + 1)).map DItem.item := by
  intro k
  have hm : k ∈ putK id S (l.getD i default).item ↔ k = (l.getD i default).item ∨ k ∈ S := by
    have := addS_mem (l := [(l.getD i default).item]) (k := k) (S := S)
    simp only [addS, List.foldl_cons, List.foldl_nil, List.mem_singleton] at this
    rw [this]; exact Or.comm
  rw [hm, hS k, take_succD h, List.map_append]
  simp only [List.mem_cons, List.mem_append, List.map_cons, List.map_nil, List.not_mem_nil, or_false]
  constructor
  · rintro (h | h | h)
    · exact .inr (.inr h)
    · exact .inl h
    · exact .inr (.inl h)
  · rintro (h | h | h)
    · exact .inr (.inl h)
    · exact .inr (.inr h)
    · exact .inl h

/-! ### Dice -/
/-! ### Valid operations -/
theorem drawE_iff {l : List DOp} : drawE l 0 = 0 ↔ (∀ i, i < l.length → opE (l.getD i default) = 0) ∧ ∀ i, i + 1 < l.length → ltO (l.getD i default) (l.getD (i + 1) default) := by
  have key : ∀ (d i : Nat), l.length - i = d → (drawE l i = 0 ↔ (∀ j, i ≤ j → j < l.length → opE (l.getD j default) = 0) ∧ ∀ j, i ≤ j → 0 < j → j < l.length → ltO (l.getD (j - 1) default) (l.getD j default)) := by
    intro d
    induction d with
    | zero =>
      intro i h
      rw [drawE, if_neg (by omega)]
      exact ⟨fun _ => ⟨fun j _ _ => by omega, fun j _ _ _ => by omega⟩, fun _ => rfl⟩
    | succ d ih =>
      intro i h
      rw [drawE, if_pos (by omega)]
      by_cases h1 : opE (l.getD i default) = 0
      · rw [if_neg (fun hh => hh h1)]
        by_cases h2 : 0 < i ∧ ¬ ltO (l.getD (i - 1) default) (l.getD i default)
        · rw [if_pos h2]
          exact ⟨fun h => by omega, fun h => absurd (h.2 i (Nat.le_refl _) h2.1 (by omega)) h2.2⟩
        · rw [if_neg h2, ih (i + 1) (by omega)]
          constructor
          · rintro ⟨a, b⟩
            refine ⟨fun j hj hl => ?_, fun j hj h0 hl => ?_⟩
            · by_cases e : j = i
              · rw [e]; exact h1
              · exact a j (by omega) hl
            · by_cases e : j = i
              · subst e; exact Decidable.not_not.1 (fun hh => h2 ⟨h0, hh⟩)
              · exact b j (by omega) h0 hl
          · rintro ⟨a, b⟩
            exact ⟨fun j hj hl => a j (by omega) hl, fun j hj h0 hl => b j (by omega) h0 hl⟩
      · rw [if_pos h1]
        exact ⟨fun h => absurd h h1, fun h => h.1 i (Nat.le_refl _) (by omega)⟩
  rw [key _ 0 rfl]
  constructor
  · rintro ⟨a, b⟩
    exact ⟨fun i hi => a i (Nat.zero_le _) hi, fun i hi => by have := b (i + 1) (Nat.zero_le _) (by omega) hi; simpa using this⟩
  · rintro ⟨a, b⟩
    refine ⟨fun i _ hi => a i hi, fun i _ h0 hi => ?_⟩
    have := b (i - 1) (by omega)
    rwa [show i - 1 + 1 = i by omega] at this
theorem opE_pos {o : DOp} (h : opE o = 0) : 0 < o.itm := by
  unfold opE at h
  split at h
  · cases h
  · split at h
    · cases h
    · rename_i h2; omega
theorem drawE_pos {l : List DOp} (h : drawE l 0 = 0) : ∀ o ∈ l, 0 < o.itm := by
  intro o ho
  obtain ⟨i, hi, rfl⟩ := List.mem_iff_getElem.1 ho
  have := (drawE_iff.1 h).1 i hi
  rw [show l.getD i default = l[i] by simp [List.getD, List.getElem?_eq_getElem hi]] at this
  exact opE_pos this
end Go.Ch
end
section
set_option linter.unusedVariables false
set_option linter.unusedSimpArgs false
set_option maxRecDepth 100000
set_option maxHeartbeats 4000000
open Go Go.Proofs Go.Ab
namespace Go.Ch
theorem fc_dshown (l : List DItem) : FC Tryz.prog 115 [VL 4 ditT l] (app emp []) (VI (shownF l 0 : Int)) (app emp []) := by
 refine .go Tryz.f115 ?_
 refine .len 0 (fun hl0 => ?_)
 refine .loop (α := Nat × List Int) [.r [], .r [(1, X (Xmu onM [] [0] 0 8 (.im (TB true))) (putS (S := [])))], .r [(1, X (Xl ditT l))]] 64 (fun (i, S) => ([(0, VL 4 ditT l), (3, .hdl 8), (8, VL 4 ditT l), (9, VI (l.length : Int)), (10, VI (i : Int))], [(8, .mp (List.map onM S) none)])) (fun (i, S) => i ≤ l.length ∧ shownF l 0 = shownF l i ∧ ∀ k, k ∈ S ↔ k ∈ 0 :: (l.take i).map DItem.item) (fun (i, S) => l.length - i) (0, [0]) ?_ ?_
 ·
  exact ⟨by omega, rfl, fun k => by simp⟩
 rintro ⟨i, S⟩ I3 ih3
 try dsimp only at I3
 refine .bp [.r []] (decide ((i : Int) < (l.length : Int))) (fun h3 => ?_) (fun h3 => ?_)
 ·
  refine .bp [.r [(1, X (Xi ditT l (i : Int)))], .r [(3, X (Xmt (List.map onM S) (((l.getD i default)).parent) (TB false) (TB (decide ((l.getD i default).parent ∈ S)))) lookS)]] (!(decide ((l.getD i default).parent ∈ S))) (fun h5 => ?_) (fun h5 => ?_)
  ·
   have e1 : ((shownF l 0 : Int) : Int) = (i : Int) := by
    have hp : ¬ (l.getD i default).parent ∈ 0 :: (l.take i).map DItem.item := by rw [← I3.2.2]; simpa using h5
    rw [I3.2.1, shownF, if_pos (by omega), if_neg hp]
   exact .finE [.r []] [] (fun z0 : Int => (VI z0, [])) _ _ e1
  ·
   refine .back [.r [(3, X (Xmu onM S (putK id S (l.getD i default).item) (((l.getD i default)).item) 8 (.im (TB true))) putS)], .r [(0, X (Xn ((i : Int) + 1)))]] [(8, 8)] (ih3 ((i + 1), (putK id S (l.getD i default).item)) ?_ ?_)
   ·
    have hp : (l.getD i default).parent ∈ 0 :: (l.take i).map DItem.item := by rw [← I3.2.2]; simpa using h5
    refine ⟨by omega, ?_, shown_next (by omega) I3.2.2⟩
    rw [I3.2.1, shownF, if_pos (by omega), if_pos hp]
   ·
    ((try dsimp only); omega)
 ·
  have e2 : ((shownF l 0 : Int) : Int) = (l.length : Int) := by
   rw [I3.2.1, shownF, if_neg (by omega)]
  exact .finE [.r [(1, X (Xl ditT l))]] [] (fun z0 : Int => (VI z0, [])) _ _ e2
end Go.Ch
end
section
set_option linter.unusedVariables false
set_option linter.unusedSimpArgs false
set_option maxRecDepth 100000
set_option maxHeartbeats 4000000
open Go Go.Proofs Go.Ab
namespace Go.Ch
theorem fc_lies (r : Rect) (m n : Int) (hb : 0 ≤ m ∧ m ≤ 1000000000000 ∧ 0 ≤ n ∧ n ≤ 1000000000000) : FC Tryz.prog 106 [.t (rectT r), VI m, VI n] (app emp []) (VB (insB r m n)) (app emp []) := by
 refine .go Tryz.f106 ?_
 have e1 : ((insB r m n) : Bool) = ((((decide (0 ≤ r.row ∧ r.row ≤ (m - 1))) && (decide (0 ≤ r.col ∧ r.col ≤ (n - 1)))) && (decide (1 ≤ r.h ∧ r.h ≤ (m - r.row)))) && (decide (1 ≤ r.w ∧ r.w ≤ (n - r.col)))) := by
  rw [lies_eq (by omega) (by omega)]; rw [Bool.eq_iff_iff]; simp; try omega
 exact .finE [.r [], .r [(3, X (Xn (m - 1))), (4, X (Xc0 (fc_in r.row 0 (m - 1)) X0)), (7, Xv 1 (decide (0 ≤ r.row ∧ r.row ≤ (m - 1))) X0), (9, Xv 1 (decide (0 ≤ r.row ∧ r.row ≤ (m - 1))) (Xn (n - 1))), (10, Xv 2 (decide (0 ≤ r.row ∧ r.row ≤ (m - 1))) (Xc0 (fc_in r.col 0 (n - 1)) X0)), (11, X (Xk (decide (0 ≤ r.row ∧ r.row ≤ (m - 1))))), (14, Xv 1 ((decide (0 ≤ r.row ∧ r.row ≤ (m - 1))) && (decide (0 ≤ r.col ∧ r.col ≤ (n - 1)))) X0), (17, Xv 1 ((decide (0 ≤ r.row ∧ r.row ≤ (m - 1))) && (decide (0 ≤ r.col ∧ r.col ≤ (n - 1)))) X0), (18, Xv 2 ((decide (0 ≤ r.row ∧ r.row ≤ (m - 1))) && (decide (0 ≤ r.col ∧ r.col ≤ (n - 1)))) (Xn (m - r.row))), (19, Xv 2 ((decide (0 ≤ r.row ∧ r.row ≤ (m - 1))) && (decide (0 ≤ r.col ∧ r.col ≤ (n - 1)))) (Xc0 (fc_in r.h 1 (m - r.row)) X0)), (20, X (Xk ((decide (0 ≤ r.row ∧ r.row ≤ (m - 1))) && (decide (0 ≤ r.col ∧ r.col ≤ (n - 1)))))), (23, Xv 1 (((decide (0 ≤ r.row ∧ r.row ≤ (m - 1))) && (decide (0 ≤ r.col ∧ r.col ≤ (n - 1)))) && (decide (1 ≤ r.h ∧ r.h ≤ (m - r.row)))) X0), (26, Xv 1 (((decide (0 ≤ r.row ∧ r.row ≤ (m - 1))) && (decide (0 ≤ r.col ∧ r.col ≤ (n - 1)))) && (decide (1 ≤ r.h ∧ r.h ≤ (m - r.row)))) X0), (27, Xv 2 (((decide (0 ≤ r.row ∧ r.row ≤ (m - 1))) && (decide (0 ≤ r.col ∧ r.col ≤ (n - 1)))) && (decide (1 ≤ r.h ∧ r.h ≤ (m - r.row)))) (Xn (n - r.col))), (28, Xv 2 (((decide (0 ≤ r.row ∧ r.row ≤ (m - 1))) && (decide (0 ≤ r.col ∧ r.col ≤ (n - 1)))) && (decide (1 ≤ r.h ∧ r.h ≤ (m - r.row)))) (Xc0 (fc_in r.w 1 (n - r.col)) X0)), (29, X (Xk (((decide (0 ≤ r.row ∧ r.row ≤ (m - 1))) && (decide (0 ≤ r.col ∧ r.col ≤ (n - 1)))) && (decide (1 ≤ r.h ∧ r.h ≤ (m - r.row))))))]] [] (fun z0 : Bool => (VB z0, [])) _ _ e1

theorem fc_share (a b : Rect) (ha : RB a) (hb : RB b) : FC Tryz.prog 107 [.t (rectT a), .t (rectT b)] (app emp []) (VB (shareB a b)) (app emp []) := by
 refine .go Tryz.f107 ?_
 unfold RB at ha hb
 have e1 : ((shareB a b) : Bool) = (decide ((max a.row b.row) < (min (a.row + a.h) (b.row + b.h))) && decide ((max a.col b.col) < (min (a.col + a.w) (b.col + b.w)))) := by
  rfl
 exact .finE [.r [], .r [(4, X (Xmax a.row b.row)), (9, X (Xmax a.col b.col))], .r [(5, X (Xn (a.row + a.h))), (10, X (Xn (b.row + b.h))), (11, X (Xmin (a.row + a.h) (b.row + b.h))), (16, Xv 1 (decide ((max a.row b.row) < (min (a.row + a.h) (b.row + b.h)))) X0), (18, Xv 1 (decide ((max a.row b.row) < (min (a.row + a.h) (b.row + b.h)))) X0), (19, Xv 2 (decide ((max a.row b.row) < (min (a.row + a.h) (b.row + b.h)))) (Xn (a.col + a.w))), (21, Xv 1 (decide ((max a.row b.row) < (min (a.row + a.h) (b.row + b.h)))) X0), (23, Xv 1 (decide ((max a.row b.row) < (min (a.row + a.h) (b.row + b.h)))) X0), (24, Xv 2 (decide ((max a.row b.row) < (min (a.row + a.h) (b.row + b.h)))) (Xn (b.col + b.w))), (25, Xv 2 (decide ((max a.row b.row) < (min (a.row + a.h) (b.row + b.h)))) (Xmin (a.col + a.w) (b.col + b.w))), (26, Xv 2 (decide ((max a.row b.row) < (min (a.row + a.h) (b.row + b.h)))) X0), (27, X (Xk (decide ((max a.row b.row) < (min (a.row + a.h) (b.row + b.h))))))]] [] (fun z0 : Bool => (VB z0, [])) _ _ e1
end Go.Ch
end
section
set_option linter.unusedVariables false
set_option linter.unusedSimpArgs false
set_option maxRecDepth 100000
set_option maxHeartbeats 4000000
open Go Go.Proofs Go.Ab
namespace Go.Ch
theorem fc_decG (s : ByteArray) : FC Tryz.prog 181 [VS s] (app emp []) (.tup [.t (.sc (.int .i32 (decR s))), VI (decW s : Int)]) (app emp []) := by
  refine FC.ofTab (us := [.string s]) (v := .tuple #[.int .i32 (Lib.decodeGo s).1, .int .i64 (Lib.decodeGo s).2]) (fun st m w ok xs hl hv => ?_) (fun st m w ok => ?_) (fun w hT => ?_)
  · match xs, hl with
    | [x], _ =>
      have := VRel.sc_inv (hv 0 _ _ rfl rfl)
      rw [this]
  · refine .tup _ [.int .i32 (Lib.decodeGo s).1, .int .i64 (Lib.decodeGo s).2] rfl (fun i v u h1 h2 => ?_)
    match i with
    | 0 => cases h1; cases h2; exact .t _ _ (.sc _ rfl)
    | 1 => cases h1; cases h2; exact .t _ _ (.sc _ rfl)
    | i + 2 => cases h1
  · exact Tryz.utf8_DecodeRuneInString s w (hT.utf 0 1 (by kernel_rfl) (by kernel_rfl))
theorem fc_validS (s : ByteArray) (hs : s.size ≤ 9223372036854775807) : FC Tryz.prog 170 [VS s] (app emp []) (VB (Lib.validD s.data.toList)) (app emp []) := by
  refine FC.ofTab (us := [.string s]) (v := .bool (Lib.validD s.data.toList)) (fun st m w ok xs hl hv => ?_) (fun st m w ok => .t _ _ (.sc _ rfl)) (fun w hT => ?_)
  · match xs, hl with
    | [x], _ =>
      have := VRel.sc_inv (hv 0 _ _ rfl rfl)
      rw [this]
  · exact Any.utf8_ValidString Tryz.laysValid s w hs (hT.utf 0 1 (by kernel_rfl) (by kernel_rfl))
end Go.Ch
end
section
set_option linter.unusedVariables false
set_option linter.unusedSimpArgs false
set_option maxRecDepth 100000
set_option maxHeartbeats 4000000
open Go Go.Proofs Go.Ab
namespace Go.Ch
theorem fc_text (s : ByteArray) : FC Tryz.prog 155 [VS s] (app emp []) (VB (textG s)) (app emp []) := by
 refine .go Tryz.f155 ?_
 refine .loop (α := ByteArray) [.r []] 8 (fun u => ([(0, VS u)], [])) (fun u => textG s = textG u) (fun u => u.size) (s : ByteArray) ?_ ?_
 ·
  rfl
 rintro u I1 ih1
 replace I1 : textG s = textG u := I1
 refine .bp [.r []] (!(seq u ({ data := #[] }))) (fun h1 => ?_) (fun h1 => ?_)
 ·
  rw [seq_mt, decide_eq_false_iff_not] at h1
  have hu : 0 < u.size := by omega
  have hw := decW_bd hu
  have hr := decR_bd u
  refine .bp [.r [(1, X (Xc0 (fc_decG u) X0))], .r [(4, Xv 1 ((decR u) == 65533) X0), (5, X (Xk ((decR u) == 65533))), (8, Xv 1 (!(((decR u) == 65533) && ((decW u : Int) == 1))) X0), (9, X (Xk' (((decR u) == 65533) && ((decW u : Int) == 1)))), (12, Xv 1 (!((((decR u) == 65533) && ((decW u : Int) == 1)) || ((decR u) == 10))) (Xn (decR u))), (13, Xv 1 (!((((decR u) == 65533) && ((decW u : Int) == 1)) || ((decR u) == 10))) (Xc0 (fc_char (decR u)) X0)), (14, Xv 1 (!((((decR u) == 65533) && ((decW u : Int) == 1)) || ((decR u) == 10))) X0), (15, X (Xk' ((((decR u) == 65533) && ((decW u : Int) == 1)) || ((decR u) == 10))))]] (((((decR u) == 65533) && ((decW u : Int) == 1)) || ((decR u) == 10)) || !(decide (CharP (decR u)))) (fun h3 => ?_) (fun h3 => ?_)
  ·
   have hb : badT u := by rcases h3 with (h | h) | h; (exact .inl ⟨h.1, by omega⟩); (exact .inr (.inl h)); (exact .inr (.inr h))
   have e1 : ((textG s) : Bool) = false := by
    rw [I1, textG_bad hu hb]
   exact .finE [.r []] [] (fun z0 : Bool => (VB z0, [])) _ _ e1
  ·
   have hb : ¬ badT u := by rintro (q | q | q); (rcases h3.1.1 with h | h; (exact h q.1); (exact h (by omega))); (exact h3.1.2 q); (exact q h3.2)
   refine .back [.r [(2, X (Xa (Xc ((0:Int) ≤ (decW u : Int))) (Xa (Xc (((decW u : Int) : Int) ≤ (u.size : Int))) (Xc (((u.size : Int) : Int) ≤ (u.size : Int))))))]] [] (ih1 ((u.extract (((decW u : Int) : Int)).toNat (((u.size : Int) : Int)).toNat) : ByteArray) ?_ ?_)
   ·
    rw [I1, textG_go hu hb]
    rfl
   ·
    show (u.extract (decW u) u.size).size < u.size
    rw [ByteArray.size_extract]; omega
 ·
  have e2 : ((textG s) : Bool) = true := by
   rw [seq_mt, decide_eq_true_eq] at h1
   rw [I1, textG_end (by omega)]
  exact .finE [.r []] [] (fun z0 : Bool => (VB z0, [])) _ _ e2

theorem fc_cellText (s : ByteArray) (hs : s.size ≤ 9223372036854775807) : FC Tryz.prog 142 [VS s] (app emp []) (VB (textG s)) (app emp []) := by
 refine .go Tryz.f142 ?_
 refine .bp [.r [], .r [(1, X (Xc0 (fc_validS s (by assumption)) X0))]] (!(Lib.validD (s).data.toList)) (fun h1 => ?_) (fun h1 => ?_)
 ·
  have e1 : ((textG s) : Bool) = false := by
   rw [text_valid _ s rfl (by assumption)]
  exact .finE [.r []] [] (fun z0 : Bool => (VB z0, [])) _ _ e1
 ·
  refine .loop (α := Nat) [.r []] 48 (fun p => ([(9, .hdl 40)], [(40, .siter s p)])) (fun p => CtI s p) (fun p => s.size - p) (0 : Nat) ?_ ?_
  ·
   exact CtI.start (by assumption)
  rintro p I4 ih4
  replace I4 : CtI s p := I4
  by_cases hp : p < s.size
  ·
   obtain ⟨n1, n2, n3, n4, n5, n6⟩ := I4.next hp
   refine .bp [.r [(0, X (Xnx s p))], .t, .r [], .r [(4, Xv 1 (!(((Utf8.decode s p).1 : Int) == 10)) (Xn ((Utf8.decode s p).1 : Int))), (5, Xv 1 (!(((Utf8.decode s p).1 : Int) == 10)) (Xc0 (fc_charR ((Utf8.decode s p).1 : Int)) X0)), (6, Xv 1 (!(((Utf8.decode s p).1 : Int) == 10)) X0), (7, X (Xk' (((Utf8.decode s p).1 : Int) == 10)))]] ((((Utf8.decode s p).1 : Int) == 10) || !(decide (CharP ((Utf8.decode s p).1 : Int)))) (fun h6 => ?_) (fun h6 => ?_)
   ·
    have e2 : ((textG s) : Bool) = false := by
     exact n5 (by first | exact h6 | (simpa using h6))
    exact .finE [.r []] [] (fun z0 : Bool => (VB z0, [])) _ _ e2
   ·
    refine .back [] [(40, 40)] (ih4 ((p + (Utf8.decode s p).2) : Nat) ?_ ?_)
    ·
     exact n6 (by first | exact h6.1 | (simpa using h6.1)) (by first | exact h6.2 | (simpa using h6.2))
    ·
     ((try dsimp only); omega)
  ·
   have e3 : ((textG s) : Bool) = true := by
    exact I4.done hp
   exact .finE [.r [(0, X (Xov s p))], .f, .r []] [] (fun z0 : Bool => (VB z0, [])) _ _ e3
end Go.Ch
end
section
set_option linter.unusedVariables false
set_option linter.unusedSimpArgs false
set_option maxRecDepth 100000
set_option maxHeartbeats 4000000
open Go Go.Proofs Go.Ab
namespace Go.Ch
theorem fc_cells (l : List Cell) (m n : Int) (o : Bool) : FC Tryz.prog 120 [VL 5 cellT l, VI m, VI n, VB o] (app emp []) (VI (cellsE l m n o 0)) (app emp []) := by
 refine .go Tryz.f120 ?_
 refine .len 0 (fun hl0 => ?_)
 refine .loop (α := Nat) [.r [], .r [(1, X (Xl cellT l))]] 32 (fun i => ([(0, VL 5 cellT l), (1, VI m), (2, VI n), (3, VB o), (12, VL 5 cellT l), (13, VI (l.length : Int)), (14, VI (i : Int))], [])) (fun i => i ≤ l.length ∧ cellsE l m n o 0 = cellsE l m n o i) (fun i => l.length - i) (0 : Nat) ?_ ?_
 ·
  exact ⟨by omega, rfl⟩
 rintro i I2 ih2
 try dsimp only at I2
 refine .bp [.r []] (decide ((i : Int) < (l.length : Int))) (fun h2 => ?_) (fun h2 => ?_)
 ·
  have hx : cellsE l m n o i = _ := cellsE.eq_1 l m n o i
  rw [if_pos (by omega)] at hx
  unfold cellE at hx
  refine .bp [.r [(1, X (Xi cellT l (i : Int)))], .r [(5, Xv 1 (!(decide ((((l.getD i default)).row) < 0))) X0), (7, Xv 2 (!(decide ((((l.getD i default)).row) < 0))) X0), (8, X (Xk' (decide ((((l.getD i default)).row) < 0)))), (11, Xv 1 (!(decide ((((l.getD i default)).row) < 0) || decide ((((l.getD i default)).row) ≥ m))) X0), (12, Xv 1 (!(decide ((((l.getD i default)).row) < 0) || decide ((((l.getD i default)).row) ≥ m))) X0), (13, X (Xk' (decide ((((l.getD i default)).row) < 0) || decide ((((l.getD i default)).row) ≥ m)))), (16, Xv 1 (!((decide ((((l.getD i default)).row) < 0) || decide ((((l.getD i default)).row) ≥ m)) || decide ((((l.getD i default)).col) < 0))) X0), (18, Xv 2 (!((decide ((((l.getD i default)).row) < 0) || decide ((((l.getD i default)).row) ≥ m)) || decide ((((l.getD i default)).col) < 0))) X0), (19, X (Xk' ((decide ((((l.getD i default)).row) < 0) || decide ((((l.getD i default)).row) ≥ m)) || decide ((((l.getD i default)).col) < 0))))]] (((decide ((((l.getD i default)).row) < 0) || decide ((((l.getD i default)).row) ≥ m)) || decide ((((l.getD i default)).col) < 0)) || decide ((((l.getD i default)).col) ≥ n)) (fun h4 => ?_) (fun h4 => ?_)
  ·
   have e1 : ((cellsE l m n o 0) : Int) = 2 := by
    first | (rw [I2.2, hx]; ((repeat' split) <;> first | rfl | omega | (simp_all; done) | (simp_all; omega))) | (rw [I2.2, cellsE, if_neg (by omega)])
   exact .finE [.r []] [] (fun z0 : Int => (VI z0, [])) _ _ e1
  ·
   refine .bp [.r [(5, Xv 1 (!(decide ((((l.getD i default)).ref) < 0))) X0), (6, Xv 1 (!(decide ((((l.getD i default)).ref) < 0))) X0), (7, X (Xk' (decide ((((l.getD i default)).ref) < 0))))]] (decide ((((l.getD i default)).ref) < 0) || decide ((((l.getD i default)).ref) > 1073741824)) (fun h6 => ?_) (fun h6 => ?_)
   ·
    have e2 : ((cellsE l m n o 0) : Int) = 2 := by
     first | (rw [I2.2, hx]; ((repeat' split) <;> first | rfl | omega | (simp_all; done) | (simp_all; omega))) | (rw [I2.2, cellsE, if_neg (by omega)])
    exact .finE [.r []] [] (fun z0 : Int => (VI z0, [])) _ _ e2
   ·
    refine .bp [.r [(2, X (Xc0 (fc_text (((l.getD i default)).text)) X0))]] (!(textG (((l.getD i default)).text))) (fun h8 => ?_) (fun h8 => ?_)
    ·
     have e3 : ((cellsE l m n o 0) : Int) = 23 := by
      first | (rw [I2.2, hx]; ((repeat' split) <;> first | rfl | omega | (simp_all; done) | (simp_all; omega))) | (rw [I2.2, cellsE, if_neg (by omega)])
     exact .finE [.r []] [] (fun z0 : Int => (VI z0, [])) _ _ e3
    ·
     refine .bp [.r [(2, X (Xc0 (fc_acheck (((l.getD i default)).attrs)) X0))], .r []] ((chkA false (((l.getD i default)).attrs) 0) != 0) (fun h11 => ?_) (fun h11 => ?_)
     ·
      have e4 : ((cellsE l m n o 0) : Int) = (chkA false (((l.getD i default)).attrs) 0) := by
       first | (rw [I2.2, hx]; ((repeat' split) <;> first | rfl | omega | (simp_all; done) | (simp_all; omega))) | (rw [I2.2, cellsE, if_neg (by omega)])
      exact .finE [.r []] [] (fun z0 : Int => (VI z0, [])) _ _ e4
     ·
      refine .bp [.r [(1, X (Xc0 (fc_empty ((l.getD i default))) X0)), (4, Xv 1 (emptyC ((l.getD i default))) X0), (5, X (Xk (emptyC ((l.getD i default)))))]] ((emptyC ((l.getD i default))) && !o) (fun h13 => ?_) (fun h13 => ?_)
      ·
       have e5 : ((cellsE l m n o 0) : Int) = 4 := by
        first | (rw [I2.2, hx]; ((repeat' split) <;> first | rfl | omega | (simp_all; done) | (simp_all; omega))) | (rw [I2.2, cellsE, if_neg (by omega)])
       exact .finE [.r []] [] (fun z0 : Int => (VI z0, [])) _ _ e5
      ·
       refine .bp [.r [(5, Xv 1 (decide ((i : Int) > 0)) (Xn ((i : Int) - 1))), (6, Xv 2 (decide ((i : Int) > 0)) (Xi' cellT l ((i : Int) - 1) (i - 1))), (7, Xv 1 (decide ((i : Int) > 0)) X0), (9, Xv 2 (decide ((i : Int) > 0)) (Xc0 (fc_order ((l.getD (i - 1) default)) ((l.getD i default))) X0)), (10, Xv 1 (decide ((i : Int) > 0)) X0), (11, X (Xk (decide ((i : Int) > 0))))]] (decide ((i : Int) > 0) && decide ((ordC ((l.getD (i - 1) default)) ((l.getD i default))) ≥ 0)) (fun h15 => ?_) (fun h15 => ?_)
       ·
        have e6 : ((cellsE l m n o 0) : Int) = 5 := by
         first | (rw [I2.2, hx]; ((repeat' split) <;> first | rfl | omega | (simp_all; done) | (simp_all; omega))) | (rw [I2.2, cellsE, if_neg (by omega)])
        exact .finE [.r []] [] (fun z0 : Int => (VI z0, [])) _ _ e6
       ·
        refine .back [.r [(0, X (Xn ((i : Int) + 1)))]] [] (ih2 ((i + 1) : Nat) ?_ ?_)
        ·
         refine ⟨by omega, ?_⟩
         rw [I2.2, hx]
         ((repeat' split) <;> first | rfl | omega | (simp_all; done) | (simp_all; omega))
        ·
         ((try dsimp only); omega)
 ·
  have e7 : ((cellsE l m n o 0) : Int) = 0 := by
   first | (rw [I2.2, hx]; ((repeat' split) <;> first | rfl | omega | (simp_all; done) | (simp_all; omega))) | (rw [I2.2, cellsE, if_neg (by omega)])
  exact .finE [.r []] [] (fun z0 : Int => (VI z0, [])) _ _ e7

theorem fc_cellsE (l : List Cell) (m n : Int) (o : Bool) (hz : SzC l) (hm : 0 ≤ m ∧ m ≤ 1000000000000) (hn : 0 ≤ n ∧ n ≤ 1000000000000) : FC Tryz.prog 105 [VL 5 cellT l, VI m, VI n, VB o] (app emp []) (VI (cellsE l m n o 0)) (app emp []) := by
 refine .go Tryz.f105 ?_
 refine .len 0 (fun hl0 => ?_)
 refine .loop (α := Nat) [.r [], .r [(1, X (Xl cellT l))]] 32 (fun i => ([(0, VL 5 cellT l), (1, VI m), (2, VI n), (3, VB o), (13, VI (l.length : Int)), (14, VI (i : Int))], [])) (fun i => i ≤ l.length ∧ cellsE l m n o 0 = cellsE l m n o i) (fun i => l.length - i) (0 : Nat) ?_ ?_
 ·
  exact ⟨by omega, rfl⟩
 rintro i I2 ih2
 try dsimp only at I2
 refine .bp [.r []] (decide ((i : Int) < (l.length : Int))) (fun h2 => ?_) (fun h2 => ?_)
 ·
  have hx : cellsE l m n o i = _ := cellsE.eq_1 l m n o i
  rw [if_pos (by omega)] at hx
  unfold cellE at hx
  obtain ⟨z1, z2⟩ := hz.at_ (i := i) (by omega)
  have z3 := errA_eq false (l.getD i default).attrs _ 0 rfl
  have hog : ∀ a b : Cell, (0 ≤ ordC a b) = (b.row < a.row ∨ (b.row = a.row ∧ b.col ≤ a.col)) := fun a b => propext ordC_ge
  simp only [hog] at hx
  rw [← z3] at hx
  refine .bp [.r [], .r [(2, X (Xi cellT l (i : Int)))], .r [(3, X (Xn (m - 1))), (4, X (Xc0 (fc_in (((l.getD i default)).row) 0 (m - 1)) X0)), (8, Xv 1 (!(!(decide (0 ≤ (((l.getD i default)).row) ∧ (((l.getD i default)).row) ≤ (m - 1))))) X0), (10, Xv 1 (!(!(decide (0 ≤ (((l.getD i default)).row) ∧ (((l.getD i default)).row) ≤ (m - 1))))) (Xn (n - 1))), (11, Xv 2 (!(!(decide (0 ≤ (((l.getD i default)).row) ∧ (((l.getD i default)).row) ≤ (m - 1))))) (Xc0 (fc_in (((l.getD i default)).col) 0 (n - 1)) X0)), (12, Xv 1 (!(!(decide (0 ≤ (((l.getD i default)).row) ∧ (((l.getD i default)).row) ≤ (m - 1))))) X0), (13, X (Xk' (!(decide (0 ≤ (((l.getD i default)).row) ∧ (((l.getD i default)).row) ≤ (m - 1)))))), (16, Xv 1 (!(!(decide (0 ≤ (((l.getD i default)).row) ∧ (((l.getD i default)).row) ≤ (m - 1))) || !(decide (0 ≤ (((l.getD i default)).col) ∧ (((l.getD i default)).col) ≤ (n - 1))))) X0), (17, Xv 1 (!(!(decide (0 ≤ (((l.getD i default)).row) ∧ (((l.getD i default)).row) ≤ (m - 1))) || !(decide (0 ≤ (((l.getD i default)).col) ∧ (((l.getD i default)).col) ≤ (n - 1))))) (Xc0 (fc_in (((l.getD i default)).ref) 0 1073741824) X0)), (18, Xv 1 (!(!(decide (0 ≤ (((l.getD i default)).row) ∧ (((l.getD i default)).row) ≤ (m - 1))) || !(decide (0 ≤ (((l.getD i default)).col) ∧ (((l.getD i default)).col) ≤ (n - 1))))) X0), (19, X (Xk' (!(decide (0 ≤ (((l.getD i default)).row) ∧ (((l.getD i default)).row) ≤ (m - 1))) || !(decide (0 ≤ (((l.getD i default)).col) ∧ (((l.getD i default)).col) ≤ (n - 1))))))]] ((!(decide (0 ≤ (((l.getD i default)).row) ∧ (((l.getD i default)).row) ≤ (m - 1))) || !(decide (0 ≤ (((l.getD i default)).col) ∧ (((l.getD i default)).col) ≤ (n - 1)))) || !(decide (0 ≤ (((l.getD i default)).ref) ∧ (((l.getD i default)).ref) ≤ 1073741824))) (fun h5 => ?_) (fun h5 => ?_)
  ·
   have e1 : ((cellsE l m n o 0) : Int) = 2 := by
    first | (rw [I2.2, hx]; ((repeat' split) <;> first | rfl | omega | (simp_all; done) | (simp_all; omega))) | (rw [I2.2, cellsE, if_neg (by omega)])
   exact .finE [.r []] [] (fun z0 : Int => (VI z0, [])) _ _ e1
  ·
   refine .bp [.r [(2, X (Xc0 (fc_cellText (((l.getD i default)).text) (by assumption)) X0))]] (!(textG (((l.getD i default)).text))) (fun h7 => ?_) (fun h7 => ?_)
   ·
    have e2 : ((cellsE l m n o 0) : Int) = 23 := by
     first | (rw [I2.2, hx]; ((repeat' split) <;> first | rfl | omega | (simp_all; done) | (simp_all; omega))) | (rw [I2.2, cellsE, if_neg (by omega)])
    exact .finE [.r []] [] (fun z0 : Int => (VI z0, [])) _ _ e2
   ·
    refine .bp [.r [(2, X (Xc0 (fc_attrsError (((l.getD i default)).attrs) false (by assumption)) X0))], .r []] ((errA false (((l.getD i default)).attrs) 0) != 0) (fun h10 => ?_) (fun h10 => ?_)
    ·
     have e3 : ((cellsE l m n o 0) : Int) = (errA false (((l.getD i default)).attrs) 0) := by
      first | (rw [I2.2, hx]; ((repeat' split) <;> first | rfl | omega | (simp_all; done) | (simp_all; omega))) | (rw [I2.2, cellsE, if_neg (by omega)])
     exact .finE [.r []] [] (fun z0 : Int => (VI z0, [])) _ _ e3
    ·
     refine .bp [.r [(4, Xv 1 (!o) (Xc0 (fc_emptyR ((l.getD i default))) X0)), (5, X (Xk (!o)))]] (!o && (emptyC ((l.getD i default)))) (fun h12 => ?_) (fun h12 => ?_)
     ·
      have e4 : ((cellsE l m n o 0) : Int) = 4 := by
       first | (rw [I2.2, hx]; ((repeat' split) <;> first | rfl | omega | (simp_all; done) | (simp_all; omega))) | (rw [I2.2, cellsE, if_neg (by omega)])
      exact .finE [.r []] [] (fun z0 : Int => (VI z0, [])) _ _ e4
     ·
      refine .bp [.r [(4, Xv 1 (decide ((i : Int) > 0)) X0), (7, Xv 1 (decide ((i : Int) > 0)) (Xn ((i : Int) - 1))), (8, Xv 2 (decide ((i : Int) > 0)) (Xi' cellT l ((i : Int) - 1) (i - 1))), (9, Xv 1 (decide ((i : Int) > 0)) X0), (10, Xv 1 (decide ((i : Int) > 0)) X0), (11, Xv 2 (decide ((i : Int) > 0)) X0), (12, Xv 1 (decide ((i : Int) > 0)) X0), (14, Xv 1 ((decide ((i : Int) > 0)) && !(decide ((((l.getD i default)).row) < (((l.getD (i - 1) default)).row)))) X0), (17, Xv 1 ((decide ((i : Int) > 0)) && !(decide ((((l.getD i default)).row) < (((l.getD (i - 1) default)).row)))) (Xn ((i : Int) - 1))), (18, Xv 2 ((decide ((i : Int) > 0)) && !(decide ((((l.getD i default)).row) < (((l.getD (i - 1) default)).row)))) (Xi' cellT l ((i : Int) - 1) (i - 1))), (19, Xv 1 ((decide ((i : Int) > 0)) && !(decide ((((l.getD i default)).row) < (((l.getD (i - 1) default)).row)))) X0), (20, Xv 1 ((decide ((i : Int) > 0)) && !(decide ((((l.getD i default)).row) < (((l.getD (i - 1) default)).row)))) X0), (21, Xv 2 ((decide ((i : Int) > 0)) && !(decide ((((l.getD i default)).row) < (((l.getD (i - 1) default)).row)))) X0), (22, Xv 1 ((decide ((i : Int) > 0)) && !(decide ((((l.getD i default)).row) < (((l.getD (i - 1) default)).row)))) X0), (24, Xv 1 (((decide ((i : Int) > 0)) && !(decide ((((l.getD i default)).row) < (((l.getD (i - 1) default)).row)))) && ((((l.getD i default)).row) == (((l.getD (i - 1) default)).row))) X0), (27, Xv 1 (((decide ((i : Int) > 0)) && !(decide ((((l.getD i default)).row) < (((l.getD (i - 1) default)).row)))) && ((((l.getD i default)).row) == (((l.getD (i - 1) default)).row))) (Xn ((i : Int) - 1))), (28, Xv 2 (((decide ((i : Int) > 0)) && !(decide ((((l.getD i default)).row) < (((l.getD (i - 1) default)).row)))) && ((((l.getD i default)).row) == (((l.getD (i - 1) default)).row))) (Xi' cellT l ((i : Int) - 1) (i - 1))), (29, Xv 1 (((decide ((i : Int) > 0)) && !(decide ((((l.getD i default)).row) < (((l.getD (i - 1) default)).row)))) && ((((l.getD i default)).row) == (((l.getD (i - 1) default)).row))) X0), (30, Xv 1 (((decide ((i : Int) > 0)) && !(decide ((((l.getD i default)).row) < (((l.getD (i - 1) default)).row)))) && ((((l.getD i default)).row) == (((l.getD (i - 1) default)).row))) X0), (31, Xv 2 (((decide ((i : Int) > 0)) && !(decide ((((l.getD i default)).row) < (((l.getD (i - 1) default)).row)))) && ((((l.getD i default)).row) == (((l.getD (i - 1) default)).row))) X0), (32, Xka ((decide ((i : Int) > 0)) && !(decide ((((l.getD i default)).row) < (((l.getD (i - 1) default)).row)))) ((((l.getD i default)).row) == (((l.getD (i - 1) default)).row))), (33, Xko (decide ((i : Int) > 0)) (decide ((((l.getD i default)).row) < (((l.getD (i - 1) default)).row)))), (34, X (Xk (decide ((i : Int) > 0))))]] (decide ((i : Int) > 0) && (decide ((((l.getD i default)).row) < (((l.getD (i - 1) default)).row)) || (((((l.getD i default)).row) == (((l.getD (i - 1) default)).row)) && decide ((((l.getD i default)).col) ≤ (((l.getD (i - 1) default)).col))))) (fun h14 => ?_) (fun h14 => ?_)
      ·
       have e5 : ((cellsE l m n o 0) : Int) = 5 := by
        first | (rw [I2.2, hx]; ((repeat' split) <;> first | rfl | omega | (simp_all; done) | (simp_all; omega))) | (rw [I2.2, cellsE, if_neg (by omega)])
       exact .finE [.r []] [] (fun z0 : Int => (VI z0, [])) _ _ e5
      ·
       refine .back [.r [(0, X (Xn ((i : Int) + 1)))]] [] (ih2 ((i + 1) : Nat) ?_ ?_)
       ·
        refine ⟨by omega, ?_⟩
        rw [I2.2, hx]
        ((repeat' split) <;> first | rfl | omega | (simp_all; done) | (simp_all; omega))
       ·
        ((try dsimp only); omega)
 ·
  have e6 : ((cellsE l m n o 0) : Int) = 0 := by
   first | (rw [I2.2, hx]; ((repeat' split) <;> first | rfl | omega | (simp_all; done) | (simp_all; omega))) | (rw [I2.2, cellsE, if_neg (by omega)])
  exact .finE [.r []] [] (fun z0 : Int => (VI z0, [])) _ _ e6
end Go.Ch
end
section
set_option linter.unusedVariables false
set_option linter.unusedSimpArgs false
set_option maxRecDepth 100000
set_option maxHeartbeats 4000000
open Go Go.Proofs Go.Ab
namespace Go.Ch
theorem fc_chk1 (q : Rect) (a b c d : Int) (hq : RB q) (hr : RB ⟨a, b, c, d⟩) : FC Tryz.prog 124 [.t (rectT q), .ptr 0 0] (app emp [(0, .box [VI a, VI b, VI c, VI d])]) (VB (meetB q ⟨a, b, c, d⟩)) (app emp [(0, .box [VI a, VI b, VI c, VI d])]) := by
 refine .go Tryz.f124 ?_
 have e1 : ((meetB q ⟨a, b, c, d⟩) : Bool) = (meetB q ({ row := a, col := b, h := c, w := d } : Rect)) := by
  rfl
 exact .finE [.r [], .r [(2, X (Xc0 (fc_meets q ({ row := a, col := b, h := c, w := d } : Rect) (by assumption) (by assumption)) X0))]] [(0, 0)] (fun z0 : Bool => (VB z0, [(0, .box [VI a, VI b, VI c, VI d])])) _ _ e1

theorem fc_idxF_chk (l : List Rect) (a b c d : Int) (hl : AllRB l) (hr : RB ⟨a, b, c, d⟩) : FC Tryz.prog 158 [VL 4 rectT l, .fn 124 [.ptr 0 0]] (app emp [(0, .box [VI a, VI b, VI c, VI d])]) (VI (idxF (fun q => meetB q ⟨a, b, c, d⟩) l 0)) (app emp [(0, .box [VI a, VI b, VI c, VI d])]) := by
 refine .go Tryz.f158 ?_
 refine .len 0 (fun hl0 => ?_)
 refine .loop (α := Nat) [.r [], .r [(1, X (Xl rectT l))]] 33 (fun i => ([(0, VL 4 rectT l), (1, .fn 124 [.ptr 0 0]), (7, VI (l.length : Int)), (8, VI (i : Int))], [(0, .box [VI a, VI b, VI c, VI d])])) (fun i => i ≤ l.length ∧ idxF (fun q => meetB q ⟨a, b, c, d⟩) l 0 = idxF (fun q => meetB q ⟨a, b, c, d⟩) l i) (fun i => l.length - i) (0 : Nat) ?_ ?_
 ·
  exact ⟨by omega, rfl⟩
 rintro i I2 ih2
 try dsimp only at I2
 refine .bp [.r []] (decide ((i : Int) < (l.length : Int))) (fun h2 => ?_) (fun h2 => ?_)
 ·
  have hm := hl _ (getDX_mem (l := l) (i := i) (by omega))
  refine .bp [.r [], .r [(3, X (Xi rectT l (i : Int))), (5, X (Xc3 97 [(0, 0)] (fc_chk1 ((l.getD i default)) a b c d (by assumption) (by assumption)) X0))]] (meetB ((l.getD i default)) ⟨a, b, c, d⟩) (fun h4 => ?_) (fun h4 => ?_)
  ·
   have e1 : ((idxF (fun q => meetB q ⟨a, b, c, d⟩) l 0) : Int) = (i : Int) := by
    rw [I2.2, idxF, if_pos (by omega), if_pos h4]
   exact .finE [.r []] [(0, 0)] (fun z0 : Int => (VI z0, [(0, .box [VI a, VI b, VI c, VI d])])) _ _ e1
  ·
   refine .back [.r [(0, X (Xn ((i : Int) + 1)))]] [(0, 0)] (ih2 ((i + 1) : Nat) ?_ ?_)
   ·
    refine ⟨by omega, ?_⟩
    rw [I2.2, idxF, if_pos (by omega), if_neg (by rw [h4]; decide)]
   ·
    ((try dsimp only); omega)
 ·
  have e2 : ((idxF (fun q => meetB q ⟨a, b, c, d⟩) l 0) : Int) = -1 := by
   rw [I2.2, idxF, if_neg (by omega)]
  exact .finE [.r []] [(0, 0)] (fun z0 : Int => (VI z0, [(0, .box [VI a, VI b, VI c, VI d])])) _ _ e2

theorem fc_anyF (l : List Rect) (a b c d : Int) (hl : AllRB l) (hr : RB ⟨a, b, c, d⟩) : FC Tryz.prog 123 [VL 4 rectT l, .fn 124 [.ptr 0 0]] (app emp [(0, .box [VI a, VI b, VI c, VI d])]) (VB (anyM l ⟨a, b, c, d⟩)) (app emp [(0, .box [VI a, VI b, VI c, VI d])]) := by
 refine .go Tryz.f123 ?_
 refine .len 0 (fun hl0 => ?_)
 have e1 : ((anyM l ⟨a, b, c, d⟩) : Bool) = decide ((idxF (fun q => meetB q ⟨a, b, c, d⟩) l 0) ≥ 0) := by
  unfold anyM; rw [Bool.eq_iff_iff, decide_eq_true_eq, ge_iff_le, idxF_any]
 exact .finE [.r [], .r [(2, X (Xc3 25 [(0, 0)] (fc_idxF_chk l a b c d (by assumption) (by assumption)) X0))]] [(0, 0)] (fun z0 : Bool => (VB z0, [(0, .box [VI a, VI b, VI c, VI d])])) _ _ e1
end Go.Ch
end
section
set_option linter.unusedVariables false
set_option linter.unusedSimpArgs false
set_option maxRecDepth 100000
set_option maxHeartbeats 4000000
open Go Go.Proofs Go.Ab
namespace Go.Ch
theorem fc_gcheck (x : Grid) (hl : x.merges.length ≤ 100000000000) : FC Tryz.prog 88 [.t (gridT x)] (app emp []) (VI (gridE x)) (app emp []) := by
 refine .go Tryz.f88 ?_
 refine .bp [.r [], .r [(5, Xv 1 (!(decide (x.rows < 0))) X0), (6, Xv 1 (!(decide (x.rows < 0))) X0), (7, X (Xk' (decide (x.rows < 0)))), (10, Xv 1 (!(decide (x.rows < 0) || decide (x.rows > 2147483647))) X0), (11, Xv 1 (!(decide (x.rows < 0) || decide (x.rows > 2147483647))) X0), (12, X (Xk' (decide (x.rows < 0) || decide (x.rows > 2147483647)))), (15, Xv 1 (!((decide (x.rows < 0) || decide (x.rows > 2147483647)) || decide (x.cols < 0))) X0), (16, Xv 1 (!((decide (x.rows < 0) || decide (x.rows > 2147483647)) || decide (x.cols < 0))) X0), (17, X (Xk' ((decide (x.rows < 0) || decide (x.rows > 2147483647)) || decide (x.cols < 0))))]] (((decide (x.rows < 0) || decide (x.rows > 2147483647)) || decide (x.cols < 0)) || decide (x.cols > 2147483647)) (fun h1 => ?_) (fun h1 => ?_)
 ·
  have e1 : ((gridE x) : Int) = 2 := by
   unfold gridE; rw [if_pos (by omega)]
  exact .finE [.r []] [] (fun z0 : Int => (VI z0, [])) _ _ e1
 ·
  refine .bp [.r [(6, X (Xc0 (fc_cells x.cells x.rows x.cols false) X0))], .r []] ((cellsE x.cells x.rows x.cols false 0) != 0) (fun h4 => ?_) (fun h4 => ?_)
  ·
   have e2 : ((gridE x) : Int) = (cellsE x.cells x.rows x.cols false 0) := by
    unfold gridE; rw [if_neg (by omega), if_pos (by omega)]
   exact .finE [.r []] [] (fun z0 : Int => (VI z0, [])) _ _ e2
  ·
   refine .loop (α := Nat) [.r [(2, X (Xl rectT x.merges))]] 272 (fun i => ([(1, .ptr 0 0), (35, VL 4 rectT x.merges), (36, VI (x.merges.length : Int)), (37, VI (i : Int))], [(0, .box [VI x.rows, VI x.cols, VL 5 cellT x.cells, VL 4 rectT x.merges])])) (fun i => i ≤ x.merges.length ∧ mergE x.merges x.rows x.cols 0 = mergE x.merges x.rows x.cols i ∧ InsTo x.merges x.rows x.cols i) (fun i => x.merges.length - i) (0 : Nat) ?_ ?_
   ·
    exact ⟨by omega, rfl, fun k hk => absurd hk (by omega)⟩
   rintro i I7 ih7
   try dsimp only at I7
   refine .bp [.r []] (decide ((i : Int) < (x.merges.length : Int))) (fun h7 => ?_) (fun h7 => ?_)
   ·
    have hx : mergE x.merges x.rows x.cols i = _ := mergE.eq_1 x.merges x.rows x.cols i
    rw [if_pos (by omega)] at hx
    refine .bp [.r [(1, X (Xi rectT x.merges (i : Int)))], .r [(5, X (Xc0 (fc_inside ((x.merges.getD i default)) x.rows x.cols (by omega)) X0))]] (!(insB ((x.merges.getD i default)) x.rows x.cols)) (fun h9 => ?_) (fun h9 => ?_)
    ·
     rw [if_pos h9] at hx
     have e3 : ((gridE x) : Int) = 2 := by
      unfold gridE; rw [if_neg (by omega), if_neg (by omega), I7.2.1, hx]
      
     exact .finE [.r []] [] (fun z0 : Int => (VI z0, [])) _ _ e3
    ·
     rw [if_neg (by rw [h9]; decide)] at hx
     refine .bp [.r [(5, Xv 1 ((((x.merges.getD i default)).h) == 1) X0), (6, Xv 1 ((((x.merges.getD i default)).h) == 1) X0), (7, X (Xk ((((x.merges.getD i default)).h) == 1)))]] (((((x.merges.getD i default)).h) == 1) && ((((x.merges.getD i default)).w) == 1)) (fun h11 => ?_) (fun h11 => ?_)
     ·
      rw [if_pos (by omega)] at hx
      have e4 : ((gridE x) : Int) = 4 := by
       unfold gridE; rw [if_neg (by omega), if_neg (by omega), I7.2.1, hx]
       
      exact .finE [.r []] [] (fun z0 : Int => (VI z0, [])) _ _ e4
     ·
      rw [if_neg (by omega)] at hx
      refine .bp [.r [(4, Xv 1 (decide ((i : Int) > 0)) X0), (6, Xv 1 (decide ((i : Int) > 0)) (Xn ((i : Int) - 1))), (7, Xv 2 (decide ((i : Int) > 0)) (Xi' rectT x.merges ((i : Int) - 1) (i - 1))), (8, Xv 1 (decide ((i : Int) > 0)) X0), (10, Xv 2 (decide ((i : Int) > 0)) (Xc0 (fc_before ((x.merges.getD (i - 1) default)) ((x.merges.getD i default))) X0)), (11, Xv 1 (decide ((i : Int) > 0)) X0), (12, X (Xk (decide ((i : Int) > 0))))]] (decide ((i : Int) > 0) && !(befB ((x.merges.getD (i - 1) default)) ((x.merges.getD i default)))) (fun h13 => ?_) (fun h13 => ?_)
      ·
       rw [if_pos ⟨by omega, h13.2⟩] at hx
       have e5 : ((gridE x) : Int) = 5 := by
        unfold gridE; rw [if_neg (by omega), if_neg (by omega), I7.2.1, hx]
        
       exact .finE [.r []] [] (fun z0 : Int => (VI z0, [])) _ _ e5
      ·
       rw [if_neg (fun q => by have q1 := q.1; rcases h13 with h | h; (omega); (rw [q.2] at h; cases h))] at hx
       have hall := I7.2.2.all (by omega) (by omega) (by omega)
       have hrb := RB_ins h9 (by omega) (by omega)
       refine .bp [.r [(3, X (Xst rectT 4 x.merges (i : Int))), (5, X (Xc3 616 [(0, 304)] (fc_anyF (x.merges.take i) (((x.merges.getD i default)).row) (((x.merges.getD i default)).col) (((x.merges.getD i default)).h) (((x.merges.getD i default)).w) (by assumption) (by assumption)) X0))]] (anyM (x.merges.take i) ⟨(((x.merges.getD i default)).row), (((x.merges.getD i default)).col), (((x.merges.getD i default)).h), (((x.merges.getD i default)).w)⟩) (fun h15 => ?_) (fun h15 => ?_)
       ·
        rw [if_pos h15] at hx
        have e6 : ((gridE x) : Int) = 21 := by
         unfold gridE; rw [if_neg (by omega), if_neg (by omega), I7.2.1, hx]
         
        exact .finE [.r []] [] (fun z0 : Int => (VI z0, [])) _ _ e6
       ·
        rw [if_neg (by rw [h15]; decide)] at hx
        refine .back [.r [(0, X (Xn ((i : Int) + 1)))]] [(0, 0)] (ih7 ((i + 1) : Nat) ?_ ?_)
        ·
         exact ⟨by omega, by rw [I7.2.1, hx], I7.2.2.succ h9⟩
        ·
         ((try dsimp only); omega)
   ·
    have e7 : ((gridE x) : Int) = 0 := by
     unfold gridE; rw [if_neg (by omega), if_neg (by omega), I7.2.1, mergE, if_neg (by omega)]
    exact .finE [.r []] [] (fun z0 : Int => (VI z0, [])) _ _ e7

theorem fc_gridError (x : Grid) (hl : x.merges.length ≤ 100000000000) (hz : SzC x.cells) : FC Tryz.prog 68 [.t (gridT x)] (app emp []) (VI (gridE x)) (app emp []) := by
 refine .go Tryz.f68 ?_
 refine .bp [.r [], .r [(2, X (Xc0 (fc_in x.rows 0 2147483647) X0)), (6, Xv 1 (!(!(decide (0 ≤ x.rows ∧ x.rows ≤ 2147483647)))) X0), (7, Xv 1 (!(!(decide (0 ≤ x.rows ∧ x.rows ≤ 2147483647)))) (Xc0 (fc_in x.cols 0 2147483647) X0)), (8, Xv 1 (!(!(decide (0 ≤ x.rows ∧ x.rows ≤ 2147483647)))) X0), (9, X (Xk' (!(decide (0 ≤ x.rows ∧ x.rows ≤ 2147483647)))))]] (!(decide (0 ≤ x.rows ∧ x.rows ≤ 2147483647)) || !(decide (0 ≤ x.cols ∧ x.cols ≤ 2147483647))) (fun h1 => ?_) (fun h1 => ?_)
 ·
  have e1 : ((gridE x) : Int) = 2 := by
   unfold gridE; rw [if_pos (by omega)]
  exact .finE [.r []] [] (fun z0 : Int => (VI z0, [])) _ _ e1
 ·
  refine .bp [.r [(6, X (Xc0 (fc_cellsE x.cells x.rows x.cols false (by assumption) (by omega) (by omega)) X0))], .r []] ((cellsE x.cells x.rows x.cols false 0) != 0) (fun h4 => ?_) (fun h4 => ?_)
  ·
   have e2 : ((gridE x) : Int) = (cellsE x.cells x.rows x.cols false 0) := by
    unfold gridE; rw [if_neg (by omega), if_pos (by omega)]
   exact .finE [.r []] [] (fun z0 : Int => (VI z0, [])) _ _ e2
  ·
   refine .loop (α := Nat) [.r [(2, X (Xl rectT x.merges))]] 208 (fun i => ([(1, .ptr 0 0), (29, VI (x.merges.length : Int)), (30, VI (i : Int))], [(0, .box [VI x.rows, VI x.cols, VL 5 cellT x.cells, VL 4 rectT x.merges])])) (fun i => i ≤ x.merges.length ∧ mergE x.merges x.rows x.cols 0 = mergE x.merges x.rows x.cols i ∧ InsTo x.merges x.rows x.cols i) (fun i => x.merges.length - i) (0 : Nat) ?_ ?_
   ·
    exact ⟨by omega, rfl, fun k hk => absurd hk (by omega)⟩
   rintro i I7 ih7
   try dsimp only at I7
   refine .bp [.r []] (decide ((i : Int) < (x.merges.length : Int))) (fun h7 => ?_) (fun h7 => ?_)
   ·
    have hx : mergE x.merges x.rows x.cols i = _ := mergE.eq_1 x.merges x.rows x.cols i
    rw [if_pos (by omega)] at hx
    have hsh : ∀ q r : Rect, insB q x.rows x.cols = true → insB r x.rows x.cols = true → shareB r q = meetB q r := fun q r a b => by (have u := insB_iff.1 a; have v := insB_iff.1 b; rw [share_eq (by omega) (by omega) (by omega) (by omega), meetB_comm])
    refine .bp [.r [], .r [(3, X (Xi rectT x.merges (i : Int)))], .r [(5, X (Xc0 (fc_lies ((x.merges.getD i default)) x.rows x.cols (by omega)) X0))]] (!(insB ((x.merges.getD i default)) x.rows x.cols)) (fun h10 => ?_) (fun h10 => ?_)
    ·
     rw [if_pos h10] at hx
     have e3 : ((gridE x) : Int) = 2 := by
      unfold gridE; rw [if_neg (by omega), if_neg (by omega), I7.2.1, hx]
      
     exact .finE [.r []] [] (fun z0 : Int => (VI z0, [])) _ _ e3
    ·
     rw [if_neg (by rw [h10]; decide)] at hx
     refine .bp [.r [(5, Xv 1 ((((x.merges.getD i default)).h) == 1) X0), (6, Xv 1 ((((x.merges.getD i default)).h) == 1) X0), (7, X (Xk ((((x.merges.getD i default)).h) == 1)))]] (((((x.merges.getD i default)).h) == 1) && ((((x.merges.getD i default)).w) == 1)) (fun h12 => ?_) (fun h12 => ?_)
     ·
      rw [if_pos (by omega)] at hx
      have e4 : ((gridE x) : Int) = 4 := by
       unfold gridE; rw [if_neg (by omega), if_neg (by omega), I7.2.1, hx]
       
      exact .finE [.r []] [] (fun z0 : Int => (VI z0, [])) _ _ e4
     ·
      rw [if_neg (by omega)] at hx
      refine .bp [.r [(4, Xv 1 (decide ((i : Int) > 0)) X0), (6, Xv 1 (decide ((i : Int) > 0)) X0), (8, Xv 1 (decide ((i : Int) > 0)) (Xn ((i : Int) - 1))), (9, Xv 2 (decide ((i : Int) > 0)) (Xi' rectT x.merges ((i : Int) - 1) (i - 1))), (10, Xv 1 (decide ((i : Int) > 0)) X0), (11, Xv 1 (decide ((i : Int) > 0)) X0), (12, Xv 2 (decide ((i : Int) > 0)) X0), (13, Xv 1 (decide ((i : Int) > 0)) X0), (15, Xv 1 ((decide ((i : Int) > 0)) && !(decide ((((x.merges.getD i default)).row) < (((x.merges.getD (i - 1) default)).row)))) X0), (17, Xv 1 ((decide ((i : Int) > 0)) && !(decide ((((x.merges.getD i default)).row) < (((x.merges.getD (i - 1) default)).row)))) X0), (19, Xv 1 ((decide ((i : Int) > 0)) && !(decide ((((x.merges.getD i default)).row) < (((x.merges.getD (i - 1) default)).row)))) (Xn ((i : Int) - 1))), (20, Xv 2 ((decide ((i : Int) > 0)) && !(decide ((((x.merges.getD i default)).row) < (((x.merges.getD (i - 1) default)).row)))) (Xi' rectT x.merges ((i : Int) - 1) (i - 1))), (21, Xv 1 ((decide ((i : Int) > 0)) && !(decide ((((x.merges.getD i default)).row) < (((x.merges.getD (i - 1) default)).row)))) X0), (22, Xv 1 ((decide ((i : Int) > 0)) && !(decide ((((x.merges.getD i default)).row) < (((x.merges.getD (i - 1) default)).row)))) X0), (23, Xv 2 ((decide ((i : Int) > 0)) && !(decide ((((x.merges.getD i default)).row) < (((x.merges.getD (i - 1) default)).row)))) X0), (24, Xv 1 ((decide ((i : Int) > 0)) && !(decide ((((x.merges.getD i default)).row) < (((x.merges.getD (i - 1) default)).row)))) X0), (26, Xv 1 (((decide ((i : Int) > 0)) && !(decide ((((x.merges.getD i default)).row) < (((x.merges.getD (i - 1) default)).row)))) && ((((x.merges.getD i default)).row) == (((x.merges.getD (i - 1) default)).row))) X0), (28, Xv 1 (((decide ((i : Int) > 0)) && !(decide ((((x.merges.getD i default)).row) < (((x.merges.getD (i - 1) default)).row)))) && ((((x.merges.getD i default)).row) == (((x.merges.getD (i - 1) default)).row))) X0), (30, Xv 1 (((decide ((i : Int) > 0)) && !(decide ((((x.merges.getD i default)).row) < (((x.merges.getD (i - 1) default)).row)))) && ((((x.merges.getD i default)).row) == (((x.merges.getD (i - 1) default)).row))) (Xn ((i : Int) - 1))), (31, Xv 2 (((decide ((i : Int) > 0)) && !(decide ((((x.merges.getD i default)).row) < (((x.merges.getD (i - 1) default)).row)))) && ((((x.merges.getD i default)).row) == (((x.merges.getD (i - 1) default)).row))) (Xi' rectT x.merges ((i : Int) - 1) (i - 1))), (32, Xv 1 (((decide ((i : Int) > 0)) && !(decide ((((x.merges.getD i default)).row) < (((x.merges.getD (i - 1) default)).row)))) && ((((x.merges.getD i default)).row) == (((x.merges.getD (i - 1) default)).row))) X0), (33, Xv 1 (((decide ((i : Int) > 0)) && !(decide ((((x.merges.getD i default)).row) < (((x.merges.getD (i - 1) default)).row)))) && ((((x.merges.getD i default)).row) == (((x.merges.getD (i - 1) default)).row))) X0), (34, Xv 2 (((decide ((i : Int) > 0)) && !(decide ((((x.merges.getD i default)).row) < (((x.merges.getD (i - 1) default)).row)))) && ((((x.merges.getD i default)).row) == (((x.merges.getD (i - 1) default)).row))) X0), (35, Xka ((decide ((i : Int) > 0)) && !(decide ((((x.merges.getD i default)).row) < (((x.merges.getD (i - 1) default)).row)))) ((((x.merges.getD i default)).row) == (((x.merges.getD (i - 1) default)).row))), (36, Xko (decide ((i : Int) > 0)) (decide ((((x.merges.getD i default)).row) < (((x.merges.getD (i - 1) default)).row)))), (37, X (Xk (decide ((i : Int) > 0))))]] (decide ((i : Int) > 0) && (decide ((((x.merges.getD i default)).row) < (((x.merges.getD (i - 1) default)).row)) || (((((x.merges.getD i default)).row) == (((x.merges.getD (i - 1) default)).row)) && decide ((((x.merges.getD i default)).col) ≤ (((x.merges.getD (i - 1) default)).col))))) (fun h14 => ?_) (fun h14 => ?_)
      ·
       rw [if_pos ⟨by omega, bef_f.2 h14.2⟩] at hx
       have e5 : ((gridE x) : Int) = 5 := by
        unfold gridE; rw [if_neg (by omega), if_neg (by omega), I7.2.1, hx]
        
       exact .finE [.r []] [] (fun z0 : Int => (VI z0, [])) _ _ e5
      ·
       rw [if_neg (fun q => by have q1 := q.1; have q2 := bef_f.1 q.2; omega)] at hx
       have hrb := RB_ins h10 (by omega) (by omega)
       refine .loop (α := Nat) [.r []] 728 (fun j => ([(1, .ptr 0 0), (5, .ptr 272 0), (29, VI (x.merges.length : Int)), (30, VI (i : Int)), (91, VI (i : Int)), (92, VI (j : Int))], [(0, .box [VI x.rows, VI x.cols, VL 5 cellT x.cells, VL 4 rectT x.merges]), (272, .box [VI (((x.merges.getD i default)).row), VI (((x.merges.getD i default)).col), VI (((x.merges.getD i default)).h), VI (((x.merges.getD i default)).w)])])) (fun j => j ≤ i ∧ ∀ k, k < j → meetB (x.merges.getD k default) (x.merges.getD i default) = false) (fun j => i - j) (0 : Nat) ?_ ?_
       ·
        exact ⟨by omega, fun k hk => absurd hk (by omega)⟩
       rintro j I17 ih17
       try dsimp only at I17
       refine .bp [.r []] (decide ((j : Int) < (i : Int))) (fun h17 => ?_) (fun h17 => ?_)
       ·
        have hk := I7.2.2 j (by omega)
        have hrk := RB_ins hk (by omega) (by omega)
        have hse := hsh _ _ hk h10
        refine .bp [.r [], .r [(4, X (Xi rectT x.merges (j : Int))), (6, X (Xc0 (fc_share ((x.merges.getD i default)) ((x.merges.getD j default)) (by assumption) (by assumption)) X0))]] (shareB ((x.merges.getD i default)) ((x.merges.getD j default))) (fun h19 => ?_) (fun h19 => ?_)
        ·
         rw [if_pos (anyM_take.2 ⟨j, by omega, by omega, by rw [← hse]; exact h19⟩)] at hx
         have e6 : ((gridE x) : Int) = 21 := by
          unfold gridE; rw [if_neg (by omega), if_neg (by omega), I7.2.1, hx]
          
         exact .finE [.r []] [] (fun z0 : Int => (VI z0, [])) _ _ e6
        ·
         refine .back [.r [(0, X (Xn ((j : Int) + 1)))]] [(0, 0), (272, 272)] (ih17 ((j + 1) : Nat) ?_ ?_)
         ·
          refine ⟨by omega, fun k hk => ?_⟩
          by_cases e : k = j
          · rw [e, ← hse]; exact h19
          · exact I17.2 k (by omega)
         ·
          ((try dsimp only); omega)
       ·
        rw [if_neg (fun q => by obtain ⟨k, k1, k2, k3⟩ := anyM_take.1 q; rw [I17.2 k (by omega)] at k3; cases k3)] at hx
        refine .back [.r [(0, X (Xn ((i : Int) + 1)))]] [(0, 0)] (ih7 ((i + 1) : Nat) ?_ ?_)
        ·
         exact ⟨by omega, by rw [I7.2.1, hx], I7.2.2.succ h10⟩
        ·
         ((try dsimp only); omega)
   ·
    have e7 : ((gridE x) : Int) = 0 := by
     unfold gridE; rw [if_neg (by omega), if_neg (by omega), I7.2.1, mergE, if_neg (by omega)]
    exact .finE [.r []] [] (fun z0 : Int => (VI z0, [])) _ _ e7
end Go.Ch
end
section
set_option linter.unusedVariables false
namespace Go.Ch
open Go Go.Ab

structure Node where
  id : Int
  kind : Int
  attrs : List Attr
  flow : List Elem
  grid : Grid
  draw : List DOp
instance : Inhabited Node := ⟨⟨0, 0, [], [], default, []⟩⟩
def nodeT (n : Node) : Tree := .agg [TI n.id, TI n.kind, .lst 2 (n.attrs.map attrT), .lst 3 (n.flow.map elemT), TI n.grid.rows, TI n.grid.cols, .lst 5 (n.grid.cells.map cellT), .lst 4 (n.grid.merges.map rectT), .lst 8 (n.draw.map dopT)]
structure Doc where
  nodes : List Node
instance : Inhabited Doc := ⟨⟨[]⟩⟩
def docT (d : Doc) : Tree := .agg [.lst 9 (d.nodes.map nodeT)]

/-! ### Kinds -/
def hasT (k : Int) : Bool := ((k == 1 || k == 3) || k == 4) || k == 12
def hasL (k : Int) : Bool := k == 0 || k == 7
def hasG (k : Int) : Bool := k == 2 || k == 6
def hasD (k : Int) : Bool := (k == 8 || k == 9) || k == 10
def zeroG (g : Grid) : Bool := ((g.rows == 0 && g.cols == 0) && (g.cells.length : Int) == 0) && (g.merges.length : Int) == 0
/-- Whether a node of kind p can refer to one of kind k. -/
def permB (p k : Int) : Bool :=
  if k = 1 ∨ k = 6 ∨ k = 7 ∨ k = 11 ∨ k = 12 then p == 0
  else if k = 10 then (p == 0 || p == 1) || p == 3
  else if k = 2 then p == 1
  else if k = 4 then p == 1 || p == 3
  else if k = 5 then hasT p
  else if k = 3 then p == 2
  else if k = 8 ∨ k = 9 then p == 7
  else false

/-! ### The error of a node -/
def flowX (t : Bool) (f : List Elem) (i : Nat) : Int :=
  if i < f.length then
    (if elemE (f.getD i default) ≠ 0 then elemE (f.getD i default) else if t = false ∧ (f.getD i default).ref = 0 then 8 else flowX t f (i + 1))
  else 0
termination_by f.length - i
def flowZ (t : Bool) (f : List Elem) : Int :=
  if flowX t f 0 ≠ 0 then flowX t f 0 else if t = true ∧ (f.length = 0 ∨ (f.getD (f.length - 1) default).char ≠ 10) then 11 else 0
theorem flowX_bad {t : Bool} {f : List Elem} {i : Nat} (h : i < f.length) (he : elemE (f.getD i default) ≠ 0) : flowX t f i = elemE (f.getD i default) := by rw [flowX, if_pos h, if_pos he]
theorem flowX_kind {t : Bool} {f : List Elem} {i : Nat} (h : i < f.length) (he : elemE (f.getD i default) = 0) (hk : t = false ∧ (f.getD i default).ref = 0) : flowX t f i = 8 := by rw [flowX, if_pos h, if_neg (fun q => q he), if_pos hk]
theorem flowX_next {t : Bool} {f : List Elem} {i : Nat} (h : i < f.length) (he : elemE (f.getD i default) = 0) (hk : t = true ∨ (f.getD i default).ref ≠ 0) : flowX t f i = flowX t f (i + 1) := by
  rw [flowX, if_pos h, if_neg (fun q => q he), if_neg]
  rintro ⟨a, b⟩; rcases hk with q | q
  · rw [a] at q; cases q
  · exact q b
theorem flowX_end {t : Bool} {f : List Elem} {i : Nat} (h : ¬ i < f.length) : flowX t f i = 0 := by rw [flowX, if_neg h]
theorem flowZ_bad {t : Bool} {f : List Elem} {e : Int} (h : flowX t f 0 = e) (he : e ≠ 0) : flowZ t f = e := by unfold flowZ; rw [h, if_pos he]
theorem flowZ_end {t : Bool} {f : List Elem} (h : flowX t f 0 = 0) : flowZ t f = if t = true ∧ (f.length = 0 ∨ (f.getD (f.length - 1) default).char ≠ 10) then 11 else 0 := by unfold flowZ; rw [h, if_neg (fun q => q rfl)]
theorem elem_cr {x : Elem} (h : elemE x = 0) : x.char ≠ 0 ↔ x.ref = 0 := by
  have hc : ¬ (x.char = 0 ↔ x.ref = 0) := fun q => by rw [elemE_4 q] at h; exact absurd h (by decide)
  constructor
  · intro a; exact Classical.byContradiction fun b => hc ⟨fun q => absurd q a, fun q => absurd q b⟩
  · intro a b; exact hc ⟨fun _ => a, fun _ => b⟩
def cellK (k : Int) (l : List Cell) (i : Nat) : Int :=
  if i < l.length then
    (if (k = 2 ∧ (seq (l.getD i default).text { data := #[] } = false ∨ 0 < (l.getD i default).attrs.length)) ∨ (k = 6 ∧ (l.getD i default).ref ≠ 0) then 4 else cellK k l (i + 1))
  else 0
termination_by l.length - i
def nodeE (n : Node) : Int :=
  if n.id < 1 ∨ 1073741824 < n.id then 2
  else if n.kind < 0 ∨ 12 < n.kind ∨ (n.id = 1 ∧ n.kind ≠ 0) ∨ (n.id ≠ 1 ∧ n.kind = 0) then 8
  else if chkA false n.attrs 0 ≠ 0 then chkA false n.attrs 0
  else if (0 < n.flow.length ∧ hasT n.kind = false ∧ hasL n.kind = false) ∨ (zeroG n.grid = false ∧ hasG n.kind = false) ∨ (0 < n.draw.length ∧ hasD n.kind = false) then 4
  else if hasT n.kind = true ∨ hasL n.kind = true then flowZ (hasT n.kind) n.flow
  else if hasG n.kind = true then (if gridE n.grid ≠ 0 then gridE n.grid else cellK n.kind n.grid.cells 0)
  else drawE n.draw 0

/-! ### References -/
def findD (l : List Node) (k : Int) (i : Nat) : Int := if i < l.length then (if (l.getD i default).id = k then (i : Int) else findD l k (i + 1)) else -1
termination_by l.length - i
def refsF (f : List Elem) : List Int := f.filterMap fun x => if x.ref ≠ 0 then some x.ref else none
def refsC (l : List Cell) : List Int := l.filterMap fun x => if x.ref ≠ 0 then some x.ref else none
def refsN (n : Node) : List Int := refsF n.flow ++ refsC n.grid.cells
def refsE (l : List Node) (k : Int) (rs : List Int) (i : Nat) : Int :=
  if i < rs.length then
    (if findD l (rs.getD i default) 0 < 0 then 7
     else if permB k (l.getD (findD l (rs.getD i default) 0).toNat default).kind = false then 8
     else refsE l k rs (i + 1))
  else 0
termination_by rs.length - i

/-! ### The error of a document -/
def nodesE (l : List Node) (i : Nat) : Int :=
  if i < l.length then
    (if nodeE (l.getD i default) ≠ 0 then nodeE (l.getD i default)
     else if (i = 0 ∧ (l.getD 0 default).id ≠ 1) ∨ (0 < i ∧ (l.getD i default).id ≤ (l.getD (i - 1) default).id) then 5
     else nodesE l (i + 1))
  else 0
termination_by l.length - i
def allRefsE (l : List Node) (i : Nat) : Int :=
  if i < l.length then
    (if refsE l (l.getD i default).kind (refsN (l.getD i default)) 0 ≠ 0 then refsE l (l.getD i default).kind (refsN (l.getD i default)) 0 else allRefsE l (i + 1))
  else 0
termination_by l.length - i
def docE (d : Doc) : Int :=
  if d.nodes.length = 0 then 11
  else if nodesE d.nodes 0 ≠ 0 then nodesE d.nodes 0
  else allRefsE d.nodes 0

theorem nodesE_bad {l : List Node} {i : Nat} (h : i < l.length) (he : nodeE (l.getD i default) ≠ 0) : nodesE l i = nodeE (l.getD i default) := by rw [nodesE, if_pos h, if_pos he]
theorem nodesE_ord {l : List Node} {i : Nat} (h : i < l.length) (he : nodeE (l.getD i default) = 0) (ho : (i = 0 ∧ (l.getD 0 default).id ≠ 1) ∨ (0 < i ∧ (l.getD i default).id ≤ (l.getD (i - 1) default).id)) : nodesE l i = 5 := by rw [nodesE, if_pos h, if_neg (fun q => q he), if_pos ho]
theorem nodesE_next {l : List Node} {i : Nat} (h : i < l.length) (he : nodeE (l.getD i default) = 0) (ho : ¬ ((i = 0 ∧ (l.getD 0 default).id ≠ 1) ∨ (0 < i ∧ (l.getD i default).id ≤ (l.getD (i - 1) default).id))) : nodesE l i = nodesE l (i + 1) := by rw [nodesE, if_pos h, if_neg (fun q => q he), if_neg ho]
theorem nodesE_end {l : List Node} {i : Nat} (h : ¬ i < l.length) : nodesE l i = 0 := by rw [nodesE, if_neg h]
theorem allR_bad {l : List Node} {i : Nat} (h : i < l.length) (he : refsE l (l.getD i default).kind (refsN (l.getD i default)) 0 ≠ 0) : allRefsE l i = refsE l (l.getD i default).kind (refsN (l.getD i default)) 0 := by rw [allRefsE, if_pos h, if_pos he]
theorem allR_next {l : List Node} {i : Nat} (h : i < l.length) (he : refsE l (l.getD i default).kind (refsN (l.getD i default)) 0 = 0) : allRefsE l i = allRefsE l (i + 1) := by rw [allRefsE, if_pos h, if_neg (fun q => q he)]
theorem allR_end {l : List Node} {i : Nat} (h : ¬ i < l.length) : allRefsE l i = 0 := by rw [allRefsE, if_neg h]
theorem docE_short {d : Doc} (h : d.nodes.length = 0) : docE d = 11 := by unfold docE; rw [if_pos h]
theorem docE_node {d : Doc} (h : ¬ d.nodes.length = 0) {e : Int} (he : nodesE d.nodes 0 = e) (hn : e ≠ 0) : docE d = e := by unfold docE; rw [if_neg h, he, if_pos hn]
theorem docE_refs {d : Doc} (h : ¬ d.nodes.length = 0) {e : Int} (he : nodesE d.nodes 0 = 0) (hr : allRefsE d.nodes 0 = e) : docE d = e := by unfold docE; rw [if_neg h, he, if_neg (fun q => q rfl), hr]
theorem refsE_none {l : List Node} {k : Int} {rs : List Int} {i : Nat} (h : i < rs.length) (he : findD l (rs.getD i default) 0 < 0) : refsE l k rs i = 7 := by rw [refsE, if_pos h, if_pos he]
theorem refsE_kind {l : List Node} {k : Int} {rs : List Int} {i : Nat} (h : i < rs.length) (he : 0 ≤ findD l (rs.getD i default) 0) (hp : permB k (l.getD (findD l (rs.getD i default) 0).toNat default).kind = false) : refsE l k rs i = 8 := by rw [refsE, if_pos h, if_neg (by omega), if_pos hp]
theorem refsE_next {l : List Node} {k : Int} {rs : List Int} {i : Nat} (h : i < rs.length) (he : 0 ≤ findD l (rs.getD i default) 0) (hp : permB k (l.getD (findD l (rs.getD i default) 0).toNat default).kind = true) : refsE l k rs i = refsE l k rs (i + 1) := by rw [refsE, if_pos h, if_neg (by omega), if_neg (by rw [hp]; decide)]
theorem refsE_end {l : List Node} {k : Int} {rs : List Int} {i : Nat} (h : ¬ i < rs.length) : refsE l k rs i = 0 := by rw [refsE, if_neg h]
theorem findD_lt {l : List Node} {k : Int} : ∀ (n i : Nat), l.length - i = n → findD l k i < l.length
  | 0, i, h => by rw [findD, if_neg (by omega)]; omega
  | n + 1, i, h => by
    rw [findD, if_pos (by omega)]
    split
    · omega
    · exact findD_lt n (i + 1) (by omega)
/-! ### Sizes -/
structure NodeB (n : Node) : Prop where
  at1 : Szd n.attrs
  at2 : n.attrs.length ≤ 1048576
  fl1 : SzE n.flow
  fl2 : n.flow.length ≤ 1048576
  fl3 : ∀ x ∈ n.flow, x.attrs.length ≤ 1048576
  ce1 : SzC n.grid.cells
  ce2 : n.grid.cells.length ≤ 1048576
  ce3 : ∀ c ∈ n.grid.cells, c.attrs.length ≤ 1048576
  me : n.grid.merges.length ≤ 1048576
  dr1 : n.draw.length ≤ 1048576
  dr2 : ∀ o ∈ n.draw, o.plc.size ≤ 1048576 ∧ o.nm.size ≤ 1048576 ∧ o.vl.size ≤ 1048576
def lenN (n : Node) : Nat := n.flow.length + n.grid.cells.length + n.draw.length
def lensN (l : List Node) : Nat := (l.map lenN).sum
structure DocB (d : Doc) : Prop where
  len : d.nodes.length ≤ 1048576
  all : ∀ n ∈ d.nodes, NodeB n
  sum : lensN d.nodes ≤ 1048576
theorem getDN_mem {l : List Node} {i : Nat} (h : i < l.length) : l.getD i default ∈ l := getDX_mem h
theorem filM_succ {α β : Type} [Inhabited α] {l : List α} {i : Nat} (g : α → Option β) (h : i < l.length) : (l.take (i + 1)).filterMap g = (l.take i).filterMap g ++ (g (l.getD i default)).toList := by
  have e : l.getD i default = l[i] := by rw [List.getD_eq_getElem?_getD, List.getElem?_eq_getElem h]; rfl
  rw [List.take_succ_eq_append_getElem h, List.filterMap_append, e]
  congr 1
end Go.Ch
end
section
set_option linter.unusedVariables false
set_option linter.unusedSimpArgs false
set_option maxRecDepth 100000
set_option maxHeartbeats 4000000
open Go Go.Proofs Go.Ab
namespace Go.Ch
theorem fc_HasText (k : Int) : FC Tryz.prog 62 [VI k] (app emp []) (VB (hasT k)) (app emp []) := by
 refine .go Tryz.f62 ?_
 have e1 : ((hasT k) : Bool) = ((((k == 1) || (k == 3)) || (k == 4)) || (k == 12)) := by
  rfl
 exact .finE [.r [], .r [(4, Xv 1 (!(k == 1)) X0), (5, X (Xk' (k == 1))), (8, Xv 1 (!((k == 1) || (k == 3))) X0), (9, X (Xk' ((k == 1) || (k == 3)))), (12, Xv 1 (!(((k == 1) || (k == 3)) || (k == 4))) X0), (13, X (Xk' (((k == 1) || (k == 3)) || (k == 4))))]] [] (fun z0 : Bool => (VB z0, [])) _ _ e1

theorem fc_HasList (k : Int) : FC Tryz.prog 63 [VI k] (app emp []) (VB (hasL k)) (app emp []) := by
 refine .go Tryz.f63 ?_
 have e1 : ((hasL k) : Bool) = ((k == 0) || (k == 7)) := by
  rfl
 exact .finE [.r [], .r [(4, Xv 1 (!(k == 0)) X0), (5, X (Xk' (k == 0)))]] [] (fun z0 : Bool => (VB z0, [])) _ _ e1

theorem fc_HasGrid (k : Int) : FC Tryz.prog 65 [VI k] (app emp []) (VB (hasG k)) (app emp []) := by
 refine .go Tryz.f65 ?_
 have e1 : ((hasG k) : Bool) = ((k == 2) || (k == 6)) := by
  rfl
 exact .finE [.r [], .r [(4, Xv 1 (!(k == 2)) X0), (5, X (Xk' (k == 2)))]] [] (fun z0 : Bool => (VB z0, [])) _ _ e1

theorem fc_HasDraw (k : Int) : FC Tryz.prog 66 [VI k] (app emp []) (VB (hasD k)) (app emp []) := by
 refine .go Tryz.f66 ?_
 have e1 : ((hasD k) : Bool) = (((k == 8) || (k == 9)) || (k == 10)) := by
  rfl
 exact .finE [.r [], .r [(4, Xv 1 (!(k == 8)) X0), (5, X (Xk' (k == 8))), (8, Xv 1 (!((k == 8) || (k == 9))) X0), (9, X (Xk' ((k == 8) || (k == 9))))]] [] (fun z0 : Bool => (VB z0, [])) _ _ e1

theorem fc_Texts (k : Int) : FC Tryz.prog 82 [VI k] (app emp []) (VB (hasT k)) (app emp []) := by
 refine .go Tryz.f82 ?_
 have e1 : ((hasT k) : Bool) = ((((k == 1) || (k == 3)) || (k == 4)) || (k == 12)) := by
  rfl
 exact .finE [.r [], .r [(4, Xv 1 (!(k == 1)) X0), (5, X (Xk' (k == 1))), (8, Xv 1 (!((k == 1) || (k == 3))) X0), (9, X (Xk' ((k == 1) || (k == 3)))), (12, Xv 1 (!(((k == 1) || (k == 3)) || (k == 4))) X0), (13, X (Xk' (((k == 1) || (k == 3)) || (k == 4))))]] [] (fun z0 : Bool => (VB z0, [])) _ _ e1

theorem fc_Lists (k : Int) : FC Tryz.prog 83 [VI k] (app emp []) (VB (hasL k)) (app emp []) := by
 refine .go Tryz.f83 ?_
 have e1 : ((hasL k) : Bool) = ((k == 0) || (k == 7)) := by
  rfl
 exact .finE [.r [], .r [(4, Xv 1 (!(k == 0)) X0), (5, X (Xk' (k == 0)))]] [] (fun z0 : Bool => (VB z0, [])) _ _ e1

theorem fc_Grids (k : Int) : FC Tryz.prog 84 [VI k] (app emp []) (VB (hasG k)) (app emp []) := by
 refine .go Tryz.f84 ?_
 have e1 : ((hasG k) : Bool) = ((k == 2) || (k == 6)) := by
  rfl
 exact .finE [.r [], .r [(4, Xv 1 (!(k == 2)) X0), (5, X (Xk' (k == 2)))]] [] (fun z0 : Bool => (VB z0, [])) _ _ e1

theorem fc_Draws (k : Int) : FC Tryz.prog 86 [VI k] (app emp []) (VB (hasD k)) (app emp []) := by
 refine .go Tryz.f86 ?_
 have e1 : ((hasD k) : Bool) = (((k == 8) || (k == 9)) || (k == 10)) := by
  rfl
 exact .finE [.r [], .r [(4, Xv 1 (!(k == 8)) X0), (5, X (Xk' (k == 8))), (8, Xv 1 (!((k == 8) || (k == 9))) X0), (9, X (Xk' ((k == 8) || (k == 9))))]] [] (fun z0 : Bool => (VB z0, [])) _ _ e1

theorem fc_zeroGrid (g : Grid) : FC Tryz.prog 64 [.t (gridT g)] (app emp []) (VB (zeroG g)) (app emp []) := by
 refine .go Tryz.f64 ?_
 have e1 : ((zeroG g) : Bool) = ((((g.rows == 0) && (g.cols == 0)) && ((g.cells.length : Int) == 0)) && ((g.merges.length : Int) == 0)) := by
  rfl
 exact .finE [.r [], .r [(5, Xv 1 (g.rows == 0) X0), (6, Xv 1 (g.rows == 0) X0), (7, X (Xk (g.rows == 0))), (10, Xv 1 ((g.rows == 0) && (g.cols == 0)) X0), (11, Xv 1 ((g.rows == 0) && (g.cols == 0)) (Xl cellT g.cells)), (12, Xv 1 ((g.rows == 0) && (g.cols == 0)) X0), (13, X (Xk ((g.rows == 0) && (g.cols == 0)))), (16, Xv 1 (((g.rows == 0) && (g.cols == 0)) && ((g.cells.length : Int) == 0)) X0), (17, Xv 1 (((g.rows == 0) && (g.cols == 0)) && ((g.cells.length : Int) == 0)) (Xl rectT g.merges)), (18, Xv 1 (((g.rows == 0) && (g.cols == 0)) && ((g.cells.length : Int) == 0)) X0), (19, X (Xk (((g.rows == 0) && (g.cols == 0)) && ((g.cells.length : Int) == 0))))]] [] (fun z0 : Bool => (VB z0, [])) _ _ e1

theorem fc_permR (p k : Int) : FC Tryz.prog 72 [VI p, VI k] (app emp []) (VB (permB p k)) (app emp []) := by
 refine .go Tryz.f72 ?_
 refine .bp [.r [], .r [], .r []] (k == 1) (fun h2 => ?_) (fun h2 => ?_)
 ·
  refine .bp [] (k == 1) (fun h2 => ?_) (fun h2 => ?_)
  ·
   have e1 : ((permB p k) : Bool) = (p == 0) := by
    unfold permB; (repeat' split) <;> first | rfl | omega | (exfalso; omega) | (simp_all; done) | (exfalso; simp_all; omega)
   exact .finE [.r []] [] (fun z0 : Bool => (VB z0, [])) _ _ e1
  ·
   refine .bp [.r []] (k == 10) (fun h8 => ?_) (fun h8 => ?_)
   ·
    have e2 : ((permB p k) : Bool) = (((p == 0) || (p == 1)) || (p == 3)) := by
     unfold permB; (repeat' split) <;> first | rfl | omega | (exfalso; omega) | (simp_all; done) | (exfalso; simp_all; omega)
    exact .finE [.r [(4, Xv 1 (!(p == 0)) X0), (5, X (Xk' (p == 0))), (8, Xv 1 (!((p == 0) || (p == 1))) X0), (9, X (Xk' ((p == 0) || (p == 1))))]] [] (fun z0 : Bool => (VB z0, [])) _ _ e2
   ·
    refine .bp [.r []] (k == 2) (fun h10 => ?_) (fun h10 => ?_)
    ·
     have e3 : ((permB p k) : Bool) = (p == 1) := by
      unfold permB; (repeat' split) <;> first | rfl | omega | (exfalso; omega) | (simp_all; done) | (exfalso; simp_all; omega)
     exact .finE [.r []] [] (fun z0 : Bool => (VB z0, [])) _ _ e3
    ·
     refine .bp [.r []] (k == 4) (fun h12 => ?_) (fun h12 => ?_)
     ·
      have e4 : ((permB p k) : Bool) = ((p == 1) || (p == 3)) := by
       unfold permB; (repeat' split) <;> first | rfl | omega | (exfalso; omega) | (simp_all; done) | (exfalso; simp_all; omega)
      exact .finE [.r [(4, Xv 1 (!(p == 1)) X0), (5, X (Xk' (p == 1)))]] [] (fun z0 : Bool => (VB z0, [])) _ _ e4
     ·
      refine .bp [.r []] (k == 5) (fun h14 => ?_) (fun h14 => ?_)
      ·
       have e5 : ((permB p k) : Bool) = (hasT p) := by
        unfold permB; (repeat' split) <;> first | rfl | omega | (exfalso; omega) | (simp_all; done) | (exfalso; simp_all; omega)
       exact .finE [.r [(1, X (Xc0 (fc_HasText p) X0))]] [] (fun z0 : Bool => (VB z0, [])) _ _ e5
      ·
       refine .bp [.r []] (k == 3) (fun h16 => ?_) (fun h16 => ?_)
       ·
        have e6 : ((permB p k) : Bool) = (p == 2) := by
         unfold permB; (repeat' split) <;> first | rfl | omega | (exfalso; omega) | (simp_all; done) | (exfalso; simp_all; omega)
        exact .finE [.r []] [] (fun z0 : Bool => (VB z0, [])) _ _ e6
       ·
        refine .bp [.r []] (k == 8) (fun h18 => ?_) (fun h18 => ?_)
        ·
         refine .bp [] (k == 8) (fun h18 => ?_) (fun h18 => ?_)
         ·
          have e7 : ((permB p k) : Bool) = (p == 7) := by
           unfold permB; (repeat' split) <;> first | rfl | omega | (exfalso; omega) | (simp_all; done) | (exfalso; simp_all; omega)
          exact .finE [.r []] [] (fun z0 : Bool => (VB z0, [])) _ _ e7
         ·
          have e8 : ((permB p k) : Bool) = false := by
           unfold permB; (repeat' split) <;> first | rfl | omega | (exfalso; omega) | (simp_all; done) | (exfalso; simp_all; omega)
          exact .finE [.r []] [] (fun z0 : Bool => (VB z0, [])) _ _ e8
        ·
         refine .bp [.r []] (k == 9) (fun h19 => ?_) (fun h19 => ?_)
         ·
          have e9 : ((permB p k) : Bool) = (p == 7) := by
           unfold permB; (repeat' split) <;> first | rfl | omega | (exfalso; omega) | (simp_all; done) | (exfalso; simp_all; omega)
          exact .finE [.r []] [] (fun z0 : Bool => (VB z0, [])) _ _ e9
         ·
          have e10 : ((permB p k) : Bool) = false := by
           unfold permB; (repeat' split) <;> first | rfl | omega | (exfalso; omega) | (simp_all; done) | (exfalso; simp_all; omega)
          exact .finE [.r []] [] (fun z0 : Bool => (VB z0, [])) _ _ e10
 ·
  refine .bp [.r []] (k == 6) (fun h3 => ?_) (fun h3 => ?_)
  ·
   refine .bp [] (k == 6) (fun h3 => ?_) (fun h3 => ?_)
   ·
    have e11 : ((permB p k) : Bool) = (p == 0) := by
     unfold permB; (repeat' split) <;> first | rfl | omega | (exfalso; omega) | (simp_all; done) | (exfalso; simp_all; omega)
    exact .finE [.r []] [] (fun z0 : Bool => (VB z0, [])) _ _ e11
   ·
    refine .bp [.r []] (k == 10) (fun h8 => ?_) (fun h8 => ?_)
    ·
     have e12 : ((permB p k) : Bool) = (((p == 0) || (p == 1)) || (p == 3)) := by
      unfold permB; (repeat' split) <;> first | rfl | omega | (exfalso; omega) | (simp_all; done) | (exfalso; simp_all; omega)
     exact .finE [.r [(4, Xv 1 (!(p == 0)) X0), (5, X (Xk' (p == 0))), (8, Xv 1 (!((p == 0) || (p == 1))) X0), (9, X (Xk' ((p == 0) || (p == 1))))]] [] (fun z0 : Bool => (VB z0, [])) _ _ e12
    ·
     refine .bp [.r []] (k == 2) (fun h10 => ?_) (fun h10 => ?_)
     ·
      have e13 : ((permB p k) : Bool) = (p == 1) := by
       unfold permB; (repeat' split) <;> first | rfl | omega | (exfalso; omega) | (simp_all; done) | (exfalso; simp_all; omega)
      exact .finE [.r []] [] (fun z0 : Bool => (VB z0, [])) _ _ e13
     ·
      refine .bp [.r []] (k == 4) (fun h12 => ?_) (fun h12 => ?_)
      ·
       have e14 : ((permB p k) : Bool) = ((p == 1) || (p == 3)) := by
        unfold permB; (repeat' split) <;> first | rfl | omega | (exfalso; omega) | (simp_all; done) | (exfalso; simp_all; omega)
       exact .finE [.r [(4, Xv 1 (!(p == 1)) X0), (5, X (Xk' (p == 1)))]] [] (fun z0 : Bool => (VB z0, [])) _ _ e14
      ·
       refine .bp [.r []] (k == 5) (fun h14 => ?_) (fun h14 => ?_)
       ·
        have e15 : ((permB p k) : Bool) = (hasT p) := by
         unfold permB; (repeat' split) <;> first | rfl | omega | (exfalso; omega) | (simp_all; done) | (exfalso; simp_all; omega)
        exact .finE [.r [(1, X (Xc0 (fc_HasText p) X0))]] [] (fun z0 : Bool => (VB z0, [])) _ _ e15
       ·
        refine .bp [.r []] (k == 3) (fun h16 => ?_) (fun h16 => ?_)
        ·
         have e16 : ((permB p k) : Bool) = (p == 2) := by
          unfold permB; (repeat' split) <;> first | rfl | omega | (exfalso; omega) | (simp_all; done) | (exfalso; simp_all; omega)
         exact .finE [.r []] [] (fun z0 : Bool => (VB z0, [])) _ _ e16
        ·
         refine .bp [.r []] (k == 8) (fun h18 => ?_) (fun h18 => ?_)
         ·
          refine .bp [] (k == 8) (fun h18 => ?_) (fun h18 => ?_)
          ·
           have e17 : ((permB p k) : Bool) = (p == 7) := by
            unfold permB; (repeat' split) <;> first | rfl | omega | (exfalso; omega) | (simp_all; done) | (exfalso; simp_all; omega)
           exact .finE [.r []] [] (fun z0 : Bool => (VB z0, [])) _ _ e17
          ·
           have e18 : ((permB p k) : Bool) = false := by
            unfold permB; (repeat' split) <;> first | rfl | omega | (exfalso; omega) | (simp_all; done) | (exfalso; simp_all; omega)
           exact .finE [.r []] [] (fun z0 : Bool => (VB z0, [])) _ _ e18
         ·
          refine .bp [.r []] (k == 9) (fun h19 => ?_) (fun h19 => ?_)
          ·
           have e19 : ((permB p k) : Bool) = (p == 7) := by
            unfold permB; (repeat' split) <;> first | rfl | omega | (exfalso; omega) | (simp_all; done) | (exfalso; simp_all; omega)
           exact .finE [.r []] [] (fun z0 : Bool => (VB z0, [])) _ _ e19
          ·
           have e20 : ((permB p k) : Bool) = false := by
            unfold permB; (repeat' split) <;> first | rfl | omega | (exfalso; omega) | (simp_all; done) | (exfalso; simp_all; omega)
           exact .finE [.r []] [] (fun z0 : Bool => (VB z0, [])) _ _ e20
  ·
   refine .bp [.r []] (k == 7) (fun h4 => ?_) (fun h4 => ?_)
   ·
    refine .bp [] (k == 7) (fun h4 => ?_) (fun h4 => ?_)
    ·
     have e21 : ((permB p k) : Bool) = (p == 0) := by
      unfold permB; (repeat' split) <;> first | rfl | omega | (exfalso; omega) | (simp_all; done) | (exfalso; simp_all; omega)
     exact .finE [.r []] [] (fun z0 : Bool => (VB z0, [])) _ _ e21
    ·
     refine .bp [.r []] (k == 10) (fun h8 => ?_) (fun h8 => ?_)
     ·
      have e22 : ((permB p k) : Bool) = (((p == 0) || (p == 1)) || (p == 3)) := by
       unfold permB; (repeat' split) <;> first | rfl | omega | (exfalso; omega) | (simp_all; done) | (exfalso; simp_all; omega)
      exact .finE [.r [(4, Xv 1 (!(p == 0)) X0), (5, X (Xk' (p == 0))), (8, Xv 1 (!((p == 0) || (p == 1))) X0), (9, X (Xk' ((p == 0) || (p == 1))))]] [] (fun z0 : Bool => (VB z0, [])) _ _ e22
     ·
      refine .bp [.r []] (k == 2) (fun h10 => ?_) (fun h10 => ?_)
      ·
       have e23 : ((permB p k) : Bool) = (p == 1) := by
        unfold permB; (repeat' split) <;> first | rfl | omega | (exfalso; omega) | (simp_all; done) | (exfalso; simp_all; omega)
       exact .finE [.r []] [] (fun z0 : Bool => (VB z0, [])) _ _ e23
      ·
       refine .bp [.r []] (k == 4) (fun h12 => ?_) (fun h12 => ?_)
       ·
        have e24 : ((permB p k) : Bool) = ((p == 1) || (p == 3)) := by
         unfold permB; (repeat' split) <;> first | rfl | omega | (exfalso; omega) | (simp_all; done) | (exfalso; simp_all; omega)
        exact .finE [.r [(4, Xv 1 (!(p == 1)) X0), (5, X (Xk' (p == 1)))]] [] (fun z0 : Bool => (VB z0, [])) _ _ e24
       ·
        refine .bp [.r []] (k == 5) (fun h14 => ?_) (fun h14 => ?_)
        ·
         have e25 : ((permB p k) : Bool) = (hasT p) := by
          unfold permB; (repeat' split) <;> first | rfl | omega | (exfalso; omega) | (simp_all; done) | (exfalso; simp_all; omega)
         exact .finE [.r [(1, X (Xc0 (fc_HasText p) X0))]] [] (fun z0 : Bool => (VB z0, [])) _ _ e25
        ·
         refine .bp [.r []] (k == 3) (fun h16 => ?_) (fun h16 => ?_)
         ·
          have e26 : ((permB p k) : Bool) = (p == 2) := by
           unfold permB; (repeat' split) <;> first | rfl | omega | (exfalso; omega) | (simp_all; done) | (exfalso; simp_all; omega)
          exact .finE [.r []] [] (fun z0 : Bool => (VB z0, [])) _ _ e26
         ·
          refine .bp [.r []] (k == 8) (fun h18 => ?_) (fun h18 => ?_)
          ·
           refine .bp [] (k == 8) (fun h18 => ?_) (fun h18 => ?_)
           ·
            have e27 : ((permB p k) : Bool) = (p == 7) := by
             unfold permB; (repeat' split) <;> first | rfl | omega | (exfalso; omega) | (simp_all; done) | (exfalso; simp_all; omega)
            exact .finE [.r []] [] (fun z0 : Bool => (VB z0, [])) _ _ e27
           ·
            have e28 : ((permB p k) : Bool) = false := by
             unfold permB; (repeat' split) <;> first | rfl | omega | (exfalso; omega) | (simp_all; done) | (exfalso; simp_all; omega)
            exact .finE [.r []] [] (fun z0 : Bool => (VB z0, [])) _ _ e28
          ·
           refine .bp [.r []] (k == 9) (fun h19 => ?_) (fun h19 => ?_)
           ·
            have e29 : ((permB p k) : Bool) = (p == 7) := by
             unfold permB; (repeat' split) <;> first | rfl | omega | (exfalso; omega) | (simp_all; done) | (exfalso; simp_all; omega)
            exact .finE [.r []] [] (fun z0 : Bool => (VB z0, [])) _ _ e29
           ·
            have e30 : ((permB p k) : Bool) = false := by
             unfold permB; (repeat' split) <;> first | rfl | omega | (exfalso; omega) | (simp_all; done) | (exfalso; simp_all; omega)
            exact .finE [.r []] [] (fun z0 : Bool => (VB z0, [])) _ _ e30
   ·
    refine .bp [.r []] (k == 11) (fun h5 => ?_) (fun h5 => ?_)
    ·
     refine .bp [] (k == 11) (fun h5 => ?_) (fun h5 => ?_)
     ·
      have e31 : ((permB p k) : Bool) = (p == 0) := by
       unfold permB; (repeat' split) <;> first | rfl | omega | (exfalso; omega) | (simp_all; done) | (exfalso; simp_all; omega)
      exact .finE [.r []] [] (fun z0 : Bool => (VB z0, [])) _ _ e31
     ·
      refine .bp [.r []] (k == 10) (fun h8 => ?_) (fun h8 => ?_)
      ·
       have e32 : ((permB p k) : Bool) = (((p == 0) || (p == 1)) || (p == 3)) := by
        unfold permB; (repeat' split) <;> first | rfl | omega | (exfalso; omega) | (simp_all; done) | (exfalso; simp_all; omega)
       exact .finE [.r [(4, Xv 1 (!(p == 0)) X0), (5, X (Xk' (p == 0))), (8, Xv 1 (!((p == 0) || (p == 1))) X0), (9, X (Xk' ((p == 0) || (p == 1))))]] [] (fun z0 : Bool => (VB z0, [])) _ _ e32
      ·
       refine .bp [.r []] (k == 2) (fun h10 => ?_) (fun h10 => ?_)
       ·
        have e33 : ((permB p k) : Bool) = (p == 1) := by
         unfold permB; (repeat' split) <;> first | rfl | omega | (exfalso; omega) | (simp_all; done) | (exfalso; simp_all; omega)
        exact .finE [.r []] [] (fun z0 : Bool => (VB z0, [])) _ _ e33
       ·
        refine .bp [.r []] (k == 4) (fun h12 => ?_) (fun h12 => ?_)
        ·
         have e34 : ((permB p k) : Bool) = ((p == 1) || (p == 3)) := by
          unfold permB; (repeat' split) <;> first | rfl | omega | (exfalso; omega) | (simp_all; done) | (exfalso; simp_all; omega)
         exact .finE [.r [(4, Xv 1 (!(p == 1)) X0), (5, X (Xk' (p == 1)))]] [] (fun z0 : Bool => (VB z0, [])) _ _ e34
        ·
         refine .bp [.r []] (k == 5) (fun h14 => ?_) (fun h14 => ?_)
         ·
          have e35 : ((permB p k) : Bool) = (hasT p) := by
           unfold permB; (repeat' split) <;> first | rfl | omega | (exfalso; omega) | (simp_all; done) | (exfalso; simp_all; omega)
          exact .finE [.r [(1, X (Xc0 (fc_HasText p) X0))]] [] (fun z0 : Bool => (VB z0, [])) _ _ e35
         ·
          refine .bp [.r []] (k == 3) (fun h16 => ?_) (fun h16 => ?_)
          ·
           have e36 : ((permB p k) : Bool) = (p == 2) := by
            unfold permB; (repeat' split) <;> first | rfl | omega | (exfalso; omega) | (simp_all; done) | (exfalso; simp_all; omega)
           exact .finE [.r []] [] (fun z0 : Bool => (VB z0, [])) _ _ e36
          ·
           refine .bp [.r []] (k == 8) (fun h18 => ?_) (fun h18 => ?_)
           ·
            refine .bp [] (k == 8) (fun h18 => ?_) (fun h18 => ?_)
            ·
             have e37 : ((permB p k) : Bool) = (p == 7) := by
              unfold permB; (repeat' split) <;> first | rfl | omega | (exfalso; omega) | (simp_all; done) | (exfalso; simp_all; omega)
             exact .finE [.r []] [] (fun z0 : Bool => (VB z0, [])) _ _ e37
            ·
             have e38 : ((permB p k) : Bool) = false := by
              unfold permB; (repeat' split) <;> first | rfl | omega | (exfalso; omega) | (simp_all; done) | (exfalso; simp_all; omega)
             exact .finE [.r []] [] (fun z0 : Bool => (VB z0, [])) _ _ e38
           ·
            refine .bp [.r []] (k == 9) (fun h19 => ?_) (fun h19 => ?_)
            ·
             have e39 : ((permB p k) : Bool) = (p == 7) := by
              unfold permB; (repeat' split) <;> first | rfl | omega | (exfalso; omega) | (simp_all; done) | (exfalso; simp_all; omega)
             exact .finE [.r []] [] (fun z0 : Bool => (VB z0, [])) _ _ e39
            ·
             have e40 : ((permB p k) : Bool) = false := by
              unfold permB; (repeat' split) <;> first | rfl | omega | (exfalso; omega) | (simp_all; done) | (exfalso; simp_all; omega)
             exact .finE [.r []] [] (fun z0 : Bool => (VB z0, [])) _ _ e40
    ·
     refine .bp [.r []] (k == 12) (fun h6 => ?_) (fun h6 => ?_)
     ·
      have e41 : ((permB p k) : Bool) = (p == 0) := by
       unfold permB; (repeat' split) <;> first | rfl | omega | (exfalso; omega) | (simp_all; done) | (exfalso; simp_all; omega)
      exact .finE [.r []] [] (fun z0 : Bool => (VB z0, [])) _ _ e41
     ·
      refine .bp [.r []] (k == 10) (fun h8 => ?_) (fun h8 => ?_)
      ·
       have e42 : ((permB p k) : Bool) = (((p == 0) || (p == 1)) || (p == 3)) := by
        unfold permB; (repeat' split) <;> first | rfl | omega | (exfalso; omega) | (simp_all; done) | (exfalso; simp_all; omega)
       exact .finE [.r [(4, Xv 1 (!(p == 0)) X0), (5, X (Xk' (p == 0))), (8, Xv 1 (!((p == 0) || (p == 1))) X0), (9, X (Xk' ((p == 0) || (p == 1))))]] [] (fun z0 : Bool => (VB z0, [])) _ _ e42
      ·
       refine .bp [.r []] (k == 2) (fun h10 => ?_) (fun h10 => ?_)
       ·
        have e43 : ((permB p k) : Bool) = (p == 1) := by
         unfold permB; (repeat' split) <;> first | rfl | omega | (exfalso; omega) | (simp_all; done) | (exfalso; simp_all; omega)
        exact .finE [.r []] [] (fun z0 : Bool => (VB z0, [])) _ _ e43
       ·
        refine .bp [.r []] (k == 4) (fun h12 => ?_) (fun h12 => ?_)
        ·
         have e44 : ((permB p k) : Bool) = ((p == 1) || (p == 3)) := by
          unfold permB; (repeat' split) <;> first | rfl | omega | (exfalso; omega) | (simp_all; done) | (exfalso; simp_all; omega)
         exact .finE [.r [(4, Xv 1 (!(p == 1)) X0), (5, X (Xk' (p == 1)))]] [] (fun z0 : Bool => (VB z0, [])) _ _ e44
        ·
         refine .bp [.r []] (k == 5) (fun h14 => ?_) (fun h14 => ?_)
         ·
          have e45 : ((permB p k) : Bool) = (hasT p) := by
           unfold permB; (repeat' split) <;> first | rfl | omega | (exfalso; omega) | (simp_all; done) | (exfalso; simp_all; omega)
          exact .finE [.r [(1, X (Xc0 (fc_HasText p) X0))]] [] (fun z0 : Bool => (VB z0, [])) _ _ e45
         ·
          refine .bp [.r []] (k == 3) (fun h16 => ?_) (fun h16 => ?_)
          ·
           have e46 : ((permB p k) : Bool) = (p == 2) := by
            unfold permB; (repeat' split) <;> first | rfl | omega | (exfalso; omega) | (simp_all; done) | (exfalso; simp_all; omega)
           exact .finE [.r []] [] (fun z0 : Bool => (VB z0, [])) _ _ e46
          ·
           refine .bp [.r []] (k == 8) (fun h18 => ?_) (fun h18 => ?_)
           ·
            refine .bp [] (k == 8) (fun h18 => ?_) (fun h18 => ?_)
            ·
             have e47 : ((permB p k) : Bool) = (p == 7) := by
              unfold permB; (repeat' split) <;> first | rfl | omega | (exfalso; omega) | (simp_all; done) | (exfalso; simp_all; omega)
             exact .finE [.r []] [] (fun z0 : Bool => (VB z0, [])) _ _ e47
            ·
             have e48 : ((permB p k) : Bool) = false := by
              unfold permB; (repeat' split) <;> first | rfl | omega | (exfalso; omega) | (simp_all; done) | (exfalso; simp_all; omega)
             exact .finE [.r []] [] (fun z0 : Bool => (VB z0, [])) _ _ e48
           ·
            refine .bp [.r []] (k == 9) (fun h19 => ?_) (fun h19 => ?_)
            ·
             have e49 : ((permB p k) : Bool) = (p == 7) := by
              unfold permB; (repeat' split) <;> first | rfl | omega | (exfalso; omega) | (simp_all; done) | (exfalso; simp_all; omega)
             exact .finE [.r []] [] (fun z0 : Bool => (VB z0, [])) _ _ e49
            ·
             have e50 : ((permB p k) : Bool) = false := by
              unfold permB; (repeat' split) <;> first | rfl | omega | (exfalso; omega) | (simp_all; done) | (exfalso; simp_all; omega)
             exact .finE [.r []] [] (fun z0 : Bool => (VB z0, [])) _ _ e50

theorem fc_cellK (k : Int) (l : List Cell) : FC Tryz.prog 69 [VI k, VL 5 cellT l] (app emp []) (VI (cellK k l 0)) (app emp []) := by
 refine .go Tryz.f69 ?_
 refine .len 1 (fun hl1 => ?_)
 refine .loop (α := Nat) [.r [], .r [(1, X (Xl cellT l))]] 32 (fun i => ([(0, VI k), (1, VL 5 cellT l), (7, VI (l.length : Int)), (8, VI (i : Int))], [])) (fun i => i ≤ l.length ∧ cellK k l 0 = cellK k l i) (fun i => l.length - i) (0 : Nat) ?_ ?_
 ·
  exact ⟨by omega, rfl⟩
 rintro i I2 ih2
 try dsimp only at I2
 refine .bp [.r []] (decide ((i : Int) < (l.length : Int))) (fun h2 => ?_) (fun h2 => ?_)
 ·
  refine .bp [.r [], .r [(5, Xv 2 (k == 2) (Xi cellT l (i : Int))), (6, Xv 1 (k == 2) X0), (7, Xv 1 (k == 2) X0), (8, Xv 1 (k == 2) X0), (9, Xv 1 (k == 2) X0), (12, Xv 2 ((k == 2) && !(!(seq (((l.getD i default)).text) ({ data := #[] })))) (Xi cellT l (i : Int))), (13, Xv 1 ((k == 2) && !(!(seq (((l.getD i default)).text) ({ data := #[] })))) X0), (14, Xv 1 ((k == 2) && !(!(seq (((l.getD i default)).text) ({ data := #[] })))) X0), (15, Xv 1 ((k == 2) && !(!(seq (((l.getD i default)).text) ({ data := #[] })))) (Xl attrT (((l.getD i default)).attrs))), (16, Xv 1 ((k == 2) && !(!(seq (((l.getD i default)).text) ({ data := #[] })))) X0), (17, Xko (k == 2) (!(seq (((l.getD i default)).text) ({ data := #[] })))), (18, X (Xk (k == 2))), (21, Xv 1 (!((k == 2) && (!(seq (((l.getD i default)).text) ({ data := #[] })) || decide (((((l.getD i default)).attrs).length : Int) > 0)))) X0), (22, Xv 1 (!((k == 2) && (!(seq (((l.getD i default)).text) ({ data := #[] })) || decide (((((l.getD i default)).attrs).length : Int) > 0)))) X0), (25, Xv 2 ((!((k == 2) && (!(seq (((l.getD i default)).text) ({ data := #[] })) || decide (((((l.getD i default)).attrs).length : Int) > 0)))) && (k == 6)) (Xi cellT l (i : Int))), (26, Xv 1 ((!((k == 2) && (!(seq (((l.getD i default)).text) ({ data := #[] })) || decide (((((l.getD i default)).attrs).length : Int) > 0)))) && (k == 6)) X0), (27, Xv 1 ((!((k == 2) && (!(seq (((l.getD i default)).text) ({ data := #[] })) || decide (((((l.getD i default)).attrs).length : Int) > 0)))) && (k == 6)) X0), (28, Xv 1 ((!((k == 2) && (!(seq (((l.getD i default)).text) ({ data := #[] })) || decide (((((l.getD i default)).attrs).length : Int) > 0)))) && (k == 6)) X0), (29, Xka (!((k == 2) && (!(seq (((l.getD i default)).text) ({ data := #[] })) || decide (((((l.getD i default)).attrs).length : Int) > 0)))) (k == 6)), (30, X (Xk' ((k == 2) && (!(seq (((l.getD i default)).text) ({ data := #[] })) || decide (((((l.getD i default)).attrs).length : Int) > 0)))))]] (((k == 2) && (!(seq (((l.getD i default)).text) ({ data := #[] })) || decide (((((l.getD i default)).attrs).length : Int) > 0))) || ((k == 6) && ((((l.getD i default)).ref) != 0))) (fun h4 => ?_) (fun h4 => ?_)
  ·
   have e1 : ((cellK k l 0) : Int) = 4 := by
    rw [I2.2, cellK, if_pos (by omega), if_pos]
    exact h4.imp (fun q => ⟨q.1, q.2.imp id (fun z => by omega)⟩) id
   exact .finE [.r []] [] (fun z0 : Int => (VI z0, [])) _ _ e1
  ·
   refine .back [.r [(0, X (Xn ((i : Int) + 1)))]] [] (ih2 ((i + 1) : Nat) ?_ ?_)
   ·
    refine ⟨by omega, ?_⟩
    rw [I2.2, cellK, if_pos (by omega), if_neg]
    rintro (⟨a, b | b⟩ | ⟨a, b⟩)
    · rcases h4.1 with q | q
      · exact q a
      · rw [q.1] at b; cases b
    · rcases h4.1 with q | q
      · exact q a
      · omega
    · rcases h4.2 with q | q
      · exact q a
      · exact b q
   ·
    ((try dsimp only); omega)
 ·
  have e2 : ((cellK k l 0) : Int) = 0 := by
   rw [I2.2, cellK, if_neg (by omega)]
  exact .finE [.r []] [] (fun z0 : Int => (VI z0, [])) _ _ e2
end Go.Ch
end
