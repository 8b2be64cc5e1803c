/- Each item stands behind its parent. -/
import Derived.Test.YthpcjddcgdlilaaM1
import Derived.Test.YthpcjddcgdlilaaM2
import Derived.Test.YthpcjddcgdlilaaM3
import Derived.Test.YthpcjddcgdlilaaM4
import Derived.Test.YthpcjddcgdlilaaM5
import Derived.Test.YthpcjddcgdlilaaM6
import Derived.Test.YthpcjddcgdlilaaM7
import Derived.Test.YthpcjddcgdlilaaRows
import Derived.JoinedOf
import Derived.ProofKit
section
set_option linter.unusedVariables false
set_option linter.unusedSimpArgs false
set_option maxRecDepth 100000
namespace Go.Ch
open Go Go.Ab

variable {its : List DItem} {r : Int → Nat}
/-- A list in which the parent of an item, when it is an item, stands ahead. -/
inductive OrdP (its : List DItem) : List DItem → Prop
  | nil : OrdP its []
  | snoc (o : List DItem) (x : DItem) (h : OrdP its o) (hx : x ∈ its) (hn : x.item ∉ o.map DItem.item) (hp : findI its x.parent = none ∨ x.parent ∈ o.map DItem.item) : OrdP its (o ++ [x])
structure VisO (its : List DItem) (r : Int → Nat) (k : Int) (S : List Int) (o : List DItem) : Prop where
  ord : OrdP its o
  sub : ∀ x ∈ o, x.item ∈ S
  pend : ∀ q ∈ S, q ∈ o.map DItem.item ∨ dpI its r k < dpI its r q
theorem mem_putK {S : List Int} {k q : Int} : q ∈ putK id S k ↔ q = k ∨ q ∈ S := by
  have h := addS_mem (l := [k]) (k := q) (S := S)
  simp only [addS, List.foldl_cons, List.foldl_nil, List.mem_singleton] at h
  rw [h]; exact Or.comm
theorem visO_inv (hI : Its its r) : ∀ (n : Nat) (k : Int) (S : List Int) (o : List DItem), dpI its r k < n → VisO its r k S o →
    OrdP its (visO its n k (S, o)).2 ∧ (∀ x ∈ (visO its n k (S, o)).2, x.item ∈ (visO its n k (S, o)).1) ∧ (∀ q ∈ o.map DItem.item, q ∈ (visO its n k (S, o)).2.map DItem.item) ∧
    (∀ q ∈ (visO its n k (S, o)).1, q ∈ (visO its n k (S, o)).2.map DItem.item ∨ (q ∈ S ∧ q ∉ o.map DItem.item)) ∧ (∀ q ∈ (visO its n k (S, o)).2.map DItem.item, q ∈ o.map DItem.item ∨ q ∉ S) ∧ ((findI its k).isSome = true → k ∈ (visO its n k (S, o)).2.map DItem.item) ∧ (∀ q ∈ S, q ∈ (visO its n k (S, o)).1)
  | 0, k, S, o, hd, _ => absurd hd (by omega)
  | n + 1, k, S, o, hd, h => by
    cases hf : findI its k with
    | none =>
      rw [visO_none hf]
      exact ⟨h.ord, h.sub, fun q hq => hq, fun q hq => by by_cases e : q ∈ o.map DItem.item; exact .inl e; exact .inr ⟨hq, e⟩, fun q hq => .inl hq, (fun e => by cases e), fun q hq => hq⟩
    | some x =>
      obtain ⟨hx, hk⟩ := find_at hf
      by_cases hS : k ∈ S
      · rw [visO_done (s := (S, o)) hS]
        exact ⟨h.ord, h.sub, fun q hq => hq, fun q hq => by by_cases e : q ∈ o.map DItem.item; exact .inl e; exact .inr ⟨hq, e⟩, fun q hq => .inl hq, fun _ => (h.pend k hS).resolve_right (by omega), fun q hq => hq⟩
      · have hdp := dp_par hI hx
        rw [hk] at hdp
        have hV : VisO its r x.parent (putK id S k) o := ⟨h.ord, fun y hy => mem_putK.2 (.inr (h.sub y hy)), fun q hq => by
          rcases mem_putK.1 hq with rfl | hq
          · exact .inr hdp
          · rcases h.pend q hq with h | h
            · exact .inl h
            · exact .inr (by omega)⟩
        obtain ⟨i1, i2, i3, i4, i5, i6, i7⟩ := visO_inv hI n x.parent (putK id S k) o (by omega) hV
        rw [visO_new (s := (S, o)) hf hS]
        simp only
        generalize visO its n x.parent (putK id S k, o) = R at *
        refine ⟨.snoc _ x i1 hx (fun hm => ?_) ?_, fun y hy => ?_, fun q hq => ?_, fun q hq => ?_, fun q hq => ?_, fun _ => ?_, fun q hq => i7 q (mem_putK.2 (.inr hq))⟩
        · rw [hk] at hm
          rcases i5 k hm with q | q
          · obtain ⟨z, hz, e⟩ := List.mem_map.1 q
            exact hS (e ▸ h.sub z hz)
          · exact q (mem_putK.2 (.inl rfl))
        · cases hp : findI its x.parent with
          | none => exact .inl rfl
          | some y => exact .inr (i6 (by rw [hp]; rfl))
        · rcases List.mem_append.1 hy with hy | hy
          · exact i2 y hy
          · rw [List.mem_singleton] at hy; subst hy; rw [hk]; exact i7 k (mem_putK.2 (.inl rfl))
        · rw [List.map_append]; exact List.mem_append_left _ (i3 q hq)
        · rw [List.map_append]
          rcases i4 q hq with a | ⟨a, b⟩
          · exact .inl (List.mem_append_left _ a)
          · rcases mem_putK.1 a with rfl | a
            · exact .inl (List.mem_append_right _ (by simp [hk]))
            · exact .inr ⟨a, b⟩
        · rw [List.map_append] at hq
          rcases List.mem_append.1 hq with hq | hq
          · rcases i5 q hq with a | a
            · exact .inl a
            · exact .inr (fun b => a (mem_putK.2 (.inr b)))
          · simp only [List.map_cons, List.map_nil, List.mem_singleton] at hq
            rw [hq, hk]; exact .inr hS
        · rw [List.map_append]; exact List.mem_append_right _ (by simp [hk])
theorem ord_fold (hI : Its its r) : ∀ (l : List Int) (S : List Int) (o : List DItem), OrdP its o → (∀ x ∈ o, x.item ∈ S) → (∀ q ∈ S, q ∈ o.map DItem.item) →
    OrdP its (l.foldl (fun s k => visO its (its.length + 2) k s) (S, o)).2 ∧ (∀ q ∈ o.map DItem.item, q ∈ (l.foldl (fun s k => visO its (its.length + 2) k s) (S, o)).2.map DItem.item) ∧
    ∀ k ∈ l, (findI its k).isSome = true → k ∈ (l.foldl (fun s k => visO its (its.length + 2) k s) (S, o)).2.map DItem.item
  | [], S, o, h, _, _ => ⟨h, fun q hq => hq, fun k hk => by cases hk⟩
  | k :: l, S, o, h, h2, h3 => by
    have hd := dp_le its r k
    obtain ⟨i1, i2, i3, i4, i5, i6, i7⟩ := visO_inv hI (its.length + 2) k S o (by omega) ⟨h, h2, fun q hq => .inl (h3 q hq)⟩
    rw [List.foldl_cons]
    generalize visO its (its.length + 2) k (S, o) = R at *
    obtain ⟨S', o'⟩ := R
    obtain ⟨j1, j2, j3⟩ := ord_fold hI l S' o' i1 i2 (fun q hq => (i4 q hq).resolve_right (fun e => e.2 (h3 q e.1)))
    refine ⟨j1, fun q hq => j2 q (i3 q hq), fun q hq hs => ?_⟩
    rcases List.mem_cons.1 hq with rfl | hq
    · exact j2 q (i6 hs)
    · exact j3 q hq hs
theorem ordO_ok (hI : Its its r) : OrdP its (ordO its) ∧ ∀ x ∈ its, x.item ∈ (ordO its).map DItem.item := by
  obtain ⟨h1, -, h3⟩ := ord_fold hI (srtZ (its.map DItem.item)) [] [] .nil (fun x hx => by cases hx) (fun q hq => by cases hq)
  refine ⟨h1, fun x hx => h3 _ ((srtZ_perm _).mem_iff.2 (List.mem_map_of_mem hx)) ?_⟩
  have : findI its x.item = some x := find_uniq hI.uq hx
  rw [this]; rfl
end Go.Ch
end
section
set_option linter.unusedVariables false
set_option linter.unusedSimpArgs false
set_option maxRecDepth 100000
namespace Go.Ch
open Go Go.Ab

theorem step_mov {S : List DItem × List (Int × List Attr)} {k p : Int} {s : ByteArray} (hb : belowI S.1 k p = false) : stepP S (movO k p s) = (putK DItem.item S.1 ⟨k, p, s, []⟩, S.2) := by
  unfold stepP
  rw [if_neg (by show ¬ (0 : Int) = 1; decide), if_neg (by show ¬ belowI S.1 k p = true; rw [hb]; decide)]
  rfl
/-- On the way up from x, within what stands already as in T, one never comes to x. -/
theorem way_up {S T : List DItem} {r : Int → Nat} (hT : Its T r) (hS : UniqI DItem.item S) {x : DItem} (hx : x ∈ T) (D : List Int)
    (h1 : ∀ k, k ∈ D → findI S k = findI T k) (h2 : ∀ k y, (findI T k).isSome = false → findI S k = some y → y.parent = -1)
    (h3 : ∀ k ∈ D, ∀ y, findI T k = some y → (findI T y.parent).isSome = false ∨ y.parent ∈ D) : ∀ k, BelowP S x.item k → (0 < k → k = x.item ∨ r k < r x.item) → ((findI T k).isSome = false ∨ k ∈ D) → k ≠ x.item → False := by
  intro k hB
  induction hB with
  | here h => intro _ _ hne; exact hne rfl
  | up y hy h0 hb ih =>
    intro hr hD hne
    have hf : findI S y.item = some y := find_uniq hS hy
    rcases hD with hD | hD
    · have := h2 _ y hD hf
      have hp := hb.pos
      omega
    · have hT' : findI T y.item = some y := (h1 _ hD).symm.trans hf
      have hyT := (find_at hT').1
      have hrk : 0 < y.parent → r y.parent < r y.item := fun hp => hT.rk y hyT hp
      have hry : r y.item < r x.item := (hr h0).resolve_left hne
      refine ih (fun hp => .inr (by have := hrk hp; omega)) (h3 _ hD y hT') (fun e => ?_)
      have hp := hb.pos
      have := hrk hp
      rw [e] at this; omega
end Go.Ch
end
section
set_option linter.unusedVariables false
set_option linter.unusedSimpArgs false
namespace Go.Ch
open Go Go.Ab

def NPg (s : ByteArray) : Prop := nameGo s = true
def VPg (s : ByteArray) : Prop := valGo s = true
theorem np_mt : ¬ NPg mt := by
  unfold NPg nameGo
  rw [decide_eq_false (by intro h; have := h.1; simp [ByteArray.size] at this)]
  decide
theorem vp_mt : ¬ VPg mt := by
  unfold VPg valGo
  rw [decide_eq_false (by intro h; have := h.1; simp [ByteArray.size] at this)]
  decide
abbrev VG := V NPg VPg
end Go.Ch
end
section
set_option linter.unusedVariables false
set_option linter.unusedSimpArgs false
set_option maxRecDepth 100000
namespace Go.Ch
open Go Go.Ab

theorem PlayOk.fold : ∀ {l : List DOp} {S : List DItem × List (Int × List Attr)} {n : Nat}, (∀ o ∈ l, 0 < o.itm) → PlayOk S n → PlayOk (l.foldl stepP S) (n + l.length)
  | [], S, n, _, h => by simpa using h
  | o :: l, S, n, hl, h => by
    have := PlayOk.fold (l := l) (fun x hx => hl x (List.mem_cons_of_mem _ hx)) (h.step (hl o List.mem_cons_self))
    rw [List.foldl_cons, List.length_cons, show n + (l.length + 1) = n + 1 + l.length by omega]
    exact this
theorem OrdP.sub {its o : List DItem} (h : OrdP its o) : ∀ x ∈ o, x ∈ its := by
  induction h with
  | nil => intro x hx; cases hx
  | snoc o x h hx hn hp ih =>
    intro y hy
    rcases List.mem_append.1 hy with hy | hy
    · exact ih y hy
    · rw [List.mem_singleton] at hy; rw [hy]; exact hx
theorem OrdP.uniq {its o : List DItem} (h : OrdP its o) : UniqI DItem.item o := by
  induction h with
  | nil => exact List.nodup_nil
  | snoc o x h hx hn hp ih =>
    unfold UniqI at *
    rw [List.map_append, List.nodup_append]
    refine ⟨ih, by simp, fun a ha b hb e => ?_⟩
    simp only [List.map_cons, List.map_nil, List.mem_singleton] at hb
    subst e hb
    exact hn ha
theorem OrdP.closed {its o : List DItem} (hu : UniqI DItem.item its) (h : OrdP its o) : ∀ k ∈ o.map DItem.item, ∀ y, findI its k = some y → (findI its y.parent).isSome = false ∨ y.parent ∈ o.map DItem.item := by
  induction h with
  | nil => intro k hk; cases hk
  | snoc o x h hx hn hp ih =>
    intro k hk y hy
    rw [List.map_append, List.mem_append] at hk ⊢
    rcases hk with hk | hk
    · exact (ih k hk y hy).imp id .inl
    · simp only [List.map_cons, List.map_nil, List.mem_singleton] at hk
      subst hk
      have hfx : findI its x.item = some x := find_uniq hu hx
      rw [hfx] at hy
      cases hy
      rcases hp with hp | hp
      · exact .inl (by rw [hp]; rfl)
      · exact .inr (.inl hp)
structure Tw2 (N T : List DItem) (S0 S : List DItem × List (Int × List Attr)) (D : List Int) : Prop where
  a : S.2 = S0.2
  f : ∀ k, findI S.1 k = if k ∈ D then findI T k else awayI N T k
  ok : ∃ n, PlayOk S n
theorem away_none {N T : List DItem} {k : Int} (h : (findI T k).isSome = false) : ∀ y, awayI N T k = some y → y.parent = -1 := by
  intro y hy
  unfold awayI at hy
  rw [if_neg (by rw [h]; decide)] at hy
  cases hf : findI N k with
  | none => rw [hf] at hy; cases hy
  | some z => rw [hf] at hy; cases hy; rfl
theorem tw2_fold {N T : List DItem} {r : Int → Nat} (hT : Its T r) (hTn : ∀ x ∈ T, x.attrs = []) (hNn : ∀ x ∈ N, x.attrs = []) {S0 : List DItem × List (Int × List Attr)} (ok : ∃ n, PlayOk S0 n)
    (h0 : ∀ k, findI S0.1 k = awayI N T k) : ∀ {o : List DItem}, OrdP T o → Tw2 N T S0 ((o.flatMap (mv2 N)).foldl stepP S0) (o.map DItem.item) := by
  intro o ho
  induction ho with
  | nil => exact ⟨rfl, by simpa using h0, ok⟩
  | snoc o x h hx hn hp ih =>
    rw [List.flatMap_append, List.foldl_append]
    generalize (o.flatMap (mv2 N)).foldl stepP S0 = S at ih
    obtain ⟨n, hok⟩ := ih.ok
    obtain ⟨rS, hrS⟩ := hok.rank
    have hTx : findI T x.item = some x := find_uniq hT.uq hx
    have hxe : (⟨x.item, x.parent, x.place, []⟩ : DItem) = x := by
      have := hTn x hx
      cases x; simp only at this; subst this; rfl
    have hin : ∀ k, k ∈ o.map DItem.item → (findI T k).isSome = true := fun k hk => by
      obtain ⟨z, hz, rfl⟩ := List.mem_map.1 hk
      have : findI T z.item = some z := find_uniq hT.uq (h.sub z hz)
      rw [this]; rfl
    have hbel : belowI S.1 x.item x.parent = false := by
      rw [← Bool.not_eq_true, below_iff hrS hok.uniq]
      intro hb
      refine way_up hT hok.uniq hx (o.map DItem.item) (fun k hk => by rw [ih.f k, if_pos hk]) (fun k y hk hy => ?_) (h.closed hT.uq) x.parent hb (fun hp => .inr (hT.rk x hx hp)) ?_ ?_
      · rw [ih.f k] at hy
        have hk2 : k ∉ o.map DItem.item := fun hm => by rw [hin k hm] at hk; cases hk
        rw [if_neg hk2] at hy
        exact away_none hk y hy
      · exact hp.imp (fun q => by rw [q]; rfl) id
      · intro e
        have h1 := hT.pos x hx
        have h2 := hT.rk x hx (by omega)
        rw [e] at h2; omega
    have hmem : ∀ k, k ∈ (o ++ [x]).map DItem.item ↔ k ∈ o.map DItem.item ∨ k = x.item := fun k => by
      rw [List.map_append, List.mem_append]; simp
    have put : Tw2 N T S0 (stepP S (movO x.item x.parent x.place)) ((o ++ [x]).map DItem.item) := by
      have hS := hok.step (o := movO x.item x.parent x.place) (hT.pos x hx)
      rw [step_mov hbel] at hS ⊢
      refine ⟨ih.a, fun k => ?_, ⟨_, hS⟩⟩
      simp only [findI_put]
      by_cases hk : x.item = k
      · subst hk
        rw [if_pos rfl, if_pos ((hmem _).2 (.inr rfl)), hTx, hxe]
      · rw [if_neg hk, ih.f k]
        have : (k ∈ (o ++ [x]).map DItem.item) ↔ k ∈ o.map DItem.item := by
          rw [hmem]; exact ⟨fun q => q.resolve_right (fun e => hk e.symm), .inl⟩
        simp only [this]
    have e1 : [x].flatMap (mv2 N) = mv2 N x := by simp
    rw [e1]
    unfold mv2
    split
    · exact put
    · rename_i y hy
      split
      · exact put
      · rename_i hc
        refine ⟨ih.a, fun k => ?_, ih.ok⟩
        rw [List.foldl_nil, ih.f k]
        by_cases hk : k = x.item
        · subst hk
          rw [if_neg hn, if_pos ((hmem _).2 (.inr rfl)), hTx]
          unfold awayI
          rw [if_pos (by rw [hTx]; rfl), hy]
          obtain ⟨hy1, hy2⟩ := find_at hy
          have h1 : y.parent = x.parent := Decidable.not_not.1 (fun q => hc (.inl q))
          have h2 : y.place = x.place := by
            cases hs : seq y.place x.place with
            | true => exact seq_iff.1 hs
            | false => exact absurd (.inr hs) hc
          have h3 := hNn y hy1
          have h4 := hTn x hx
          congr 1
          cases x; cases y
          simp only at hy2 h1 h2 h3 h4
          subst hy2 h1 h2 h3 h4
          rfl
        · have : (k ∈ (o ++ [x]).map DItem.item) ↔ k ∈ o.map DItem.item := by
            rw [hmem]; exact ⟨fun q => q.resolve_right hk, .inl⟩
          simp only [this]

/-! ### Attributes -/
theorem vg_nil {e : Bool} : VG e [] := ⟨trivial, fun a ha => by cases ha⟩
theorem vg_one {e : Bool} {x : Attr} (h : Q NPg VPg e x.name x.val) : VG e [x] := ⟨⟨(fun b hb => by cases hb), trivial⟩, fun a ha => by rw [List.mem_singleton] at ha; subst ha; exact h⟩
theorem vg_cons {e : Bool} {x : Attr} {c : List Attr} (h : VG e (x :: c)) : VG e [x] ∧ VG e c ∧ Above x.name c := ⟨vg_one (h.2 x List.mem_cons_self), ⟨h.1.2, fun a ha => h.2 a (List.mem_cons_of_mem _ ha)⟩, h.1.1⟩
theorem at2_raw_none (n : ByteArray) (z : Option ByteArray) : at2 rawG n z none = z := by
  cases z with
  | none => rfl
  | some v => simp [at2, rawG, dflt]
theorem raw_one_fold : ∀ (c A : List Attr), VG false A → VG true c → c.foldl (fun A x => fm rawG A [x]) A = fm rawG A c
  | [], A, hA, hc => by
    refine sorted_ext hA.1 (raw_V np_mt hA hc).1 (fun n => ?_)
    rw [List.foldl_nil, fm_look np_mt fair_raw hA hc]
    exact (at2_raw_none n _).symm
  | x :: c, A, hA, hc => by
    obtain ⟨h1, h2, h3⟩ := vg_cons hc
    have hA' := raw_V np_mt hA h1
    rw [List.foldl_cons, raw_one_fold c _ hA' h2]
    refine sorted_ext (raw_V np_mt hA' h2).1 (raw_V np_mt hA hc).1 (fun n => ?_)
    rw [fm_look np_mt fair_raw hA' h2, fm_look np_mt fair_raw hA h1, fm_look np_mt fair_raw hA hc]
    by_cases hn : x.name = n
    · subst hn
      rw [look_above (l := c) (fun z hz e => slt_ne (h3 z hz) e.symm), look_hd, look_hd, at2_raw_none]
    · rw [look_tl hn, look_tl hn]
      show at2 rawG n (at2 rawG n (look A n) none) (look c n) = _
      rw [at2_raw_none]
theorem sts_fold (k : Int) : ∀ (c : List Attr) (S : List DItem × List (Int × List Attr)),
    ((c.map (setO k)).foldl stepP S).1 = S.1 ∧ ∀ j, findA ((c.map (setO k)).foldl stepP S).2 j = if k = j then c.foldl (fun A x => fm rawG A [x]) (findA S.2 k) else findA S.2 j
  | [], S => ⟨rfl, fun j => by
      simp only [List.map_nil, List.foldl_nil]
      by_cases h : k = j
      · subst h; rw [if_pos rfl]
      · rw [if_neg h]⟩
  | x :: c, S => by
    have e : stepP S (setO k x) = (S.1, putK Prod.fst S.2 (k, fm rawG (findA S.2 k) [x])) := by
      unfold stepP; exact if_pos (show (1 : Int) = 1 from rfl)
    obtain ⟨i1, i2⟩ := sts_fold k c (S.1, putK Prod.fst S.2 (k, fm rawG (findA S.2 k) [x]))
    rw [List.map_cons, List.foldl_cons, e]
    refine ⟨i1, fun j => ?_⟩
    rw [i2 j, List.foldl_cons]
    simp only [findA_put, if_true]
    by_cases h : k = j
    · rw [if_pos h, if_pos h]
    · rw [if_neg h, if_neg h, if_neg h]
def AV (ats : List (Int × List Attr)) : Prop := ∀ p ∈ ats, VG false p.2
theorem AV.find {ats : List (Int × List Attr)} (h : AV ats) (k : Int) : VG false (findA ats k) := by
  unfold findA
  cases hf : ats.find? (fun p => p.1 == k) with
  | none => exact vg_nil
  | some p => exact h p (List.mem_of_find?_eq_some hf)
theorem tw3_fold {a b : List (Int × List Attr)} (ha : AV a) (hb : AV b) : ∀ (ks : List Int), ks.Nodup → ∀ (S : List DItem × List (Int × List Attr)), (∀ k ∈ ks, findA S.2 k = findA a k) →
    ((ks.flatMap (sts a b)).foldl stepP S).1 = S.1 ∧ ∀ j, findA ((ks.flatMap (sts a b)).foldl stepP S).2 j = if j ∈ ks then findA b j else findA S.2 j
  | [], _, S, _ => ⟨rfl, fun j => by simp⟩
  | k :: ks, hn, S, h => by
    rw [List.nodup_cons] at hn
    rw [List.flatMap_cons, List.foldl_append]
    obtain ⟨s1, s2⟩ := sts_fold k (fm chgG (findA a k) (findA b k)) S
    have s2' : ∀ j, findA ((sts a b k).foldl stepP S).2 j = if k = j then findA b k else findA S.2 j := fun j => by
      unfold sts
      rw [s2 j, h k List.mem_cons_self, raw_one_fold _ _ (ha.find k) (chg_V np_mt (ha.find k) (hb.find k)), between_leads np_mt vp_mt (ha.find k) (hb.find k)]
    obtain ⟨i1, i2⟩ := tw3_fold ha hb ks hn.2 ((sts a b k).foldl stepP S) (fun j hj => by
      rw [s2' j, if_neg (fun e => hn.1 (by rw [e]; exact hj))]; exact h j (List.mem_cons_of_mem _ hj))
    refine ⟨i1.trans s1, fun j => ?_⟩
    rw [i2 j, s2' j]
    by_cases hj : j ∈ ks
    · rw [if_pos hj, if_pos (List.mem_cons_of_mem _ hj)]
    · rw [if_neg hj]
      by_cases e : k = j
      · subst e; rw [if_pos rfl, if_pos List.mem_cons_self]
      · rw [if_neg e, if_neg (fun q => (List.mem_cons.1 q).elim (fun q => e q.symm) hj)]
theorem findA_no {l : List (Int × List Attr)} {k : Int} (h : k ∉ l.map Prod.fst) : findA l k = [] := by
  unfold findA
  cases hf : l.find? (fun p => p.1 == k) with
  | none => rfl
  | some p =>
    obtain ⟨h1, h2⟩ := find_at (key := Prod.fst) hf
    exact absurd (List.mem_map.2 ⟨p, h1, h2⟩) h
theorem keysA_mem {a b : List (Int × List Attr)} {k : Int} : k ∈ keysA a b ↔ k ∈ a.map Prod.fst ∨ k ∈ b.map Prod.fst := by
  unfold keysA
  rw [(srtZ_perm _).mem_iff, addS_mem, addS_mem]
  simp
theorem keysA_nodup (a b : List (Int × List Attr)) : (keysA a b).Nodup := by
  unfold keysA
  have u0 : UniqI id ([] : List Int) := List.nodup_nil
  exact (srtZ_perm _).nodup_iff.2 (uniq_id (addS_uniq (addS_uniq u0)))

/-! ### All of it -/
def twL (a b : List DOp) : List DOp := tw1 (playP a).1 (playP b).1 ++ tw2 (playP a).1 (playP b).1 ++ tw3 (playP a).2 (playP b).2
structure LedP (S T : List DItem × List (Int × List Attr)) : Prop where
  has : ∀ k x, findI T.1 k = some x → findI S.1 k = some x
  away : ∀ k x, findI T.1 k = none → findI S.1 k = some x → x.parent = -1
  ats : ∀ k, findA S.2 k = findA T.2 k
theorem mv1_pos {T : List DItem} {x : DItem} : ∀ o ∈ mv1 T x, o.itm = x.item := by
  intro o ho
  unfold mv1 at ho
  split at ho
  · rw [List.mem_singleton] at ho; subst ho; rfl
  · cases ho
theorem tw_play {a b : List DOp} (ha : ∀ o ∈ a, 0 < o.itm) (hb : ∀ o ∈ b, 0 < o.itm) (va : AV (playP a).2) (vb : AV (playP b).2) : LedP ((twL a b).foldl stepP (playP a)) (playP b) := by
  have hN := playP_ok' ha
  have hT := playP_ok' hb
  obtain ⟨rT, hrT⟩ := play_its hb
  obtain ⟨rN, hrN⟩ := play_its ha
  obtain ⟨oN1, oN2⟩ := ordO_ok hrN
  obtain ⟨oT1, oT2⟩ := ordO_ok hrT
  have hs : ∀ x ∈ ordO (playP a).1, x ∈ (playP a).1 := oN1.sub
  obtain ⟨t1, t2⟩ := tw1_fold (N := (playP a).1) (T := (playP b).1) hN.nil hN.uniq (ordO (playP a).1) hs (playP a) [] (fun k => by simp)
  have hall : ∀ k, findI (((ordO (playP a).1).flatMap (mv1 (playP b).1)).foldl stepP (playP a)).1 k = awayI (playP a).1 (playP b).1 k := fun k => by
    rw [t2 k, List.nil_append]
    split
    · rfl
    · rename_i hk
      have hf : findI (playP a).1 k = none := by
        cases hf : findI (playP a).1 k with
        | none => rfl
        | some x =>
          obtain ⟨h1, h2⟩ := find_at hf
          exact absurd (h2 ▸ oN2 x h1) hk
      unfold awayI
      rw [hf]; simp
  have ok1 := hN.fold (l := (ordO (playP a).1).flatMap (mv1 (playP b).1)) (fun o ho => by
    obtain ⟨x, hx, ho⟩ := List.mem_flatMap.1 ho
    rw [mv1_pos o ho]; exact hrN.pos x (hs x hx))
  have st2 := tw2_fold hrT hT.nil hN.nil ⟨_, ok1⟩ hall oT1
  have hS2 : (((ordO (playP b).1).flatMap (mv2 (playP a).1)).foldl stepP (((ordO (playP a).1).flatMap (mv1 (playP b).1)).foldl stepP (playP a))).2 = (playP a).2 := st2.a.trans t1
  obtain ⟨u1, u2⟩ := tw3_fold va vb (keysA (playP a).2 (playP b).2) (keysA_nodup _ _) (((ordO (playP b).1).flatMap (mv2 (playP a).1)).foldl stepP (((ordO (playP a).1).flatMap (mv1 (playP b).1)).foldl stepP (playP a))) (fun k _ => by rw [hS2])
  have e : (twL a b).foldl stepP (playP a) = ((keysA (playP a).2 (playP b).2).flatMap (sts (playP a).2 (playP b).2)).foldl stepP (((ordO (playP b).1).flatMap (mv2 (playP a).1)).foldl stepP (((ordO (playP a).1).flatMap (mv1 (playP b).1)).foldl stepP (playP a))) := by
    unfold twL
    rw [List.foldl_append, List.foldl_append]; rfl
  rw [e]
  refine ⟨fun k x hx => ?_, fun k x hk hx => ?_, fun k => ?_⟩
  · rw [u1, st2.f k, if_pos, hx]
    obtain ⟨h1, h2⟩ := find_at hx
    rw [← h2]; exact oT2 x h1
  · rw [u1, st2.f k, if_neg] at hx
    · exact away_none (by rw [hk]; rfl) x hx
    · intro hm
      obtain ⟨z, hz, rfl⟩ := List.mem_map.1 hm
      have : findI (playP b).1 z.item = some z := find_uniq hrT.uq (oT1.sub z hz)
      rw [this] at hk; cases hk
  · rw [u2 k]
    split
    · rfl
    · rename_i hk
      rw [keysA_mem, not_or] at hk
      rw [hS2, findA_no hk.1, findA_no hk.2]
/-- From a drawing that is led to another one, nothing is left to do. -/
theorem tw_none {a b : List DOp} (ha : ∀ o ∈ a, 0 < o.itm) (hb : ∀ o ∈ b, 0 < o.itm) (vb : AV (playP b).2) (h : LedP (playP a) (playP b)) : twL a b = [] := by
  obtain ⟨rT, hrT⟩ := play_its hb
  obtain ⟨rN, hrN⟩ := play_its ha
  have oN1 := (ordO_ok hrN).1
  have oT1 := (ordO_ok hrT).1
  have e1 : tw1 (playP a).1 (playP b).1 = [] := by
    unfold tw1
    rw [List.flatMap_eq_nil_iff]
    intro x hx
    have hx := oN1.sub x hx
    unfold mv1
    rw [if_neg]
    rintro ⟨h1, h2⟩
    have hf : findI (playP b).1 x.item = none := by simpa using h1
    exact h2 (h.away _ x hf (find_uniq hrN.uq hx))
  have e2 : tw2 (playP a).1 (playP b).1 = [] := by
    unfold tw2
    rw [List.flatMap_eq_nil_iff]
    intro x hx
    have hx := oT1.sub x hx
    have := h.has x.item x (find_uniq hrT.uq hx)
    unfold mv2
    rw [this]
    simp only
    rw [if_neg]
    rintro (q | q)
    · exact q rfl
    · rw [seq_refl] at q; cases q
  have e3 : tw3 (playP a).2 (playP b).2 = [] := by
    unfold tw3
    rw [List.flatMap_eq_nil_iff]
    intro k _
    unfold sts
    rw [h.ats k]
    have hv := vb.find k
    cases hc : fm chgG (findA (playP b).2 k) (findA (playP b).2 k) with
    | nil => rfl
    | cons x l => exact absurd rfl (between_differs np_mt vp_mt hv hv (x := x) (by rw [hc]; exact List.mem_cons_self))
  unfold twL
  rw [e1, e2, e3]; rfl
end Go.Ch
end
section
set_option linter.unusedVariables false
set_option linter.unusedSimpArgs false
set_option maxRecDepth 100000
namespace Go.Ch
open Go Go.Ab

theorem opE_mov {c s k p : Int} {pl : ByteArray} (hc : 1 ≤ c ∧ c ≤ 1073741824) (hs : 0 ≤ s ∧ s ≤ 1000) (hk : 1 ≤ k ∧ k ≤ 1073741824) (hp : -1 ≤ p ∧ p ≤ 1073741824) (hpl : placeB pl = true) : opE ⟨c, s, 0, k, p, pl, mt, mt⟩ = 0 := by
  have hm : seq mt mt = true := seq_refl mt
  unfold opE
  simp only []
  rw [if_neg (by omega), if_neg (by omega), if_neg (by rw [hm]; simp), if_neg (by omega), if_neg (by rw [hpl]; simp), if_neg (by omega)]
theorem opE_set {c s k : Int} {n v : ByteArray} (hc : 1 ≤ c ∧ c ≤ 1073741824) (hs : 0 ≤ s ∧ s ≤ 1000) (hk : 1 ≤ k ∧ k ≤ 1073741824) (hn : nameGo n = true) (hv : v = mt ∨ valGo v = true) : opE ⟨c, s, 1, k, 0, mt, n, v⟩ = 0 := by
  have hm : seq mt mt = true := seq_refl mt
  unfold opE
  simp only []
  rw [if_neg (by omega), if_neg (by omega), if_neg (by rw [hm]; simp), if_neg (by omega), if_neg (by rw [hn]; simp), if_neg]
  rintro ⟨-, h1, h2⟩
  rcases hv with h | h
  · subst h; rw [hm] at h1; cases h1
  · rw [h] at h2; cases h2
theorem opE_out {o : DOp} (h : opE o = 0) : (1 ≤ o.itm ∧ o.itm ≤ 1073741824) ∧ ((o.kind = 0 ∧ -1 ≤ o.prt ∧ o.prt ≤ 1073741824 ∧ placeB o.plc = true) ∨ (o.kind = 1 ∧ nameGo o.nm = true ∧ (o.vl = mt ∨ valGo o.vl = true))) := by
  unfold opE at h
  split at h
  · cases h
  rename_i h1
  split at h
  · cases h
  rename_i h2
  split at h
  · cases h
  rename_i h3
  split at h
  · cases h
  rename_i h4
  split at h
  · cases h
  rename_i h5
  split at h
  · cases h
  rename_i h6
  refine ⟨by omega, ?_⟩
  by_cases hk : o.kind = 0
  · refine .inl ⟨hk, by omega, by omega, ?_⟩
    cases hp : placeB o.plc with
    | true => rfl
    | false => exact absurd (.inl ⟨hk, hp⟩) h5
  · have hk1 : o.kind = 1 := by omega
    refine .inr ⟨hk1, ?_, ?_⟩
    · cases hp : nameGo o.nm with
      | true => rfl
      | false => exact absurd (.inr ⟨hk1, hp⟩) h5
    · cases hs : seq o.vl mt with
      | true => exact .inl (seq_iff.1 hs)
      | false =>
        cases hv : valGo o.vl with
        | true => exact .inr rfl
        | false => exact absurd ⟨hk1, hs, hv⟩ h6
structure PlV (s : List DItem × List (Int × List Attr)) : Prop where
  its : ∀ x ∈ s.1, 1 ≤ x.item ∧ x.item ≤ 1073741824 ∧ -1 ≤ x.parent ∧ x.parent ≤ 1073741824 ∧ placeB x.place = true
  ats : ∀ p ∈ s.2, 1 ≤ p.1 ∧ p.1 ≤ 1073741824
  av : AV s.2
theorem PlV.step {s : List DItem × List (Int × List Attr)} (h : PlV s) {o : DOp} (ho : opE o = 0) : PlV (stepP s o) := by
  obtain ⟨h1, h2⟩ := opE_out ho
  unfold stepP
  split
  · rename_i hk
    obtain ⟨-, hn, hv⟩ := h2.resolve_left (fun q => by omega)
    have hq : VG true [⟨o.nm, o.vl⟩] := vg_one ⟨hn, hv.symm.imp id (fun e => ⟨rfl, e⟩)⟩
    have hr := raw_V np_mt (h.av.find o.itm) hq
    refine ⟨h.its, fun p hp => ?_, fun p hp => ?_⟩
    · rcases putK_mem hp with rfl | hp
      · exact h1
      · exact h.ats p hp
    · rcases putK_mem hp with rfl | hp
      · exact hr
      · exact h.av p hp
  · rename_i hk
    split
    · exact h
    · obtain ⟨-, hp1, hp2, hp3⟩ := h2.resolve_right (fun q => hk q.1)
      refine ⟨fun x hx => ?_, h.ats, h.av⟩
      rcases putK_mem hx with rfl | hx
      · exact ⟨h1.1, h1.2, hp1, hp2, hp3⟩
      · exact h.its x hx
theorem PlV.fold : ∀ {l : List DOp} {s : List DItem × List (Int × List Attr)}, PlV s → (∀ o ∈ l, opE o = 0) → PlV (l.foldl stepP s)
  | [], s, h, _ => h
  | o :: l, s, h, hl => PlV.fold (l := l) (h.step (hl o List.mem_cons_self)) (fun x hx => hl x (List.mem_cons_of_mem _ hx))
theorem playP_V {l : List DOp} (hl : ∀ o ∈ l, opE o = 0) : PlV (playP l) := PlV.fold ⟨(fun x hx => by cases hx), (fun x hx => by cases hx), (fun x hx => by cases hx)⟩ hl

/-! ### How many -/
def szA (l : List (Int × List Attr)) : Nat := (l.map fun p => p.2.length).sum
def szP (s : List DItem × List (Int × List Attr)) : Nat := s.1.length + szA s.2
theorem findA_cons (p : Int × List Attr) (l : List (Int × List Attr)) (k : Int) : findA (p :: l) k = if p.1 = k then p.2 else findA l k := by
  unfold findA
  rw [List.find?_cons]
  by_cases h : p.1 = k
  · rw [if_pos h, bqT h]; rfl
  · rw [if_neg h, bqF h]
theorem szA_put (k : Int) (a : List Attr) : ∀ (l : List (Int × List Attr)), szA (putK Prod.fst l (k, a)) + (findA l k).length = szA l + a.length
  | [] => by simp [szA, putK, findA]
  | p :: l => by
    have ih := szA_put k a l
    simp only [putK]
    rw [findA_cons]
    by_cases h : k = p.1
    · rw [if_pos h, if_pos h.symm]
      simp only [szA, List.map_cons, List.sum_cons] at *; omega
    · rw [if_neg h, if_neg (fun e => h e.symm)]
      simp only [szA, List.map_cons, List.sum_cons] at *; omega
theorem szP_step (s : List DItem × List (Int × List Attr)) (o : DOp) : szP (stepP s o) ≤ szP s + 1 := by
  unfold stepP
  split
  · have h1 := szA_put o.itm (fm rawG (findA s.2 o.itm) [⟨o.nm, o.vl⟩]) s.2
    have h2 := fm_len rawG (findA s.2 o.itm) [⟨o.nm, o.vl⟩]
    unfold szP
    simp only [List.length_cons, List.length_nil] at *; omega
  · split
    · omega
    · have := putK_len (key := DItem.item) (l := s.1) (x := ⟨o.itm, o.prt, o.plc, []⟩)
      unfold szP
      simp only at *; omega
theorem szP_fold : ∀ (l : List DOp) (s : List DItem × List (Int × List Attr)), szP (l.foldl stepP s) ≤ szP s + l.length
  | [], s => by simp
  | o :: l, s => by
    have h1 := szP_fold l (stepP s o)
    have h2 := szP_step s o
    rw [List.foldl_cons, List.length_cons]; omega
theorem szP_play (l : List DOp) : szP (playP l) ≤ l.length := by
  have := szP_fold l ([], [])
  unfold playP
  simpa [szP, szA] using this
theorem ordO_le {its : List DItem} {r : Int → Nat} (h : Its its r) : (ordO its).length ≤ its.length := by
  have ho := (ordO_ok h).1
  refine nodup_sub _ _ ?_ ho.sub
  have := ho.uniq
  exact (List.pairwise_map.1 this).imp (fun h e => h (congrArg _ e))
theorem flat_le {α : Type} {f : α → List DOp} {l : List α} (h : ∀ x ∈ l, (f x).length ≤ 1) : (l.flatMap f).length ≤ l.length := by
  induction l with
  | nil => simp
  | cons a l ih =>
    have h1 := h a List.mem_cons_self
    have h2 := ih (fun x hx => h x (List.mem_cons_of_mem _ hx))
    rw [List.flatMap_cons, List.length_append, List.length_cons]; omega
theorem mv1_len (T : List DItem) (x : DItem) : (mv1 T x).length ≤ 1 := by unfold mv1; split <;> simp
theorem mv2_len (N : List DItem) (x : DItem) : (mv2 N x).length ≤ 1 := by
  unfold mv2
  split
  · simp
  · split <;> simp
def sumF (l : List (Int × List Attr)) (ks : List Int) : Nat := (ks.map fun k => (findA l k).length).sum
theorem sumF_cons (p : Int × List Attr) (l : List (Int × List Attr)) : ∀ (ks : List Int), ks.Nodup → sumF (p :: l) ks ≤ (if p.1 ∈ ks then p.2.length else 0) + sumF l ks
  | [], _ => by simp [sumF]
  | k :: ks, hn => by
    rw [List.nodup_cons] at hn
    have ih := sumF_cons p l ks hn.2
    unfold sumF at *
    rw [List.map_cons, List.sum_cons, List.map_cons, List.sum_cons, findA_cons]
    by_cases h : p.1 = k
    · subst h
      rw [if_neg hn.1] at ih
      rw [if_pos rfl, if_pos List.mem_cons_self]
      omega
    · rw [if_neg h]
      by_cases hm : p.1 ∈ ks
      · rw [if_pos hm] at ih
        rw [if_pos (List.mem_cons_of_mem _ hm)]; omega
      · rw [if_neg hm] at ih
        rw [if_neg (fun q => (List.mem_cons.1 q).elim h hm)]; omega
theorem sumF_le : ∀ (l : List (Int × List Attr)) (ks : List Int), ks.Nodup → sumF l ks ≤ szA l
  | [], ks, _ => by
    have : ∀ ks : List Int, sumF [] ks = 0 := by
      intro ks
      induction ks with
      | nil => rfl
      | cons k ks ih => unfold sumF at *; rw [List.map_cons, List.sum_cons, ih]; rfl
    rw [this]; exact Nat.zero_le _
  | p :: l, ks, hn => by
    have h1 := sumF_cons p l ks hn
    have h2 := sumF_le l ks hn
    have h3 : szA (p :: l) = p.2.length + szA l := by simp [szA]
    rw [h3]
    split at h1 <;> omega
theorem tw3_len (a b : List (Int × List Attr)) : (tw3 a b).length ≤ szA a + szA b := by
  have h1 := sumF_le a _ (keysA_nodup a b)
  have h2 := sumF_le b _ (keysA_nodup a b)
  have key : ∀ ks : List Int, (ks.flatMap (sts a b)).length ≤ sumF a ks + sumF b ks := by
    intro ks
    induction ks with
    | nil => simp
    | cons k ks ih =>
      have := fm_len chgG (findA a k) (findA b k)
      unfold sumF at *
      rw [List.flatMap_cons, List.length_append, List.map_cons, List.sum_cons, List.map_cons, List.sum_cons]
      have e : (sts a b k).length = (fm chgG (findA a k) (findA b k)).length := by unfold sts; rw [List.length_map]
      omega
  have := key (keysA a b)
  unfold tw3; omega
theorem twL_len {a b : List DOp} (ha : ∀ o ∈ a, 0 < o.itm) (hb : ∀ o ∈ b, 0 < o.itm) : (twL a b).length ≤ a.length + b.length := by
  obtain ⟨rT, hrT⟩ := play_its hb
  obtain ⟨rN, hrN⟩ := play_its ha
  have h1 := szP_play a
  have h2 := szP_play b
  have h3 := ordO_le hrN
  have h4 := ordO_le hrT
  have h5 := flat_le (l := ordO (playP a).1) (f := mv1 (playP b).1) (fun x _ => mv1_len _ x)
  have h6 := flat_le (l := ordO (playP b).1) (f := mv2 (playP a).1) (fun x _ => mv2_len _ x)
  have h7 := tw3_len (playP a).2 (playP b).2
  unfold twL
  rw [List.length_append, List.length_append]
  unfold tw1 tw2
  unfold szP at h1 h2
  omega

/-! ### They are valid -/
def OpV (o : DOp) : Prop := ∀ c s : Int, (1 ≤ c ∧ c ≤ 1073741824) → (0 ≤ s ∧ s ≤ 1000) → opE (stpO o c s) = 0
theorem twL_ok {a b : List DOp} (ha : ∀ o ∈ a, opE o = 0) (hb : ∀ o ∈ b, opE o = 0) : ∀ o ∈ twL a b, OpV o := by
  have va := playP_V ha
  have vb := playP_V hb
  obtain ⟨rT, hrT⟩ := play_its (l := b) (fun o ho => (opE_out (hb o ho)).1.1)
  obtain ⟨rN, hrN⟩ := play_its (l := a) (fun o ho => (opE_out (ha o ho)).1.1)
  intro o ho c s hc hs
  unfold twL at ho
  rw [List.mem_append, List.mem_append] at ho
  rcases ho with (ho | ho) | ho
  · obtain ⟨x, hx, ho⟩ := List.mem_flatMap.1 ho
    have hx := (ordO_ok hrN).1.sub x hx
    obtain ⟨q1, q2, q3, q4, q5⟩ := va.its x hx
    unfold mv1 at ho
    split at ho
    · rw [List.mem_singleton] at ho; subst ho
      exact opE_mov hc hs ⟨q1, q2⟩ ⟨by show (-1 : Int) ≤ -1; omega, by show (-1 : Int) ≤ 1073741824; omega⟩ q5
    · cases ho
  · obtain ⟨x, hx, ho⟩ := List.mem_flatMap.1 ho
    have hx := (ordO_ok hrT).1.sub x hx
    obtain ⟨q1, q2, q3, q4, q5⟩ := vb.its x hx
    have e : o = movO x.item x.parent x.place := by
      unfold mv2 at ho
      split at ho
      · rwa [List.mem_singleton] at ho
      · split at ho
        · rwa [List.mem_singleton] at ho
        · cases ho
    subst e
    exact opE_mov hc hs ⟨q1, q2⟩ ⟨q3, q4⟩ q5
  · obtain ⟨k, hk, ho⟩ := List.mem_flatMap.1 ho
    obtain ⟨x, hx, rfl⟩ := List.mem_map.1 ho
    have hk2 : 1 ≤ k ∧ k ≤ 1073741824 := by
      rcases keysA_mem.1 hk with h | h
      · obtain ⟨p, hp, rfl⟩ := List.mem_map.1 h; exact va.ats p hp
      · obtain ⟨p, hp, rfl⟩ := List.mem_map.1 h; exact vb.ats p hp
    obtain ⟨hn, hv⟩ := (chg_V np_mt (va.av.find k) (vb.av.find k)).2 x hx
    exact opE_set hc hs hk2 hn (hv.symm.imp (fun q => q.2) id)
theorem stpL_at {c s : Int} {l : List DOp} {o : DOp} (h : o ∈ stpL c s l) : ∃ i, i < l.length ∧ o = stpO (l.getD i default) (c + (i : Int)) s := by
  obtain ⟨i, hi, e⟩ := List.mem_iff_getElem.1 h
  rw [stpL_len] at hi
  refine ⟨i, hi, ?_⟩
  rw [← e]
  simp [stpL, List.getD, List.getElem?_eq_getElem hi]
theorem stpL_ok {c s : Int} {l : List DOp} (hl : ∀ o ∈ l, OpV o) (hc : 1 ≤ c) (hn : c + (l.length : Int) ≤ 1073741824) (hs : 0 ≤ s ∧ s ≤ 1000) :
    (∀ o ∈ stpL c s l, opE o = 0 ∧ c ≤ o.clock ∧ o.clock < c + (l.length : Int)) ∧ (stpL c s l).Pairwise ltO := by
  constructor
  · intro o ho
    obtain ⟨i, hi, rfl⟩ := stpL_at ho
    refine ⟨hl _ (getDO_mem hi) _ _ (by omega) hs, ?_, ?_⟩ <;> (show _ ; simp only [stpO]; omega)
  · rw [List.pairwise_iff_getElem]
    intro i j hi hj hij
    rw [stpL_len] at hi hj
    have e : ∀ i, (h : i < (stpL c s l).length) → ((stpL c s l)[i]).clock = c + (i : Int) := fun i h => by
      rw [← getDO h]; exact stpL_clock (by rwa [stpL_len] at h)
    left
    rw [e, e]; omega
theorem union_after : ∀ (x y : List DOp), (∀ a ∈ x, ∀ b ∈ y, ltO a b) → unionO x y = some (x ++ y)
  | [], [], _ => by rw [unionO]; rfl
  | [], b :: r, h => by
    rw [unionO, union_after [] r (fun a ha => by cases ha)]; rfl
  | a :: l, [], h => by
    rw [unionO, union_after l [] (fun a _ b hb => by cases hb)]; simp
  | a :: l, b :: r, h => by
    rw [unionO, if_pos (h a List.mem_cons_self b List.mem_cons_self), union_after l (b :: r) (fun x hx y hy => h x (List.mem_cons_of_mem _ hx) y hy)]; rfl
theorem draw_pos {l : List DOp} (h : ∀ o ∈ l, opE o = 0) : ∀ o ∈ l, 0 < o.itm := fun o ho => by have := (opE_out (h o ho)).1.1; omega

/-! ### Items that lead -/
theorem rawI_mem {l : List DOp} (hl : ∀ o ∈ l, 0 < o.itm) {x : DItem} : x ∈ rawI l ↔ x ∈ itsF l := by
  obtain ⟨r, hr⟩ := itsF_ok hl
  have hW : ∀ x ∈ walkF l, x ∈ itsF l := fun x hx => (walkI_below _ hx).1
  have hS : ∀ x, x ∈ srtN (itsF l) ↔ x ∈ itsF l := fun x => (srtO_perm ltN _).mem_iff
  constructor
  · intro hx
    unfold rawI at hx
    rcases List.mem_append.1 hx with h | h
    · exact hW x h
    · exact (hS x).1 (List.mem_filter.1 h).1
  · intro hx
    unfold rawI
    by_cases hm : x.item ∈ (walkF l).map DItem.item
    · obtain ⟨y, hy, e⟩ := List.mem_map.1 hm
      rw [hr.uq.uniq x hx y (hW y hy) e.symm]
      exact List.mem_append_left _ hy
    · exact List.mem_append_right _ (List.mem_filter.2 ⟨(hS x).2 hx, by simpa using hm⟩)
theorem rawI_uniq {l : List DOp} (hl : ∀ o ∈ l, 0 < o.itm) : UniqI DItem.item (rawI l) := by
  obtain ⟨r, h⟩ := rawI_tree hl
  exact h.uq
theorem findX_spec {l : List DItem} {k : Int} : ∀ (d i : Nat), l.length - i = d → (findX l k i = -1 ∧ ∀ j, i ≤ j → j < l.length → (l.getD j default).item ≠ k) ∨ (0 ≤ findX l k i ∧ (findX l k i).toNat < l.length ∧ (l.getD (findX l k i).toNat default).item = k)
  | 0, i, h => by rw [findX, if_neg (by omega)]; exact .inl ⟨rfl, fun j h1 h2 => by omega⟩
  | d + 1, i, h => by
    rw [findX, if_pos (by omega)]
    split
    · rename_i e; right; exact ⟨by omega, by omega, by simpa using e⟩
    · rename_i e
      rcases findX_spec (l := l) (k := k) d (i + 1) (by omega) with ⟨h1, h2⟩ | h
      · refine .inl ⟨h1, fun j hj hl => ?_⟩
        by_cases ej : j = i
        · subst ej; exact e
        · exact h2 j (by omega) hl
      · exact .inr h
theorem leads_of {now want : List DItem} (hu : UniqI DItem.item now) (h1 : ∀ w ∈ want, w ∈ now) (h2 : ∀ x ∈ now, (∀ w ∈ want, w.item ≠ x.item) → x.parent = -1) : leadsB now want = true := by
  have a1 : ∀ (d i : Nat), want.length - i = d → ld1 now want i = true := by
    intro d
    induction d with
    | zero => intro i h; rw [ld1, if_neg (by omega)]
    | succ d ih =>
      intro i h
      have hw := h1 _ (getDI_mem (l := want) (i := i) (by omega))
      rw [ld1, if_pos (by omega), if_neg, ih (i + 1) (by omega)]
      rcases findX_spec (l := now) (k := (want.getD i default).item) _ 0 rfl with ⟨q1, q2⟩ | ⟨q1, q2, q3⟩
      · obtain ⟨j, hj, e⟩ := List.mem_iff_getElem.1 hw
        have := q2 j (Nat.zero_le _) hj
        rw [getDI hj, e] at this
        exact absurd rfl this
      · rintro (q | q)
        · omega
        · have e := hu.uniq _ (getDI_mem q2) _ hw q3
          rw [e, sameI_refl] at q; cases q
  have a2 : ∀ (d i : Nat), now.length - i = d → ld2 now want i = true := by
    intro d
    induction d with
    | zero => intro i h; rw [ld2, if_neg (by omega)]
    | succ d ih =>
      intro i h
      rw [ld2, if_pos (by omega), if_neg, ih (i + 1) (by omega)]
      rintro ⟨q1, q2⟩
      rcases findX_spec (l := want) (k := (now.getD i default).item) _ 0 rfl with ⟨k1, k2⟩ | ⟨k1, -, -⟩
      · refine q2 (h2 _ (getDI_mem (by omega)) (fun w hw e => ?_))
        obtain ⟨j, hj, ej⟩ := List.mem_iff_getElem.1 hw
        exact k2 j (Nat.zero_le _) hj (by rw [getDI hj, ej]; exact e)
      · omega
  unfold leadsB
  rw [a1 _ 0 rfl, a2 _ 0 rfl]; rfl
theorem led_leads {a b : List DOp} (ha : ∀ o ∈ a, 0 < o.itm) (hb : ∀ o ∈ b, 0 < o.itm) (h : LedP (playP a) (playP b)) : leadsB (rawI a) (rawI b) = true := by
  have hN := playP_ok' ha
  have hT := playP_ok' hb
  refine leads_of (rawI_uniq ha) (fun w hw => ?_) (fun x hx hn => ?_)
  · rw [rawI_mem hb] at hw
    rw [rawI_mem ha]
    unfold itsF at hw ⊢
    obtain ⟨y, hy, rfl⟩ := List.mem_map.1 hw
    have := h.has y.item y (find_uniq hT.uniq hy)
    refine List.mem_map.2 ⟨y, (find_at this).1, ?_⟩
    unfold fullI
    rw [h.ats]
  · rw [rawI_mem ha] at hx
    unfold itsF at hx
    obtain ⟨y, hy, rfl⟩ := List.mem_map.1 hx
    refine h.away y.item y ?_ (find_uniq hN.uniq hy)
    cases hf : findI (playP b).1 y.item with
    | none => rfl
    | some z =>
      obtain ⟨z1, z2⟩ := find_at hf
      exact absurd z2 (hn (fullI (playP b).2 z) ((rawI_mem hb).2 (List.mem_map_of_mem z1)))

/-! ### One way -/
structure TwOk (a b t : List DOp) (c : Int) : Prop where
  len : t.length ≤ a.length + b.length
  val : drawE (a ++ t) 0 = 0
  vt : drawE t 0 = 0
  uni : unionO a t = some (a ++ t)
  clk : ∀ o ∈ a ++ t, o.clock < c + (a.length : Int) + (b.length : Int)
  led : LedP (playP (a ++ t)) (playP b)
theorem tw_ok {a b : List DOp} {c s : Int} (ha : drawE a 0 = 0) (hb : drawE b 0 = 0) (hc : 1 ≤ c) (hn : c + (a.length : Int) + (b.length : Int) ≤ 1073741824) (hs : 0 ≤ s ∧ s ≤ 1000) (hl : ∀ o ∈ a, o.clock < c) :
    TwOk a b (stpL c s (twL a b)) c := by
  obtain ⟨a1, a2⟩ := draw_iff.1 ha
  obtain ⟨b1, b2⟩ := draw_iff.1 hb
  have hlen := twL_len (draw_pos a1) (draw_pos b1)
  obtain ⟨t1, t2⟩ := stpL_ok (s := s) (twL_ok a1 b1) hc (by omega) hs
  have hlt : ∀ x ∈ a, ∀ y ∈ stpL c s (twL a b), ltO x y := fun x hx y hy => by
    have h1 := hl x hx
    have h2 := (t1 y hy).2.1
    left; omega
  refine ⟨by rw [stpL_len]; exact hlen, draw_iff.2 ⟨fun o ho => ?_, List.pairwise_append.2 ⟨a2, t2, hlt⟩⟩, draw_iff.2 ⟨fun o ho => (t1 o ho).1, t2⟩, union_after _ _ hlt, fun o ho => ?_, ?_⟩
  · rcases List.mem_append.1 ho with h | h
    · exact a1 o h
    · exact (t1 o h).1
  · rcases List.mem_append.1 ho with h | h
    · have := hl o h; omega
    · have := (t1 o h).2.2; omega
  · rw [play_append, fold_stp]
    exact tw_play (draw_pos a1) (draw_pos b1) (playP_V a1).av (playP_V b1).av
theorem last_lt {a : List DOp} {c : Int} (h : ∀ o ∈ a, o.clock < c) : 0 < a.length → (a.getD (a.length - 1) default).clock < c := fun h0 => h _ (getDO_mem (by omega))
end Go.Ch
end
section
set_option linter.unusedVariables false
set_option linter.unusedSimpArgs false
set_option maxRecDepth 100000
set_option maxHeartbeats 4000000
open Go Go.Proofs Go.Ab
namespace Go.Ch
theorem fc_towardsV (a b : List DOp) (c : Int) (ha : drawE a 0 = 0) (hb : drawE b 0 = 0) (hn : a.length ≤ 100) (hm : b.length ≤ 100) (hc : 1 ≤ c ∧ c ≤ 10000) (hl : ∀ o ∈ a, o.clock < c) :
    FC Try.prog 18 [VL 8 dopT a, VL 8 dopT b, VI c, VI 3] (app emp []) (.tup [VL 8 dopT (stpL c 3 (twL a b)), VI 0]) (app emp []) := by
  have h1 := twL_len (draw_pos (draw_iff.1 ha).1) (draw_pos (draw_iff.1 hb).1)
  exact fc_towards a b c 3 ha hb (by omega) (by omega) (by omega) (by decide) (last_lt hl) (by show c + ((twL a b).length : Int) ≤ 1073741824; omega)
theorem fc_joinA (a t : List DOp) (ha : drawE a 0 = 0) (ht : drawE t 0 = 0) (hu : unionO a t = some (a ++ t)) (hn : a.length + t.length ≤ 1000) :
    FC Try.prog 9 [VL 8 dopT a, VL 8 dopT t] (app emp []) (.tup [VL 8 dopT (a ++ t), VI 0]) (app emp []) := by
  have h := fc_djoin a t (by omega)
  have e1 : (if drawE a 0 = 0 ∧ drawE t 0 = 0 then (unionO a t).getD [] else []) = a ++ t := by rw [if_pos ⟨ha, ht⟩, hu]; rfl
  have e2 : (if drawE a 0 ≠ 0 then drawE a 0 else if drawE t 0 ≠ 0 then drawE t 0 else if (unionO a t).isSome then 0 else 6) = 0 := by rw [ha, ht, hu]; rfl
  rw [e1, e2] at h
  exact h
theorem fc_itemsA (l : List DOp) (hl : drawE l 0 = 0) (hn : l.length ≤ 1000) : FC Try.prog 11 [VL 8 dopT l] (app emp []) (.tup [VL 4 ditT (rawI l), VI 0]) (app emp []) := by
  have h := fc_items l (by omega)
  rw [hl, if_pos rfl] at h
  exact h

theorem fc_towBack (p q : List Int) : FC Try.prog 6 [VL 1 intT p, VL 1 intT q] (app emp []) (VB true) (app emp []) := by
 refine .go Try.f6 ?_
 refine .len 0 (fun hl0 => ?_)
 refine .len 1 (fun hl1 => ?_)
 have hU := U3_ok p q []
 have hA := (U3_1 p q []).ok hU
 have hB := (U3_2 p q []).ok hU
 have lA := paintI_len p 1
 have lB := paintI_len q 2
 have cA : ∀ o ∈ (paintI p 1), o.clock < 100 := fun o ho => by have := (paint_site (by decide) ho).2.2.1; omega
 have k1 := tw_ok (s := 3) hA hB (c := 100) (by decide) (by omega) (by decide) cA
 have n1 := k1.len
 have v1 := k1.val
 have w1 := k1.vt
 have u1 := k1.uni
 have cL : ∀ o ∈ ((paintI p 1) ++ (stpL 100 3 (twL (paintI p 1) (paintI q 2)))), o.clock < 200 := fun o ho => by have := k1.clk o ho; omega
 have lL : ((paintI p 1) ++ (stpL 100 3 (twL (paintI p 1) (paintI q 2)))).length ≤ 36 := by rw [List.length_append]; omega
 have k2 := tw_ok (s := 3) v1 hA (c := 200) (by decide) (by omega) (by decide) cL
 have n2 := k2.len
 have v2 := k2.val
 have w2 := k2.vt
 have u2 := k2.uni
 have cG : ∀ o ∈ (((paintI p 1) ++ (stpL 100 3 (twL (paintI p 1) (paintI q 2)))) ++ (stpL 200 3 (twL ((paintI p 1) ++ (stpL 100 3 (twL (paintI p 1) (paintI q 2)))) (paintI p 1)))), o.clock < 300 := fun o ho => by have := k2.clk o ho; omega
 have lG : (((paintI p 1) ++ (stpL 100 3 (twL (paintI p 1) (paintI q 2)))) ++ (stpL 200 3 (twL ((paintI p 1) ++ (stpL 100 3 (twL (paintI p 1) (paintI q 2)))) (paintI p 1)))).length ≤ 84 := by rw [List.length_append]; omega
 have pA := draw_pos (draw_iff.1 hA).1
 have e3 : twL (((paintI p 1) ++ (stpL 100 3 (twL (paintI p 1) (paintI q 2)))) ++ (stpL 200 3 (twL ((paintI p 1) ++ (stpL 100 3 (twL (paintI p 1) (paintI q 2)))) (paintI p 1)))) (paintI p 1) = [] := tw_none (draw_pos (draw_iff.1 v2).1) pA (playP_V (draw_iff.1 hA).1).av k2.led
 have d1 := led_leads (draw_pos (draw_iff.1 v1).1) (draw_pos (draw_iff.1 hB).1) k1.led
 have d2 := led_leads (draw_pos (draw_iff.1 v2).1) pA k2.led
 refine .br [.r [], .r [(0, X (Xc0 fc_draws X0))], .f, .r [(1, X (Xc1 32 (fc_paints p 1) X0)), (3, X (Xc1 48 (fc_paints q 2) X0))], .r [(2, X (Xc1 88 (fc_towardsV (paintI p 1) (paintI q 2) 100 (by assumption) (by assumption) (by omega) (by omega) (by omega) (by assumption)) X0))], .r [(2, X (Xc1 152 (fc_joinA (paintI p 1) (stpL 100 3 (twL (paintI p 1) (paintI q 2))) (by assumption) (by assumption) (by assumption) (by omega)) X0))], .r [(2, X (Xc1 216 (fc_towardsV ((paintI p 1) ++ (stpL 100 3 (twL (paintI p 1) (paintI q 2)))) (paintI p 1) 200 (by assumption) (by assumption) (by omega) (by omega) (by omega) (by assumption)) X0))], .r [(2, X (Xc1 280 (fc_joinA ((paintI p 1) ++ (stpL 100 3 (twL (paintI p 1) (paintI q 2)))) (stpL 200 3 (twL ((paintI p 1) ++ (stpL 100 3 (twL (paintI p 1) (paintI q 2)))) (paintI p 1))) (by assumption) (by assumption) (by assumption) (by omega)) X0))], .r [(4, Xv 1 (!false) X0), (5, X (Xk' false)), (8, Xv 1 (!(false || false)) X0), (9, X (Xk' (false || false))), (12, Xv 1 (!((false || false) || false)) X0), (13, X (Xk' ((false || false) || false)))]] (((false || false) || false) || false) (fun h8 => ?_) (fun h8 => ?_)
 ·
  (try simp only [Bool.or_eq_true, Bool.or_eq_false_iff] at h8)
  exfalso
  simp at h8
 ·
  (try simp only [Bool.or_eq_true, Bool.or_eq_false_iff] at h8)
  have e1 : (((((leadsB (rawI ((paintI p 1) ++ (stpL 100 3 (twL (paintI p 1) (paintI q 2))))) (rawI (paintI q 2))) && (leadsB (rawI (((paintI p 1) ++ (stpL 100 3 (twL (paintI p 1) (paintI q 2)))) ++ (stpL 200 3 (twL ((paintI p 1) ++ (stpL 100 3 (twL (paintI p 1) (paintI q 2)))) (paintI p 1))))) (rawI (paintI p 1)))) || false) && (((stpL 300 3 (twL (((paintI p 1) ++ (stpL 100 3 (twL (paintI p 1) (paintI q 2)))) ++ (stpL 200 3 (twL ((paintI p 1) ++ (stpL 100 3 (twL (paintI p 1) (paintI q 2)))) (paintI p 1)))) (paintI p 1))).length : Int) == 0)) : Bool) = true := by
   rw [d1, d2, e3]; rfl
  exact .finE [.r [(1, X (Xc1 448 (fc_itemsA ((paintI p 1) ++ (stpL 100 3 (twL (paintI p 1) (paintI q 2)))) (by assumption) (by omega)) X0))], .r [(1, X (Xc1 504 (fc_itemsA (paintI q 2) (by assumption) (by omega)) X0))], .r [(1, X (Xc1 560 (fc_itemsA (((paintI p 1) ++ (stpL 100 3 (twL (paintI p 1) (paintI q 2)))) ++ (stpL 200 3 (twL ((paintI p 1) ++ (stpL 100 3 (twL (paintI p 1) (paintI q 2)))) (paintI p 1)))) (by assumption) (by omega)) X0))], .r [(1, X (Xc1 616 (fc_itemsA (paintI p 1) (by assumption) (by omega)) X0))], .r [(2, X (Xc1 680 (fc_towardsV (((paintI p 1) ++ (stpL 100 3 (twL (paintI p 1) (paintI q 2)))) ++ (stpL 200 3 (twL ((paintI p 1) ++ (stpL 100 3 (twL (paintI p 1) (paintI q 2)))) (paintI p 1)))) (paintI p 1) 300 (by assumption) (by assumption) (by omega) (by omega) (by omega) (by assumption)) X0))], .r [(2, X (Xc0 (fc_leads (rawI ((paintI p 1) ++ (stpL 100 3 (twL (paintI p 1) (paintI q 2))))) (rawI (paintI q 2))) X0)), (6, Xv 2 (leadsB (rawI ((paintI p 1) ++ (stpL 100 3 (twL (paintI p 1) (paintI q 2))))) (rawI (paintI q 2))) (Xc0 (fc_leads (rawI (((paintI p 1) ++ (stpL 100 3 (twL (paintI p 1) (paintI q 2)))) ++ (stpL 200 3 (twL ((paintI p 1) ++ (stpL 100 3 (twL (paintI p 1) (paintI q 2)))) (paintI p 1))))) (rawI (paintI p 1))) X0)), (7, X (Xk (leadsB (rawI ((paintI p 1) ++ (stpL 100 3 (twL (paintI p 1) (paintI q 2))))) (rawI (paintI q 2))))), (10, Xv 1 ((leadsB (rawI ((paintI p 1) ++ (stpL 100 3 (twL (paintI p 1) (paintI q 2))))) (rawI (paintI q 2))) && (leadsB (rawI (((paintI p 1) ++ (stpL 100 3 (twL (paintI p 1) (paintI q 2)))) ++ (stpL 200 3 (twL ((paintI p 1) ++ (stpL 100 3 (twL (paintI p 1) (paintI q 2)))) (paintI p 1))))) (rawI (paintI p 1)))) X0), (11, X (Xk ((leadsB (rawI ((paintI p 1) ++ (stpL 100 3 (twL (paintI p 1) (paintI q 2))))) (rawI (paintI q 2))) && (leadsB (rawI (((paintI p 1) ++ (stpL 100 3 (twL (paintI p 1) (paintI q 2)))) ++ (stpL 200 3 (twL ((paintI p 1) ++ (stpL 100 3 (twL (paintI p 1) (paintI q 2)))) (paintI p 1))))) (rawI (paintI p 1)))))), (14, Xv 1 (((leadsB (rawI ((paintI p 1) ++ (stpL 100 3 (twL (paintI p 1) (paintI q 2))))) (rawI (paintI q 2))) && (leadsB (rawI (((paintI p 1) ++ (stpL 100 3 (twL (paintI p 1) (paintI q 2)))) ++ (stpL 200 3 (twL ((paintI p 1) ++ (stpL 100 3 (twL (paintI p 1) (paintI q 2)))) (paintI p 1))))) (rawI (paintI p 1)))) || false) (Xl dopT (stpL 300 3 (twL (((paintI p 1) ++ (stpL 100 3 (twL (paintI p 1) (paintI q 2)))) ++ (stpL 200 3 (twL ((paintI p 1) ++ (stpL 100 3 (twL (paintI p 1) (paintI q 2)))) (paintI p 1)))) (paintI p 1))))), (15, Xv 1 (((leadsB (rawI ((paintI p 1) ++ (stpL 100 3 (twL (paintI p 1) (paintI q 2))))) (rawI (paintI q 2))) && (leadsB (rawI (((paintI p 1) ++ (stpL 100 3 (twL (paintI p 1) (paintI q 2)))) ++ (stpL 200 3 (twL ((paintI p 1) ++ (stpL 100 3 (twL (paintI p 1) (paintI q 2)))) (paintI p 1))))) (rawI (paintI p 1)))) || false) X0), (16, X (Xk (((leadsB (rawI ((paintI p 1) ++ (stpL 100 3 (twL (paintI p 1) (paintI q 2))))) (rawI (paintI q 2))) && (leadsB (rawI (((paintI p 1) ++ (stpL 100 3 (twL (paintI p 1) (paintI q 2)))) ++ (stpL 200 3 (twL ((paintI p 1) ++ (stpL 100 3 (twL (paintI p 1) (paintI q 2)))) (paintI p 1))))) (rawI (paintI p 1)))) || false)))]] [] (fun z0 => (VB z0, [])) (((((leadsB (rawI ((paintI p 1) ++ (stpL 100 3 (twL (paintI p 1) (paintI q 2))))) (rawI (paintI q 2))) && (leadsB (rawI (((paintI p 1) ++ (stpL 100 3 (twL (paintI p 1) (paintI q 2)))) ++ (stpL 200 3 (twL ((paintI p 1) ++ (stpL 100 3 (twL (paintI p 1) (paintI q 2)))) (paintI p 1))))) (rawI (paintI p 1)))) || false) && (((stpL 300 3 (twL (((paintI p 1) ++ (stpL 100 3 (twL (paintI p 1) (paintI q 2)))) ++ (stpL 200 3 (twL ((paintI p 1) ++ (stpL 100 3 (twL (paintI p 1) (paintI q 2)))) (paintI p 1)))) (paintI p 1))).length : Int) == 0)) : Bool) (true : Bool) e1.symm
end Go.Ch
end
section
set_option linter.unusedVariables false
set_option linter.unusedSimpArgs false
namespace Go.Proofs.Ythpcjddcgdlilaa.frame
open Go Go.Proofs
def chs (l : List Nat) : List Char := l.map Char.ofNat
def w1 : List Char := chs [104, 97, 114, 110, 101, 115, 115]
def w2 : List Char := chs [55, 48, 97, 53, 57, 97, 100, 49, 99, 101, 48, 53, 97, 53, 57, 48, 98, 53, 51, 48, 99, 54, 53, 99, 53, 101, 53, 98, 101, 52, 52, 100, 50, 98, 49, 102, 97, 99, 54, 48, 101, 53, 102, 53, 49, 98, 57, 48, 55, 98, 56, 51, 53, 53, 51, 99, 54, 49, 99, 49, 97, 49, 99, 52]
def w3 : List Char := chs [99, 117, 116]
def sp : Char := Char.ofNat 32
theorem ws_sp (r : List Char) : wordsSigns (sp :: r) = [] :: wordsSigns r := rfl
theorem ws_c (c : Char) (r : List Char) (h : c ≠ sp) : wordsSigns (c :: r) = match wordsSigns r with
    | w :: ws => (c :: w) :: ws
    | [] => [[c]] := by
  rw [wordsSigns.eq_def]
  split
  · rename_i e; cases e
  · rename_i e; simp only [List.cons.injEq] at e; exact absurd e.1 h
  · rename_i e; simp only [List.cons.injEq] at e; obtain ⟨rfl, rfl⟩ := e; rfl
theorem ws_app : ∀ (a : List Char), (a.all fun c => c != sp) = true → ∀ r, wordsSigns (a ++ sp :: r) = a :: wordsSigns r
  | [], _, r => ws_sp r
  | c :: a, h, r => by
    simp only [List.all_cons, Bool.and_eq_true, bne_iff_ne] at h
    rw [List.cons_append, ws_c _ _ h.1, ws_app a h.2 r]
theorem tl (l : List Char) : (String.ofList l).toList = l := String.toList_ofList
theorem k1 : ("harness" : String).toList = w1 := tl w1
theorem k2 : ("cut" : String).toList = w3 := tl w3
theorem k3 : ("gc" : String).toList = chs [103, 99] := tl (chs [103, 99])
theorem k4 : ("spec" : String).toList = chs [115, 112, 101, 99] := tl (chs [115, 112, 101, 99])
theorem k5 : ("carried" : String).toList = chs [99, 97, 114, 114, 105, 101, 100] := tl (chs [99, 97, 114, 114, 105, 101, 100])
theorem lifts (r : List (List Char)) : stripLifts liftWords (w3 :: r) = ([], w3 :: r) := by
  unfold liftWords
  simp only [stripLifts]
  have key : ∀ l : List Nat, (w3 == chs l) = false → ∀ (s : String), s = String.ofList (chs l) → (w3 == s.toList) = false := fun l h s e => by rw [e, tl]; exact h
  rw [if_neg (by rw [key [102, 105, 110, 97, 108, 115] (by kernel_rfl) "finals" rfl]; decide)]
  rw [if_neg (by rw [key [114, 101, 102, 108, 101, 99, 116, 114, 111, 119, 115] (by kernel_rfl) "reflectrows" rfl]; decide)]
  rw [if_neg (by rw [key [108, 101, 97, 110, 114, 111, 119, 115] (by kernel_rfl) "leanrows" rfl]; decide)]
  rw [if_neg (by rw [key [111, 110, 101, 98, 117, 105, 108, 100] (by kernel_rfl) "onebuild" rfl]; decide)]
  rw [if_neg (by rw [key [112, 117, 98, 108, 105, 99, 115, 117, 109, 115] (by kernel_rfl) "publicsums" rfl]; decide)]
  rw [if_neg (by rw [key [101, 113, 103, 117, 97, 114, 100] (by kernel_rfl) "eqguard" rfl]; decide)]
  rw [if_neg (by rw [key [111, 119, 110, 117, 110, 115, 97, 102, 101] (by kernel_rfl) "ownunsafe" rfl]; decide)]
  rw [if_neg (by rw [key [108, 105, 98, 98, 101, 115, 105, 100, 101] (by kernel_rfl) "libbeside" rfl]; decide)]
  rw [if_neg (by rw [key [111, 119, 110, 98, 101, 115, 105, 100, 101] (by kernel_rfl) "ownbeside" rfl]; decide)]
  rw [if_neg (by rw [key [114, 101, 102, 108, 98, 101, 115, 105, 100, 101] (by kernel_rfl) "reflbeside" rfl]; decide)]
  rw [if_neg (by rw [key [97, 108, 105, 97, 115, 101, 115] (by kernel_rfl) "aliases" rfl]; decide)]
  rw [if_neg (by rw [key [97, 102, 116, 101, 114, 105, 110, 105, 116] (by kernel_rfl) "afterinit" rfl]; decide)]
  rw [if_neg (by rw [key [99, 114, 99, 112, 108, 97, 105, 110] (by kernel_rfl) "crcplain" rfl]; decide)]
  rw [if_neg (by rw [key [114, 111, 97, 100, 117, 110, 115, 97, 102, 101] (by kernel_rfl) "roadunsafe" rfl]; decide)]
  rw [if_neg (by rw [key [102, 109, 116, 104, 97, 110, 100, 111, 110] (by kernel_rfl) "fmthandon" rfl]; decide)]
theorem words {P : Program} {rest : List Char} (h : P.initOrder.toList = w1 ++ sp :: (w2 ++ sp :: (w3 ++ sp :: rest))) : behindMainWord (wordsSigns P.initOrder.toList) = w3 :: wordsSigns rest := by
  rw [h, ws_app w1 (by kernel_rfl), ws_app w2 (by kernel_rfl), ws_app w3 (by kernel_rfl)]
  unfold behindMainWord
  rw [k1]
  exact if_pos (by kernel_rfl)
theorem may {P : Program} {rest : List Char} (h : P.initOrder.toList = w1 ++ sp :: (w2 ++ sp :: (w3 ++ sp :: rest))) (hl : P.laysLater = false) (hb : P.bearsReflect = false) (hd : P.doorFits [] = true) : P.mayEnter = true := by
  unfold Program.mayEnter
  rw [words h]
  simp only [lifts, k2, k3, k4, k5, hl, hb, hd]
  have h1 : (w3 == chs [103, 99]) = false := by kernel_rfl
  have h2 : (w3 == chs [115, 112, 101, 99]) = false := by kernel_rfl
  have h3 : (w3 == chs [99, 97, 114, 114, 105, 101, 100]) = false := by kernel_rfl
  rw [h1, h2, h3]
  simp
theorem fin {P : Program} {rest : List Char} (h : P.initOrder.toList = w1 ++ sp :: (w2 ++ sp :: (w3 ++ sp :: rest))) : P.liftsFinal = false := by
  unfold Program.liftsFinal Program.headLifts
  rw [words h]
  simp only [lifts, k2, k5]
  have h3 : (w3 == chs [99, 97, 114, 114, 105, 101, 100]) = false := by kernel_rfl
  simp [h3]
theorem mk {P : Program} {rest : List Char} (h : P.initOrder.toList = w1 ++ sp :: (w2 ++ sp :: (w3 ++ sp :: rest))) : P.make = some .cut := by
  unfold Program.make
  rw [words h]
  simp only [k2, k3, k4, k5]
  have h1 : (w3 == chs [103, 99]) = false := by kernel_rfl
  have h2 : (w3 == chs [115, 112, 101, 99]) = false := by kernel_rfl
  rw [h1, h2]
  simp
theorem head : Try.pinned.checked.prog.initOrder = String.ofList (w1 ++ sp :: (w2 ++ sp :: (w3 ++ sp :: chs [97, 116, 32, 99, 104, 97, 110, 99, 101, 114, 121, 47, 99, 104, 97, 110, 99, 101, 114, 121, 107, 101, 101, 112, 49, 46, 82, 101, 112, 108, 105, 99, 97, 65, 110, 121, 79, 114, 100, 101, 114, 32, 99, 104, 97, 110, 99, 101, 114, 121, 47, 99, 104, 97, 110, 99, 101, 114, 121, 107, 101, 101, 112, 49, 46, 82, 101, 112, 108, 105, 99, 97, 66, 101, 116, 119, 101, 101, 110, 73, 110, 115, 101, 114, 116, 115, 32, 99, 104, 97, 110, 99, 101, 114, 121, 47, 99, 104, 97, 110, 99, 101, 114, 121, 107, 101, 101, 112, 49, 46, 82, 101, 112, 108, 105, 99, 97, 73, 115, 84, 114, 101, 101, 32, 99, 104, 97, 110, 99, 101, 114, 121, 47, 99, 104, 97, 110, 99, 101, 114, 121, 107, 101, 101, 112, 49, 46, 82, 101, 112, 108, 105, 99, 97, 84, 111, 119, 97, 114, 100, 115, 66, 97, 99, 107]))) := by kernel_rfl
set_option maxRecDepth 100000 in
theorem headL : Try.pinned.checked.prog.initOrder.toList = w1 ++ sp :: (w2 ++ sp :: (w3 ++ sp :: chs [97, 116, 32, 99, 104, 97, 110, 99, 101, 114, 121, 47, 99, 104, 97, 110, 99, 101, 114, 121, 107, 101, 101, 112, 49, 46, 82, 101, 112, 108, 105, 99, 97, 65, 110, 121, 79, 114, 100, 101, 114, 32, 99, 104, 97, 110, 99, 101, 114, 121, 47, 99, 104, 97, 110, 99, 101, 114, 121, 107, 101, 101, 112, 49, 46, 82, 101, 112, 108, 105, 99, 97, 66, 101, 116, 119, 101, 101, 110, 73, 110, 115, 101, 114, 116, 115, 32, 99, 104, 97, 110, 99, 101, 114, 121, 47, 99, 104, 97, 110, 99, 101, 114, 121, 107, 101, 101, 112, 49, 46, 82, 101, 112, 108, 105, 99, 97, 73, 115, 84, 114, 101, 101, 32, 99, 104, 97, 110, 99, 101, 114, 121, 47, 99, 104, 97, 110, 99, 101, 114, 121, 107, 101, 101, 112, 49, 46, 82, 101, 112, 108, 105, 99, 97, 84, 111, 119, 97, 114, 100, 115, 66, 97, 99, 107])) := by rw [head, tl]
theorem later : Try.pinned.checked.prog.laysLater = false := by kernel_rfl
theorem refl : Try.pinned.checked.prog.bearsReflect = false := by kernel_rfl
theorem door : Try.pinned.checked.prog.doorFits [] = true := by kernel_rfl
theorem mayEnter : Try.pinned.checked.prog.mayEnter = true := may headL later refl door
theorem made : Try.pinned.checked.prog.make = some .cut := mk headL
theorem laid : laidOutB Try.pinned.checked.prog = true := by kernel_rfl
theorem rowed : mapsRowed Try.pinned.checked.prog = true := by kernel_rfl
theorem noStops : Try.pinned.checked.prog.stops = [] := by kernel_rfl
theorem noKnobs : Try.pinned.checked.prog.stopKnobs = [] := by kernel_rfl
theorem heard : Try.pinned.checked.prog.stopsHeard = true := by kernel_rfl
theorem keys : Try.pinned.checked.prog.plainKeys = true := by kernel_rfl
theorem liftsNo : Try.pinned.checked.prog.liftsFinal = false := fin headL
end Go.Proofs.Ythpcjddcgdlilaa.frame
end
