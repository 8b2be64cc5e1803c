/- What applying and undoing a delta give. -/
import Derived.Test.YtbdbibmbfmlobaaDeltaFold
set_option linter.unusedVariables false
set_option linter.unusedSimpArgs false
namespace Go.Ch
open Go Go.Ab

theorem fm_len' (g : Attr → Attr → Option Attr) (a b : List Attr) : (fm g a b).length ≤ a.length + b.length := by
  unfold fm
  exact Nat.le_trans (List.length_filterMap_le _ _) (bothL_len a b)
def bk (c : List Attr) (x : Elem) : List Attr := fm chgG (fm rawG x.attrs c) x.attrs
theorem undoU_As (e : List Elem) (u : List DU) (r : List Elem) : undoU (e.map .A ++ u) r = List.replicate e.length .C ++ undoU u r := by
  induction e with
  | nil => rfl
  | cons x e ih => simp [undoU, List.replicate_succ, ih]
theorem undoU_Ks (n : Nat) (c : List Attr) (u : List DU) : ∀ r : List Elem, undoU (List.replicate n (.K c) ++ u) r = (r.take n).map (fun x => .K (bk c x)) ++ undoU u (r.drop n) := by
  induction n with
  | zero => intro l; simp
  | succ n ih =>
    intro l
    cases l with
    | nil => have := ih []; simpa [undoU, List.replicate_succ] using this
    | cons x l => simp [undoU, List.replicate_succ, ih, bk]
theorem undoU_Cs (n : Nat) (u : List DU) : ∀ r : List Elem, undoU (List.replicate n .C ++ u) r = (r.take n).map .A ++ undoU u (r.drop n) := by
  induction n with
  | zero => intro l; simp
  | succ n ih =>
    intro l
    cases l with
    | nil => have := ih []; simpa [undoU, List.replicate_succ] using this
    | cons x l => simp [undoU, List.replicate_succ, ih]
theorem undo_at {d : List DStep} {i : Nat} (h : i < d.length) (r : List Elem) : undoU (exD (d.drop i)) r =
    if (d.getD i default).kind = 1 then List.replicate (d.getD i default).elems.length .C ++ undoU (exD (d.drop (i + 1))) r
    else if (d.getD i default).kind = 2 then (r.take (d.getD i default).n.toNat).map .A ++ undoU (exD (d.drop (i + 1))) (r.drop (d.getD i default).n.toNat)
    else (r.take (d.getD i default).n.toNat).map (fun x => .K (bk (d.getD i default).attrs x)) ++ undoU (exD (d.drop (i + 1))) (r.drop (d.getD i default).n.toNat) := by
  rw [dropD h, exD]
  unfold exS
  split
  · rw [undoU_As]
  · split
    · rw [undoU_Cs]
    · rw [undoU_Ks]
def KOk (us : List DU) : Prop := (∀ c, DU.K c ∈ us → VG true c ∧ c.length ≤ 100000000000) ∧ (∀ e, DU.A e ∈ us → elemE e = 0 ∧ e.attrs.length ≤ 100000000000)
def EOk (r : List Elem) : Prop := ∀ x ∈ r, elemE x = 0 ∧ x.attrs.length ≤ 100000000000
theorem KOk.tail {u : DU} {us : List DU} (h : KOk (u :: us)) : KOk us := ⟨fun c hc => h.1 c (by simp [hc]), fun e he => h.2 e (by simp [he])⟩
theorem EOk.tail {x : Elem} {r : List Elem} (h : EOk (x :: r)) : EOk r := fun y hy => h y (by simp [hy])
theorem undoU_units : ∀ (us : List DU) (r : List Elem), KOk us → EOk r → ∀ u ∈ undoU us r, UnitOk u
  | [], _, _, _, u, hu => by simp [undoU] at hu
  | .A e :: us, r, hk, hr, u, hu => by
    simp only [undoU, List.mem_cons] at hu
    rcases hu with rfl | hu
    · trivial
    · exact undoU_units us r hk.tail hr u hu
  | .K c :: us, [], hk, hr, u, hu => undoU_units us [] hk.tail hr u (by simpa [undoU] using hu)
  | .C :: us, [], hk, hr, u, hu => undoU_units us [] hk.tail hr u (by simpa [undoU] using hu)
  | .K c :: us, x :: r, hk, hr, u, hu => by
    simp only [undoU, List.mem_cons] at hu
    rcases hu with rfl | hu
    · have h1 := hk.1 c (by simp)
      have h2 := hr x (by simp)
      have v := elem_ok h2.1
      refine ⟨chg_V np_mt (raw_V np_mt v h1.1) v, ?_⟩
      have l1 := fm_len' chgG (fm rawG x.attrs c) x.attrs
      have l2 := fm_len' rawG x.attrs c
      omega
    · exact undoU_units us r hk.tail hr.tail u hu
  | .C :: us, x :: r, hk, hr, u, hu => by
    simp only [undoU, List.mem_cons] at hu
    rcases hu with rfl | hu
    · have h2 := hr x (by simp)
      exact ⟨h2.1, by omega⟩
    · exact undoU_units us r hk.tail hr.tail u hu
theorem undoU_lens : ∀ (us : List DU) (r : List Elem), oldN us = r.length → oldN (undoU us r) = newN us ∧ newN (undoU us r) = r.length
  | [], r, h => by simp only [oldN] at h; simp [undoU, oldN, newN, ← h]
  | .A e :: us, r, h => by
    have := undoU_lens us r (by simpa [oldN] using h)
    simp [undoU, oldN, newN, this.1, this.2]
  | .K c :: us, [], h => by simp [oldN] at h
  | .C :: us, [], h => by simp [oldN] at h
  | .K c :: us, x :: r, h => by
    have := undoU_lens us r (by simpa [oldN] using h)
    simp [undoU, oldN, newN, this.1, this.2]
  | .C :: us, x :: r, h => by
    have := undoU_lens us r (by simpa [oldN] using h)
    simp [undoU, oldN, newN, this.1, this.2]
theorem applyU_len : ∀ (us : List DU) (r : List Elem), oldN us = r.length → (applyU us r).length = newN us
  | [], r, h => by simp [applyU, newN]
  | .A e :: us, r, h => by
    have := applyU_len us r (by simpa [oldN] using h)
    simp [applyU, newN, this]
  | .K c :: us, [], h => by simp [oldN] at h
  | .C :: us, [], h => by simp [oldN] at h
  | .K c :: us, x :: r, h => by
    have := applyU_len us r (by simpa [oldN] using h)
    simp [applyU, newN, this]
  | .C :: us, x :: r, h => by
    have := applyU_len us r (by simpa [oldN] using h)
    simp [applyU, newN, this]
theorem chgE_ok {x : Elem} {c : List Attr} (h : elemE x = 0) (hc : VG true c) : elemE (chgE c x) = 0 := by
  have v := raw_V np_mt (elem_ok h) hc
  unfold elemE at h ⊢
  unfold chgE
  simp only
  split at h
  · omega
  · rename_i q1
    rw [if_neg q1]
    split at h
    · omega
    · rename_i q2
      rw [if_neg q2]
      exact chk_iff.2 v
theorem applyU_ok : ∀ (us : List DU) (r : List Elem), KOk us → EOk r → ∀ x ∈ applyU us r, elemE x = 0 ∧ x.attrs.length ≤ 200000000000
  | [], _, _, _, u, hu => by simp [applyU] at hu
  | .A e :: us, r, hk, hr, u, hu => by
    simp only [applyU, List.mem_cons] at hu
    rcases hu with rfl | hu
    · have := hk.2 u (by simp); exact ⟨this.1, by omega⟩
    · exact applyU_ok us r hk.tail hr u hu
  | .K c :: us, [], hk, hr, u, hu => applyU_ok us [] hk.tail hr u (by simpa [applyU] using hu)
  | .C :: us, [], hk, hr, u, hu => applyU_ok us [] hk.tail hr u (by simpa [applyU] using hu)
  | .K c :: us, x :: r, hk, hr, u, hu => by
    simp only [applyU, List.mem_cons] at hu
    rcases hu with rfl | hu
    · have h1 := hk.1 c (by simp)
      have h2 := hr x (by simp)
      refine ⟨chgE_ok h2.1 h1.1, ?_⟩
      have l2 := fm_len' rawG x.attrs c
      show (fm rawG x.attrs c).length ≤ _
      omega
    · exact applyU_ok us r hk.tail hr.tail u hu
  | .C :: us, x :: r, hk, hr, u, hu => by
    simp only [applyU] at hu
    exact applyU_ok us r hk.tail hr.tail u hu
theorem exD_K {l : List DStep} (h : ∀ s ∈ l, DOk s) (hd : DN 100000000000 l) : KOk (exD l) := by
  induction l with
  | nil => exact ⟨fun c hc => by simp [exD] at hc, fun c hc => by simp [exD] at hc⟩
  | cons s l ih =>
    obtain ⟨i1, i2⟩ := ih (fun t ht => h t (by simp [ht])) (fun t ht => hd t (by simp [ht]))
    have hs := h s (by simp)
    obtain ⟨b1, b2, b3⟩ := hd s (by simp)
    refine ⟨fun c hc => ?_, fun e he => ?_⟩
    · simp only [exD, List.mem_append] at hc
      rcases hc with hc | hc
      · unfold exS at hc
        rcases hs with ⟨k, _⟩ | ⟨k, _, _, _, _, v⟩
        · rw [if_pos k] at hc; simp at hc
        · rw [if_neg (by omega)] at hc
          split at hc
          · simp [List.mem_replicate] at hc
          · have := List.eq_of_mem_replicate hc
            cases this
            exact ⟨v, b2⟩
      · exact i1 c hc
    · simp only [exD, List.mem_append] at he
      rcases he with he | he
      · unfold exS at he
        rcases hs with ⟨k, _, _, _, q⟩ | ⟨k, _⟩
        · rw [if_pos k, List.mem_map] at he
          obtain ⟨x, hx, e1⟩ := he
          cases e1
          exact ⟨q _ hx, b3 _ hx⟩
        · rw [if_neg (by omega)] at he
          split at he
          · simp [List.mem_replicate] at he
          · simp [List.mem_replicate] at he
      · exact i2 e he
def undoD (f : List Elem) (l : List DStep) : List DStep := doneD (undoU (exD l) f)
theorem okU_of {us : List DU} (h : KOk us) : UOk us := by
  induction us with
  | nil => trivial
  | cons u us ih =>
    cases u with
    | K c => exact ⟨(h.1 c (by simp)).1, ih h.tail⟩
    | A e => exact ih h.tail
    | C => exact ih h.tail
theorem undo_final {f : List Elem} {l : List DStep} (hv : DValid l) (hd : DN 100000000000 l) (hf : EOk f) (hlen : oldD l = f.length) :
    KOk (exD l) ∧ oldN (exD l) = f.length ∧ (newN (exD l) : Int) = newD l ∧ (∀ u ∈ undoU (exD l) f, UnitOk u) ∧ (undoU (exD l) f).length ≤ 8589934592 ∧
    DValid (undoD f l) ∧ oldD (undoD f l) = newD l ∧ newD (undoD f l) = f.length ∧ (∀ x ∈ rawD f l, elemE x = 0 ∧ x.attrs.length ≤ 200000000000) ∧
    ((rawD f l).length : Int) = newD l ∧ rawD (rawD f l) (undoD f l) = f := by
  have hk := exD_K hv.1.all hd
  have hw : ∀ s ∈ l, DOkW s := fun s hs => okW (hv.1.all s hs)
  obtain ⟨n1, n2⟩ := lens_D hw
  have o1 : oldN (exD l) = f.length := by omega
  have hu := undoU_units _ _ hk hf
  obtain ⟨m1, m2⟩ := undoU_lens _ _ o1
  have hs := len_sum (undoU (exD l) f)
  have v1 := hv.2.1
  have v2 := hv.2.2
  obtain ⟨d1, d2, d3, d4⟩ := doneD_ok hu (by omega) (by omega)
  have ha := applyU_len _ _ o1
  refine ⟨hk, o1, n2, hu, by omega, d1, ?_, ?_, applyU_ok _ _ hk hf, ?_, ?_⟩
  · show oldD (doneD _) = _; omega
  · show newD (doneD _) = _; omega
  · show ((applyU (exD l) f).length : Int) = _; omega
  · show applyU (exD (doneD _)) (applyU (exD l) f) = f
    rw [sw_applyU d2]
    exact undoU_back _ _ o1 (okU_of hk) (fun x hx => elem_ok (hf x hx).1)
variable {w G : DWr} {us : List DU} {T : Nat}
theorem DI.run {g : Elem → List Attr} {t : List Elem} {j : Nat} (hj : j < t.length) (h : DI w ((t.drop j).map (fun x => DU.K (g x)) ++ us) T G) :
    UnitOk (.K (g (t.getD j default))) ∧ DI ⟨keepD (flushD w) 1 (g (t.getD j default)), [], 0⟩ ((t.drop (j + 1)).map (fun x => DU.K (g x)) ++ us) T G := by
  rw [dropD hj, List.map_cons, List.cons_append] at h
  exact ⟨h.units _ (by simp), h.keep (n := 0)⟩
theorem DN.mono {m n : Nat} {l : List DStep} (h : DN m l) (hm : m ≤ n) : DN n l := fun s hs => ⟨Nat.le_trans (h s hs).1 hm, Nat.le_trans (h s hs).2.1 hm, fun x hx => Nat.le_trans ((h s hs).2.2 x hx) hm⟩
theorem EOk.an {f : List Elem} (h : EOk f) : AN 400000000000 f := fun x hx => by have := (h x hx).2; omega
theorem EOk.take {f : List Elem} (h : EOk f) (n : Nat) : EOk (f.take n) := fun x hx => h x (List.mem_of_mem_take hx)
theorem EOk.drop {f : List Elem} (h : EOk f) (n : Nat) : EOk (f.drop n) := fun x hx => h x (List.mem_of_mem_drop hx)
end Go.Ch
