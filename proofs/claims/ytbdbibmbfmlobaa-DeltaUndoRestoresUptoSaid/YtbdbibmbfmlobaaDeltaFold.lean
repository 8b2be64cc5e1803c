/- The writer fed unit by unit. -/
import Derived.Test.YtbdbibmbfmlobaaDeltaWrite
set_option linter.unusedVariables false
set_option linter.unusedSimpArgs false
namespace Go.Ch
open Go Go.Ab

def putU (w : DWr) : DU → DWr
  | .K c => ⟨keepD (flushD w) 1 c, [], 0⟩
  | .A e => ⟨w.out, w.add ++ [e], w.cut⟩
  | .C => ⟨w.out, w.add, w.cut + 1⟩
def foldD (w : DWr) : List DU → DWr
  | [] => w
  | u :: us => foldD (putU w u) us
theorem foldD_As (e : List Elem) (us : List DU) : ∀ w : DWr, foldD w (e.map .A ++ us) = foldD ⟨w.out, w.add ++ e, w.cut⟩ us := by
  induction e with
  | nil => intro w; simp
  | cons x e ih => intro w; simp only [List.map_cons, List.cons_append, foldD, putU]; rw [ih]; simp
theorem foldD_Cs (n : Nat) (us : List DU) : ∀ w : DWr, foldD w (List.replicate n .C ++ us) = foldD ⟨w.out, w.add, w.cut + n⟩ us := by
  induction n with
  | zero => intro w; simp
  | succ n ih => intro w; simp only [List.replicate_succ, List.cons_append, foldD, putU]; rw [ih]; simp only; rw [show w.cut + 1 + (n : Int) = w.cut + ((n + 1 : Nat) : Int) by omega]
theorem flushD_nil (l : List DStep) : flushD ⟨l, [], 0⟩ = l := by simp [flushD]
theorem keepD_keepD {l : List DStep} {m n : Int} {c : List Attr} : keepD (keepD l m c) n c = keepD l (m + n) c := by
  unfold keepD
  by_cases h : 0 < l.length ∧ (l.getD (l.length - 1) default).kind = 0 ∧ sameL (l.getD (l.length - 1) default).attrs c = true
  · rw [if_pos h, if_pos h, setD h.1, setD h.1]
    generalize l.getD (l.length - 1) default = x at *
    have e : ∀ y : DStep, (List.take (l.length - 1) l ++ [y]).getD ((List.take (l.length - 1) l ++ [y]).length - 1) default = y := fun y => by simp
    rw [e, if_pos ⟨by simp, h.2.1, h.2.2⟩, setD (by simp)]
    have t : ∀ y : DStep, (List.take (l.length - 1) l ++ [y]).take ((List.take (l.length - 1) l ++ [y]).length - 1) = List.take (l.length - 1) l := fun y => by simp
    rw [t, Int.add_assoc]
  · rw [if_neg h, if_neg h]
    have e : ∀ y : DStep, (l ++ [y]).getD ((l ++ [y]).length - 1) default = y := fun y => by simp
    rw [e, if_pos ⟨by simp, rfl, sameL_self c⟩, setD (by simp)]
    simp
theorem foldD_Ks (c : List Attr) (us : List DU) : ∀ (n : Nat) (w : DWr), foldD w (List.replicate (n + 1) (.K c) ++ us) = foldD ⟨keepD (flushD w) ((n + 1 : Nat) : Int) c, [], 0⟩ us
  | 0, w => by simp [foldD, putU]
  | n + 1, w => by
    rw [List.replicate_succ, List.cons_append, foldD, foldD_Ks c us n]
    simp only [putU]
    rw [flushD_nil, keepD_keepD, show (1 : Int) + ((n + 1 : Nat) : Int) = ((n + 1 + 1 : Nat) : Int) by omega]
def UnitOk : DU → Prop
  | .K c => VG true c ∧ c.length ≤ 400000000000
  | .A e => elemE e = 0 ∧ e.attrs.length ≤ 400000000000
  | .C => True
/-- Bounds of what the writer holds. -/
structure WBd (w : DWr) : Prop where
  out : DN 400000000000 w.out
  add : AN 400000000000 w.add
theorem WBd.flush {w : DWr} (h : WBd w) (hl : w.add.length ≤ 400000000000) : DN 400000000000 (flushD w) := by
  intro s hs
  unfold flushD at hs
  simp only [List.mem_append] at hs
  rcases hs with (hs | hs) | hs
  · exact h.out s hs
  · split at hs
    · rw [List.mem_singleton] at hs; subst hs; exact ⟨hl, by simp, h.add⟩
    · cases hs
  · split at hs
    · rw [List.mem_singleton] at hs; subst hs; exact ⟨by simp, by simp, fun x hx => by cases hx⟩
    · cases hs
theorem WBd.keep {w : DWr} {n : Int} {c : List Attr} (h : WBd w) (hl : w.add.length ≤ 400000000000) (hc : c.length ≤ 400000000000) : WBd ⟨keepD (flushD w) n c, [], 0⟩ := by
  have hf := h.flush hl
  refine ⟨fun s hs => ?_, fun x hx => by cases hx⟩
  simp only at hs
  unfold keepD at hs
  split at hs
  · rename_i q
    rw [setD q.1, List.mem_append] at hs
    rcases hs with hs | hs
    · exact hf s (List.mem_of_mem_take hs)
    · rw [List.mem_singleton] at hs; subst hs
      have := hf _ (lastD_mem q.1)
      exact this
  · rw [List.mem_append] at hs
    rcases hs with hs | hs
    · exact hf s hs
    · rw [List.mem_singleton] at hs; subst hs; exact ⟨by simp, hc, fun x hx => by cases hx⟩
theorem exS_len {s : DStep} (h : DOkW s) : 1 ≤ (exS s).length ∧ (s.kind ≠ 1 → s.n ≤ (exS s).length) ∧ 0 ≤ s.n ∧ (s.kind = 1 → s.n = 0) := by
  unfold exS
  rcases h with ⟨k, n, a, e, _⟩ | ⟨k, _, _, n1, _⟩
  · rw [if_pos k, List.length_map]
    have : 0 < s.elems.length := List.length_pos_iff.2 e
    exact ⟨this, fun q => absurd k q, by omega, fun _ => n⟩
  · have k1 : ¬ s.kind = 1 := by omega
    rw [if_neg k1]
    refine ⟨?_, fun _ => ?_, by omega, fun q => absurd q k1⟩ <;> split <;> simp <;> omega
theorem exD_len : ∀ {l : List DStep}, (∀ s ∈ l, DOkW s) → l.length ≤ (exD l).length ∧ ∀ s ∈ l, 0 ≤ s.n ∧ s.n ≤ ((exD l).length : Int)
  | [], _ => ⟨Nat.le_refl _, fun s hs => by cases hs⟩
  | s :: l, h => by
    have h1 := exS_len (h s (by simp))
    have h2 := exD_len (l := l) (fun t ht => h t (by simp [ht]))
    simp only [exD, List.length_append, List.length_cons]
    refine ⟨by omega, fun t ht => ?_⟩
    rcases List.mem_cons.1 ht with rfl | ht
    · refine ⟨h1.2.2.1, ?_⟩
      by_cases k : t.kind = 1
      · have := h1.2.2.2 k; omega
      · have := h1.2.1 k; omega
    · have := h2.2 t ht; omega
/-- The writer, what it is still to be fed, how much that is in all, and where it ends. -/
structure DI (w : DWr) (us : List DU) (T : Nat) (G : DWr) : Prop where
  good : GoodD w
  wb : WBd w
  units : ∀ u ∈ us, UnitOk u
  len : (exDW w).length + us.length = T
  small : T ≤ 8589934592
  eq : foldD w us = G
variable {w G : DWr} {us : List DU} {T : Nat}
theorem DI.bd (h : DI w us T G) : w.out.length ≤ T ∧ w.add.length ≤ T ∧ 0 ≤ w.cut ∧ w.cut ≤ T ∧ us.length ≤ T ∧ T ≤ 8589934592 ∧ w.add.length + us.length ≤ T ∧ w.cut + us.length ≤ T := by
  have h1 := (exD_len h.good.ok).1
  have h2 := h.good.cut
  have h3 := h.len
  have h4 := h.small
  unfold exDW at h3
  simp only [List.length_append, List.length_replicate, List.length_map] at h3
  omega
theorem DI.fl (h : DI w us T G) : (∀ s ∈ flushD w, 0 ≤ s.n ∧ s.n ≤ 10000000000) ∧ DN 400000000000 (flushD w) := by
  have hb := h.bd
  refine ⟨fun s hs => ?_, h.wb.flush (by omega)⟩
  have h1 := (exD_len (flushD_ok h.good).1).2 s hs
  rw [flushD_ex h.good] at h1
  have h3 := h.len
  omega
theorem DI.keep {n : Nat} {c : List Attr} (h : DI w (List.replicate (n + 1) (.K c) ++ us) T G) : DI ⟨keepD (flushD w) ((n + 1 : Nat) : Int) c, [], 0⟩ us T G := by
  have hu := h.units (.K c) (by rw [List.replicate_succ]; simp)
  have hb := h.bd
  obtain ⟨g1, g2⟩ := h.good.keep (n := ((n + 1 : Nat) : Int)) (by omega) hu.1
  refine ⟨g1, h.wb.keep (by omega) hu.2, fun u hu => h.units u (by simp [hu]), ?_, h.small, ?_⟩
  · have h3 := h.len
    rw [g2]
    simp only [List.length_append, List.length_replicate] at h3 ⊢
    omega
  · rw [← h.eq, foldD_Ks]
theorem dsw_len {u v : List DU} (h : DSw u v) : u.length = v.length := by
  induction h with
  | refl u => rfl
  | cons x _ ih => simp [ih]
  | swap e u => rfl
  | symm _ ih => exact ih.symm
  | trans _ _ a b => exact a.trans b
theorem DI.elems {e : List Elem} (h : DI w (e.map .A ++ us) T G) : DI ⟨w.out, w.add ++ e, w.cut⟩ us T G := by
  have hu : ∀ x ∈ e, UnitOk (.A x) := fun x hx => h.units (.A x) (by simp [hx])
  obtain ⟨g1, g2⟩ := h.good.elems (e := e) (fun x hx => (hu x hx).1)
  refine ⟨g1, ⟨h.wb.out, fun x hx => ?_⟩, fun u hu => h.units u (by simp [hu]), ?_, h.small, ?_⟩
  · rcases List.mem_append.1 hx with hx | hx
    · exact h.wb.add x hx
    · exact (hu x hx).2
  · have h3 := h.len
    rw [dsw_len g2]
    simp only [List.length_append, List.length_map] at h3 ⊢
    omega
  · rw [← h.eq, foldD_As]
theorem DI.cuts {n : Nat} (h : DI w (List.replicate n .C ++ us) T G) : DI ⟨w.out, w.add, w.cut + n⟩ us T G := by
  obtain ⟨g1, g2⟩ := h.good.cuts (n := (n : Int)) (by omega)
  refine ⟨g1, ⟨h.wb.out, h.wb.add⟩, fun u hu => h.units u (by simp [hu]), ?_, h.small, ?_⟩
  · have h3 := h.len
    rw [g2]
    simp only [List.length_append, List.length_replicate] at h3 ⊢
    omega
  · rw [← h.eq, foldD_Cs]
theorem DI.done (h : DI w [] T G) : w = G := h.eq
def doneD (us : List DU) : List DStep := flushD (foldD ⟨[], [], 0⟩ us)
theorem DI.start (h : ∀ u ∈ us, UnitOk u) (hs : us.length ≤ 8589934592) : DI ⟨[], [], 0⟩ us us.length (foldD ⟨[], [], 0⟩ us) :=
  ⟨goodD0, ⟨fun s h => (by cases h), fun x h => (by cases h)⟩, h, by simp [exDW, exD], hs, rfl⟩
theorem foldD_ok : ∀ (us : List DU) (w : DWr), GoodD w → (∀ u ∈ us, UnitOk u) → GoodD (foldD w us) ∧ DSw (exDW (foldD w us)) (exDW w ++ us)
  | [], w, h, _ => ⟨h, by simp only [foldD, List.append_nil]; exact .refl _⟩
  | u :: us, w, h, hu => by
    have h0 := hu u (by simp)
    have hp : GoodD (putU w u) ∧ DSw (exDW (putU w u)) (exDW w ++ [u]) := by
      cases u with
      | K c =>
        obtain ⟨g1, g2⟩ := h.keep (n := 1) (by decide) h0.1
        exact ⟨g1, by simp only [putU]; rw [g2]; exact .refl _⟩
      | A e =>
        obtain ⟨g1, g2⟩ := h.elems (e := [e]) (fun x hx => by rw [List.mem_singleton] at hx; subst hx; exact h0.1)
        exact ⟨g1, g2⟩
      | C =>
        obtain ⟨g1, g2⟩ := h.cuts (n := 1) (by decide)
        exact ⟨g1, by simp only [putU]; rw [g2]; exact .refl _⟩
    obtain ⟨q1, q2⟩ := foldD_ok us (putU w u) hp.1 (fun v hv => hu v (by simp [hv]))
    refine ⟨q1, .trans q2 ?_⟩
    have := hp.2.right us
    simpa using this
theorem doneD_ok (h : ∀ u ∈ us, UnitOk u) (h1 : oldN us ≤ 2147483647) (h2 : newN us ≤ 2147483647) :
    DValid (doneD us) ∧ DSw (exD (doneD us)) us ∧ oldD (doneD us) = oldN us ∧ newD (doneD us) = newN us := by
  obtain ⟨q1, q2⟩ := foldD_ok us ⟨[], [], 0⟩ goodD0 h
  exact q1.valid (by simpa [exDW, exD] using q2) h1 h2
theorem len_sum (us : List DU) : us.length ≤ oldN us + newN us := by
  induction us with
  | nil => simp [oldN]
  | cons u us ih => cases u <;> simp [oldN, newN] <;> omega
end Go.Ch
