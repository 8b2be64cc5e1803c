/- The reference's After: what a delta does, gap by gap; a flow after it. -/
import Derived.Test.YtbdbibmbfmlobaaM1
import Derived.Test.YtbdbibmbfmlobaaM2
import Derived.Test.YtbdbibmbfmlobaaM3
import Derived.Test.YtbdbibmbfmlobaaM4
import Derived.Test.YtbdbibmbfmlobaaM5
section
set_option linter.unusedVariables false
set_option linter.unusedSimpArgs false
namespace Go.Ch
open Go Go.Ab

def actS (x : Act) (s : DStep) : Act :=
  if s.kind = 1 then ⟨x.ins.set (x.ins.length - 1) (x.ins.getD (x.ins.length - 1) default ++ s.elems), x.cut, x.set⟩
  else ⟨x.ins ++ List.replicate s.n.toNat [], x.cut ++ List.replicate s.n.toNat (s.kind == 2), x.set ++ List.replicate s.n.toNat s.attrs⟩
def actF (x : Act) : List DStep → Act
  | [] => x
  | s :: l => actF (actS x s) l
def actOfL (d : List DStep) : Act := actF ⟨[[]], [], []⟩ d
theorem actF_at {d : List DStep} {i : Nat} (h : i < d.length) (x : Act) : actF x (d.drop i) = actF (actS x (d.getD i default)) (d.drop (i + 1)) := by rw [dropD h, actF]
theorem actF_end {d : List DStep} {i : Nat} (h : d.length ≤ i) (x : Act) : actF x (d.drop i) = x := by rw [List.drop_eq_nil_of_le h, actF]
/-- An act's lists fit. -/
def ActFit (x : Act) : Prop := x.ins.length = x.cut.length + 1 ∧ x.set.length = x.cut.length
theorem actS_fit {x : Act} (h : ActFit x) (s : DStep) : ActFit (actS x s) := by
  unfold ActFit actS at *
  split
  · simp only [List.length_set]; exact h
  · simp only [List.length_append, List.length_replicate]; omega
/-- One unit more. -/
def actU (x : Act) : DU → Act
  | .A e => ⟨x.ins.set (x.ins.length - 1) (x.ins.getD (x.ins.length - 1) default ++ [e]), x.cut, x.set⟩
  | .K c => ⟨x.ins ++ [[]], x.cut ++ [false], x.set ++ [c]⟩
  | .C => ⟨x.ins ++ [[]], x.cut ++ [true], x.set ++ [[]]⟩
theorem getD_app_l {α : Type} [Inhabited α] {l r : List α} {i : Nat} (h : i < l.length) : (l ++ r).getD i default = l.getD i default := by
  simp [List.getD, List.getElem?_append_left h]
theorem getD_app_r {α : Type} [Inhabited α] {l : List α} {y : α} : (l ++ [y]).getD l.length default = y := by simp [List.getD]
theorem getD_set_ne {α : Type} [Inhabited α] {l : List α} {i j : Nat} {y : α} (h : j ≠ i) : (l.set j y).getD i default = l.getD i default := by
  simp [List.getD, List.getElem?_set_ne h]
theorem getD_set_eq {α : Type} [Inhabited α] {l : List α} {i : Nat} {y : α} (h : i < l.length) : (l.set i y).getD i default = y := by
  simp [List.getD, List.getElem?_set_self h]
theorem actR_C' {x : Act} {i : Nat} (h : i < x.cut.length) (hb : x.cut.getD i default = true) : actR x i = (x.ins.getD i default).map .A ++ .C :: actR x (i + 1) := by
  rw [actR, if_pos h, if_pos hb]
theorem actR_K' {x : Act} {i : Nat} (h : i < x.cut.length) (hb : x.cut.getD i default = false) : actR x i = (x.ins.getD i default).map .A ++ .K (x.set.getD i default) :: actR x (i + 1) := by
  rw [actR, if_pos h, if_neg (by rw [hb]; decide)]
theorem actR_end' {x : Act} {i : Nat} (h : ¬ i < x.cut.length) : actR x i = (x.ins.getD i default).map .A := by rw [actR, if_neg h]
theorem actU_at {x : Act} {i : Nat} (h : ActFit x) (hi : i < x.cut.length) (u : DU) : i < (actU x u).cut.length ∧ (actU x u).cut.getD i default = x.cut.getD i default ∧ (actU x u).ins.getD i default = x.ins.getD i default ∧ (actU x u).set.getD i default = x.set.getD i default := by
  obtain ⟨f1, f2⟩ := h
  cases u with
  | A e => exact ⟨hi, rfl, getD_set_ne (by omega), rfl⟩
  | K c => exact ⟨by simp [actU]; omega, getD_app_l hi, getD_app_l (by omega), getD_app_l (by omega)⟩
  | C => exact ⟨by simp [actU]; omega, getD_app_l hi, getD_app_l (by omega), getD_app_l (by omega)⟩
theorem actR_U {x : Act} (h : ActFit x) (u : DU) : ∀ (m i : Nat), x.cut.length - i = m → i ≤ x.cut.length → actR (actU x u) i = actR x i ++ [u]
  | 0, i, hm, hi => by
    obtain ⟨f1, f2⟩ := h
    have hi2 : i = x.cut.length := by omega
    rw [actR_end' (x := x) (by omega)]
    cases u with
    | A e =>
      have e1 : (actU x (.A e)).ins.getD i default = x.ins.getD i default ++ [e] := by
        show (x.ins.set (x.ins.length - 1) (x.ins.getD (x.ins.length - 1) default ++ [e])).getD i default = _
        rw [show x.ins.length - 1 = i by omega, getD_set_eq (by omega)]
      rw [actR_end' (show ¬ i < (actU x (.A e)).cut.length by show ¬ i < x.cut.length; omega), e1, List.map_append]; rfl
    | K c =>
      have l1 : (actU x (.K c)).cut.length = x.cut.length + 1 := by simp [actU]
      have e1 : (actU x (.K c)).cut.getD i default = false := by rw [hi2]; exact getD_app_r
      have e2 : (actU x (.K c)).set.getD i default = c := by rw [hi2, ← f2]; exact getD_app_r
      have e3 : (actU x (.K c)).ins.getD i default = x.ins.getD i default := getD_app_l (by omega)
      have e4 : (actU x (.K c)).ins.getD (i + 1) default = [] := by rw [show i + 1 = x.ins.length by omega]; exact getD_app_r
      rw [actR_K' (by omega) e1, e2, e3, actR_end' (x := actU x (.K c)) (i := i + 1) (by omega), e4]; rfl
    | C =>
      have l1 : (actU x .C).cut.length = x.cut.length + 1 := by simp [actU]
      have e1 : (actU x .C).cut.getD i default = true := by rw [hi2]; exact getD_app_r
      have e3 : (actU x .C).ins.getD i default = x.ins.getD i default := getD_app_l (by omega)
      have e4 : (actU x .C).ins.getD (i + 1) default = [] := by rw [show i + 1 = x.ins.length by omega]; exact getD_app_r
      rw [actR_C' (by omega) e1, e3, actR_end' (x := actU x .C) (i := i + 1) (by omega), e4]; rfl
  | m + 1, i, hm, hi => by
    have ih := actR_U h u m (i + 1) (by omega) (by omega)
    obtain ⟨q1, q2, q3, q4⟩ := actU_at h (i := i) (by omega) u
    cases hb : x.cut.getD i default with
    | true => rw [actR_C' q1 (by rw [q2]; exact hb), actR_C' (x := x) (by omega) hb, q3, ih, List.append_assoc, List.cons_append]
    | false => rw [actR_K' q1 (by rw [q2]; exact hb), actR_K' (x := x) (by omega) hb, q3, q4, ih, List.append_assoc, List.cons_append]
theorem actU_fit {x : Act} (h : ActFit x) (u : DU) : ActFit (actU x u) := by
  unfold ActFit at *
  cases u <;> simp only [actU, List.length_set, List.length_append, List.length_singleton] <;> omega
def actUs (x : Act) (us : List DU) : Act := us.foldl actU x
theorem actUs_R : ∀ (us : List DU) {x : Act}, ActFit x → ActFit (actUs x us) ∧ actR (actUs x us) 0 = actR x 0 ++ us
  | [], x, h => ⟨h, by simp [actUs]⟩
  | u :: us, x, h => by
    obtain ⟨a, b⟩ := actUs_R us (actU_fit h u)
    refine ⟨a, ?_⟩
    have e : actUs x (u :: us) = actUs (actU x u) us := rfl
    rw [e, b, actR_U h u _ 0 rfl (Nat.zero_le _), List.append_assoc]; rfl
theorem actUs_As : ∀ (l : List Elem) {x : Act}, ActFit x → actUs x (l.map .A) = ⟨x.ins.set (x.ins.length - 1) (x.ins.getD (x.ins.length - 1) default ++ l), x.cut, x.set⟩
  | [], x, h => by
    obtain ⟨f1, f2⟩ := h
    have e : x.ins.set (x.ins.length - 1) (x.ins.getD (x.ins.length - 1) default ++ []) = x.ins := by
      rw [List.append_nil]
      apply List.ext_getElem?
      intro k
      rw [List.getElem?_set]
      split
      · rename_i h1
        subst h1
        rw [if_pos (by omega), List.getD, List.getElem?_eq_getElem (by omega)]; rfl
      · rfl
    rw [e]; rfl
  | y :: l, x, h => by
    have e : actUs x ((y :: l).map .A) = actUs (actU x (.A y)) (l.map .A) := rfl
    rw [e, actUs_As l (actU_fit h _)]
    obtain ⟨f1, f2⟩ := h
    simp only [actU, List.length_set]
    rw [getD_set_eq (by omega), List.set_set, List.append_assoc]; rfl
theorem actUs_rep (u : DU) (a : List Elem) (b : Bool) (c : List Attr) (hu : ∀ x : Act, actU x u = ⟨x.ins ++ [[]], x.cut ++ [b], x.set ++ [c]⟩) : ∀ (n : Nat) (x : Act), actUs x (List.replicate n u) = ⟨x.ins ++ List.replicate n [], x.cut ++ List.replicate n b, x.set ++ List.replicate n c⟩
  | 0, x => by simp [actUs]
  | n + 1, x => by
    have e : actUs x (List.replicate (n + 1) u) = actUs (actU x u) (List.replicate n u) := by rw [List.replicate_succ]; rfl
    rw [e, actUs_rep u a b c hu n, hu]
    simp only [List.append_assoc, List.replicate_succ]; rfl
theorem actS_us {x : Act} {s : DStep} (h : ActFit x) (hs : DOk s) : actS x s = actUs x (exS s) := by
  unfold actS exS
  rcases hs with ⟨k, n, a, e, _⟩ | ⟨k, e, b, n1, n2, _⟩
  · rw [if_pos k, if_pos k, actUs_As _ h]
  · rw [if_neg (by omega), if_neg (by omega)]
    by_cases k2 : s.kind = 2
    · rw [if_pos k2, actUs_rep .C [] true [] (fun x => rfl), b k2, k2]; rfl
    · have k0 : s.kind = 0 := by omega
      rw [if_neg k2, actUs_rep (.K s.attrs) [] false s.attrs (fun x => rfl), k0]; rfl
theorem actF_us : ∀ {d : List DStep} {x : Act}, ActFit x → (∀ s ∈ d, DOk s) → actF x d = actUs x (exD d)
  | [], x, _, _ => rfl
  | s :: d, x, h, hd => by
    have h1 := actS_us h (hd s (by simp))
    rw [actF, actF_us (actS_fit h s) (fun t ht => hd t (by simp [ht])), h1, exD]
    unfold actUs
    rw [List.foldl_append]
theorem actOf_ok {d : List DStep} (h : DValid d) : ActFit (actOfL d) ∧ actR (actOfL d) 0 = exD d := by
  have h0 : ActFit ⟨[[]], [], []⟩ := ⟨rfl, rfl⟩
  obtain ⟨a, b⟩ := actUs_R (exD d) h0
  unfold actOfL
  rw [actF_us h0 h.1.all]
  exact ⟨a, by rw [b]; rw [actR]; simp⟩
/-! ### Done -/
/-- A flow after an act, from an element on. -/
def doneR (f : List Elem) (x : Act) (i : Nat) : List Elem :=
  if i < f.length then x.ins.getD i default ++ ((if x.cut.getD i default = true then [] else [⟨(f.getD i default).char, (f.getD i default).ref, changedR (f.getD i default).attrs (x.set.getD i default)⟩]) ++ doneR f x (i + 1))
  else x.ins.getD f.length default
termination_by f.length - i
theorem doneR_eq {f : List Elem} {x : Act} (h : ActFit x) (hl : x.cut.length = f.length) (hf : ∀ e ∈ f, VG false e.attrs) (hc : ∀ c ∈ x.set, VG true c) : ∀ (m i : Nat), f.length - i = m → i ≤ f.length → doneR f x i = applyU (actR x i) (f.drop i)
  | 0, i, hm, hi => by
    rw [doneR, if_neg (by omega), actR, if_neg (by omega), show i = f.length by omega, List.drop_length]
    have := applyU_As (x.ins.getD f.length default) [] []
    rw [List.append_nil] at this
    rw [this]; simp [applyU]
  | m + 1, i, hm, hi => by
    have ih := doneR_eq h hl hf hc m (i + 1) (by omega) (by omega)
    rw [doneR, if_pos (by omega), ih]
    cases hb : x.cut.getD i default with
    | true =>
      rw [actR_C' (by omega) hb, applyU_As, dropD (show i < f.length by omega)]
      simp [applyU]
    | false =>
      have e := changedR_eq (hf _ (getD_mem' (l := f) (k := i) (by omega))) (hc _ (getD_mem' (l := x.set) (k := i) (by have := h.2; omega)))
      rw [actR_K' (by omega) hb, applyU_As, dropD (show i < f.length by omega), e]
      simp only [Bool.false_eq_true, if_false, applyU, chgE]
      rfl
/-- Cuts of a delta's act, and bounds. -/
theorem actR_old {x : Act} (h : ActFit x) : ∀ (m i : Nat), x.cut.length - i = m → i ≤ x.cut.length → oldN (actR x i) = x.cut.length - i
  | 0, i, hm, hi => by rw [actR, if_neg (by omega), (lens_As _).1]; omega
  | m + 1, i, hm, hi => by
    have ih := actR_old h m (i + 1) (by omega) (by omega)
    rw [actR, if_pos (by omega), oldN_app, (lens_As _).1]
    split <;> simp only [oldN] <;> omega
/-- The attributes of an act of a delta: those of its steps. -/
theorem actF_set {Q : List Attr → Prop} : ∀ {d : List DStep} {x : Act}, (∀ s ∈ d, Q s.attrs) → (∀ c ∈ x.set, Q c) → ∀ c ∈ (actF x d).set, Q c
  | [], x, _, h => h
  | s :: d, x, hd, h => by
    refine actF_set (d := d) (fun t ht => hd t (by simp [ht])) ?_
    unfold actS
    split
    · exact h
    · intro c hc
      rcases List.mem_append.1 hc with hc | hc
      · exact h c hc
      · rw [List.mem_replicate] at hc; rw [hc.2]; exact hd s (by simp)
theorem vg_steps {d : List DStep} (h : DValid d) : ∀ s ∈ d, VG true s.attrs := fun s hs => by
  rcases h.1.all s hs with ⟨_, _, a, _⟩ | ⟨_, _, _, _, _, v⟩
  · rw [a]; exact vg_nil
  · exact v
theorem after_eq {f : List Elem} {d : List DStep} (h : DValid d) (hl : oldD d = f.length) (hf : ∀ e ∈ f, VG false e.attrs) : ActFit (actOfL d) ∧ (actOfL d).cut.length = f.length ∧ doneR f (actOfL d) 0 = rawD f d := by
  obtain ⟨a, b⟩ := actOf_ok h
  have ho := actR_old a _ 0 rfl (Nat.zero_le _)
  have e : (actOfL d).cut.length = f.length := by
    rw [b] at ho
    have : oldD d = oldN (exD d) := by
      have := lens_D (l := d) (fun s hs => okW (h.1.all s hs)); omega
    omega
  refine ⟨a, e, ?_⟩
  rw [doneR_eq a e hf (actF_set (vg_steps h) (fun c hc => by cases hc)) _ 0 rfl (Nat.zero_le _), b]; rfl
end Go.Ch
namespace Go.Ch
open Go Go.Ab
structure AIv (d : List DStep) (i : Nat) (x : Act) : Prop where
  fit : ActFit x
  go : actF x (d.drop i) = actOfL d
  len : (x.cut.length : Int) + oldD (d.drop i) = oldD d
  el : ∀ e ∈ x.ins, (e.length : Int) + newD (d.drop i) ≤ newD d
theorem AIv.start {d : List DStep} : AIv d 0 ⟨[[]], [], []⟩ := ⟨⟨rfl, rfl⟩, rfl, by simp, fun e he => by rw [List.mem_singleton] at he; subst he; simp⟩
theorem AIv.next {d : List DStep} {i : Nat} {x : Act} (h : AIv d i x) (hv : DValid d) (hi : i < d.length) : AIv d (i + 1) (actS x (d.getD i default)) := by
  obtain ⟨s1, s2, s3, s4, s5, s6, s7, s8⟩ := dlens_step hi hv.1
  refine ⟨actS_fit h.fit _, (actF_at hi x).symm.trans h.go, ?_, ?_⟩
  · have := h.len
    unfold actS
    split
    · rename_i k; rw [if_pos k] at s1; simp only; omega
    · rename_i k; rw [if_neg k] at s1; simp only [List.length_append, List.length_replicate]; omega
  · have he := h.el
    unfold actS
    split
    · rename_i k
      have hz : szD (d.getD i default) = (d.getD i default).elems.length := by unfold szD; rw [if_pos k]
      rw [if_neg (by omega)] at s2
      intro e hm
      rcases List.mem_or_eq_of_mem_set hm with hm | rfl
      · have := he e hm; omega
      · have := he _ (getD_mem' (l := x.ins) (k := x.ins.length - 1) (by have := h.fit.1; omega))
        rw [List.length_append]; omega
    · rename_i k
      have : newD (d.drop (i + 1)) ≤ newD (d.drop i) := by rw [s2]; split <;> omega
      intro e hm
      rcases List.mem_append.1 hm with hm | hm
      · have := he e hm; omega
      · rw [List.mem_replicate] at hm; rw [hm.2]
        have h0 := he _ (getD_mem' (l := x.ins) (k := 0) (by have := h.fit.1; omega))
        simp only [List.length_nil]; omega
theorem AIv.last {d : List DStep} {i : Nat} {x : Act} (h : AIv d i x) : 0 < x.ins.length ∧ ((x.ins.getD (x.ins.length - 1) default).length : Int) + newD (d.drop i) ≤ newD d :=
  ⟨by have := h.fit.1; omega, h.el _ (getD_mem' (by have := h.fit.1; omega))⟩
theorem AIv.done {d : List DStep} {i : Nat} {x : Act} (h : AIv d i x) (hi : d.length ≤ i) : x = actOfL d := by have := h.go; rw [actF_end hi] at this; exact this
end Go.Ch
namespace Go.Ch
open Go Go.Ab
theorem after_len {d : List DStep} {f : List Elem} (h : DValid d) (hl : oldD d = f.length) : ((rawD f d).length : Int) = newD d := by
  have hw := lens_D (l := d) (fun s hs => okW (h.1.all s hs))
  unfold rawD
  rw [applyU_len _ _ (by omega)]
  exact hw.2
end Go.Ch
end
section
set_option linter.unusedVariables false
set_option linter.unusedSimpArgs false
namespace Go.Ch
open Go Go.Ab
def stepU : DU → DStep
  | .K c => ⟨0, 1, c, []⟩
  | .A e => ⟨1, 0, [], [e]⟩
  | .C => ⟨2, 1, [], []⟩
theorem stepU_ok {u : DU} (h : UnitOk u) : DOk (stepU u) := by
  cases u with
  | K c => exact .inr ⟨.inl rfl, rfl, fun h => absurd (show (0:Int) = 2 from h) (by decide), Int.le_refl 1, (by decide : (1:Int) ≤ 2147483647), h.1⟩
  | A e => exact .inl ⟨rfl, rfl, rfl, by simp [stepU], fun x hx => by rw [show x = e by simpa [stepU] using hx]; exact h.1⟩
  | C => exact .inr ⟨.inr rfl, rfl, fun _ => rfl, Int.le_refl 1, (by decide : (1:Int) ≤ 2147483647), vg_nil⟩
theorem tdW_U (w : DWr) (u : DU) : tdW w (stepU u) = putU w u := by
  cases u <;> simp [tdW, stepU, putU]
theorem putU_cut {w : DWr} (h : 0 ≤ w.cut) (u : DU) : 0 ≤ (putU w u).cut ∧ (putU w u).cut ≤ w.cut + 1 := by
  cases u <;> simp only [putU] <;> omega
theorem tidyG_U : ∀ (us : List DU) (w : DWr), (∀ u ∈ us, UnitOk u) → 0 ≤ w.cut → w.cut + us.length ≤ 2147483647 → tidyG w (us.map stepU) = if checkD (flushD (foldD w us)) = 0 then (flushD (foldD w us), 0) else ([], 3)
  | [], w, _, _, _ => by rw [List.map_nil, tidyG, foldD]
  | u :: us, w, hu, h0, hl => by
    simp only [List.length_cons] at hl
    have hc := putU_cut h0 u
    rw [List.map_cons, tidyG, if_neg (by rw [lenE_step (step_iff.2 (stepU_ok (hu u (by simp))))]; decide), if_neg, tdW_U, tidyG_U us _ (fun v hv => hu v (by simp [hv])) hc.1 (by omega), foldD]
    rintro ⟨k0, k1, hb⟩
    have hn : (stepU u).n ≤ 1 := by cases u <;> simp [stepU]
    omega
theorem tidy_units {us : List DU} (hu : ∀ u ∈ us, UnitOk u) (hl : us.length ≤ 2147483647) : tidyL (us.map stepU) = doneD us ∧ tidyE (us.map stepU) = 0 := by
  have h1 : oldN us ≤ us.length ∧ newN us ≤ us.length := by
    clear hu hl
    induction us with
    | nil => exact ⟨Nat.le_refl _, Nat.le_refl _⟩
    | cons u us ih => cases u <;> simp only [oldN, newN, List.length_cons] <;> omega
  have hd := doneD_ok hu (by omega) (by omega)
  have := tidyG_U us ⟨[], [], 0⟩ hu (Int.le_refl _) (by simp only; omega)
  rw [if_pos (show checkD (flushD (foldD ⟨[], [], 0⟩ us)) = 0 from checkD_iff.2 hd.1)] at this
  unfold tidyL tidyE
  rw [this]
  exact ⟨rfl, rfl⟩
theorem units_map {us : List DU} (hu : ∀ u ∈ us, UnitOk u) : (us.map stepU).length = us.length ∧ elS (us.map stepU) ≤ us.length ∧ ((∀ u ∈ us, UnitS u) → DN 100000000000 (us.map stepU)) := by
  refine ⟨List.length_map _, ?_, fun hs s hm => ?_⟩
  · have := elS_le (l := us.map stepU) (fun s hm => by
      obtain ⟨u, _, rfl⟩ := List.mem_map.1 hm
      cases u <;> simp [stepU])
    rw [List.length_map] at this; exact this
  · obtain ⟨u, h, rfl⟩ := List.mem_map.1 hm
    have := hs u h
    cases u with
    | K c => exact ⟨by simp [stepU], by have := this.2; simp only [stepU]; omega, fun x hx => by cases hx⟩
    | A e => exact ⟨by simp [stepU], by simp [stepU], fun x hx => by rw [show x = e by simpa [stepU] using hx]; have := this.2; omega⟩
    | C => exact ⟨by simp [stepU], by simp [stepU], fun x hx => by cases hx⟩
end Go.Ch
end
section
set_option linter.unusedVariables false
set_option linter.unusedSimpArgs false
namespace Go.Ch
open Go Go.Ab

def intsT (l : List Int) : Tree := .lst 1 (l.map intT)
def alikeB (x y : Elem) : Bool := (x.char == y.char) && (x.ref == y.ref)
def priceI (x y : Elem) : Int := if sameL x.attrs y.attrs = true then 0 else 1
theorem price_bd (x y : Elem) : 0 ≤ priceI x y ∧ priceI x y ≤ 1 := by unfold priceI; split <;> omega
def tabR (a b : List Elem) (i k : Nat) : Int :=
  if i < a.length then
    if k < b.length then
      if alikeB (a.getD i default) (b.getD k default) = true then min (1 + min (tabR a b (i + 1) k) (tabR a b i (k + 1))) (tabR a b (i + 1) (k + 1) + priceI (a.getD i default) (b.getD k default))
      else 1 + min (tabR a b (i + 1) k) (tabR a b i (k + 1))
    else (a.length : Int) - i
  else (b.length : Int) - k
termination_by (a.length - i) + (b.length - k)
theorem tab_bd (a b : List Elem) : ∀ (n i k : Nat), (a.length - i) + (b.length - k) = n → i ≤ a.length → k ≤ b.length → 0 ≤ tabR a b i k ∧ tabR a b i k ≤ ((a.length - i : Nat) : Int) + ((b.length - k : Nat) : Int) := by
  intro n
  induction n using Nat.strongRecOn with
  | _ n ih =>
    intro i k hn hi hk
    rw [tabR]
    by_cases h1 : i < a.length
    · rw [if_pos h1]
      by_cases h2 : k < b.length
      · rw [if_pos h2]
        have i1 := ih ((a.length - (i + 1)) + (b.length - k)) (by omega) (i + 1) k rfl (by omega) hk
        have i2 := ih ((a.length - i) + (b.length - (k + 1))) (by omega) i (k + 1) rfl hi (by omega)
        have i3 := ih ((a.length - (i + 1)) + (b.length - (k + 1))) (by omega) (i + 1) (k + 1) rfl (by omega) (by omega)
        have p := price_bd (a.getD i default) (b.getD k default)
        split <;> omega
      · rw [if_neg h2]; omega
    · rw [if_neg h1]; omega
theorem tab_bd' {a b : List Elem} {i k : Nat} (hi : i ≤ a.length) (hk : k ≤ b.length) : 0 ≤ tabR a b i k ∧ tabR a b i k ≤ (a.length : Int) + b.length := by
  have := tab_bd a b _ i k rfl hi hk; omega
def rowT (a b : List Elem) (i : Nat) : List Int := (List.range (b.length + 1)).map (tabR a b i)
def tabL (a b : List Elem) : List (List Int) := (List.range (a.length + 1)).map (rowT a b)
theorem rowT_len (a b : List Elem) (i : Nat) : (rowT a b i).length = b.length + 1 := by simp [rowT]
theorem rowT_at {a b : List Elem} {i k : Nat} (h : k ≤ b.length) : (rowT a b i).getD k default = tabR a b i k := by
  unfold rowT
  rw [List.getD, List.getElem?_map, List.getElem?_range (by omega)]; rfl
theorem tabL_at {a b : List Elem} {i : Nat} (h : i ≤ a.length) : (tabL a b).getD i default = rowT a b i := by
  unfold tabL
  rw [List.getD, List.getElem?_map, List.getElem?_range (by omega)]; rfl
theorem tabL_len (a b : List Elem) : (tabL a b).length = a.length + 1 := by simp [tabL]
theorem list_eq {α : Type} [Inhabited α] {l r : List α} (hl : l.length = r.length) (h : ∀ j, j < r.length → l.getD j default = r.getD j default) : l = r := by
  apply List.ext_getElem hl
  intro j h1 h2
  have := h j h2
  simpa [List.getD, List.getElem?_eq_getElem h1, List.getElem?_eq_getElem h2] using this
/-- The table, from row i on. -/
structure TO (a b : List Elem) (L : List (List Int)) (i : Int) : Prop where
  bd : -1 ≤ i ∧ i ≤ a.length
  len : L.length = a.length + 1
  at_ : ∀ j : Nat, i < j → j ≤ a.length → L.getD j default = rowT a b j
/-- A row, from column k on. -/
structure TI (a b : List Elem) (o : List Int) (i k : Int) : Prop where
  bd : -1 ≤ k ∧ k ≤ b.length
  len : o.length = b.length + 1
  at_ : ∀ j : Nat, k < j → j ≤ b.length → o.getD j default = tabR a b i.toNat j
theorem TO.start (a b : List Elem) : TO a b (List.replicate (a.length + 1) []) a.length := ⟨by omega, by simp, fun j h1 h2 => by omega⟩
theorem TI.start (a b : List Elem) (i : Int) : TI a b (List.replicate (b.length + 1) 0) i b.length := ⟨by omega, by simp, fun j h1 h2 => by omega⟩
theorem TI.row {a b : List Elem} {o : List Int} {i k : Int} (h : TI a b o i k) (hk : k < 0) : o = rowT a b i.toNat :=
  list_eq (by rw [h.len, rowT_len]) (fun j hj => by rw [rowT_len] at hj; rw [h.at_ j (by omega) (by omega), rowT_at (by omega)])
theorem getD_set {α : Type} [Inhabited α] {l : List α} {i j : Nat} {x : α} (h : i < l.length) : (l.set i x).getD j default = if i = j then x else l.getD j default := by
  by_cases e : i = j
  · subst e; rw [if_pos rfl, getD_set_eq h]
  · rw [if_neg e, getD_set_ne e]
theorem TO.next {a b : List Elem} {L : List (List Int)} {o : List Int} {i k : Int} (h : TO a b L i) (h0 : 0 ≤ i) (g : TI a b o i k) (hk : k < 0) : TO a b (L.set i.toNat o) (i - 1) := by
  obtain ⟨b1, b2⟩ := h.bd
  refine ⟨by omega, by rw [List.length_set]; exact h.len, fun j h1 h2 => ?_⟩
  rw [getD_set (by have := h.len; omega)]
  split
  · rename_i e; rw [g.row hk, e]
  · exact h.at_ j (by omega) h2
theorem TO.done {a b : List Elem} {L : List (List Int)} {i : Int} (h : TO a b L i) (hi : i < 0) : L = tabL a b :=
  list_eq (by rw [h.len, tabL_len]) (fun j hj => by rw [tabL_len] at hj; rw [h.at_ j (by omega) (by omega), tabL_at (by omega)])
theorem TO.below {a b : List Elem} {L : List (List Int)} {i : Int} (h : TO a b L i) (h0 : 0 ≤ i) (h1 : i < a.length) : L.getD (Int.toNat (i + 1)) default = rowT a b (i.toNat + 1) := by
  have := h.at_ (Int.toNat (i + 1)) (by omega) (by omega)
  rw [this, show Int.toNat (i + 1) = i.toNat + 1 by omega]
theorem TI.next {a b : List Elem} {o : List Int} {i k : Int} {v : Int} (h : TI a b o i k) (h0 : 0 ≤ k) (hv : v = tabR a b i.toNat k.toNat) : TI a b (o.set k.toNat v) i (k - 1) := by
  obtain ⟨b1, b2⟩ := h.bd
  refine ⟨by omega, by rw [List.length_set]; exact h.len, fun j h1 h2 => ?_⟩
  rw [getD_set (by have := h.len; omega)]
  split
  · rename_i e; rw [hv, e]
  · exact h.at_ j (by omega) h2
theorem TI.right {a b : List Elem} {o : List Int} {i k : Int} (h : TI a b o i k) (h0 : 0 ≤ k) (h1 : k < b.length) : o.getD (Int.toNat (k + 1)) default = tabR a b i.toNat (k.toNat + 1) := by
  have := h.at_ (Int.toNat (k + 1)) (by omega) (by omega)
  rw [this, show Int.toNat (k + 1) = k.toNat + 1 by omega]
end Go.Ch
end
section
set_option linter.unusedVariables false
set_option linter.unusedSimpArgs false
namespace Go.Ch
open Go Go.Ab

def chgU (x y : Elem) : List Attr := fm chgG x.attrs y.attrs
def KeepP (a b : List Elem) (i k : Nat) : Prop := (i < a.length ∧ k < b.length) ∧ alikeB (a.getD i default) (b.getD k default) = true ∧ tabR a b i k = tabR a b (i + 1) (k + 1) + priceI (a.getD i default) (b.getD k default)
instance (a b : List Elem) (i k : Nat) : Decidable (KeepP a b i k) := by unfold KeepP; infer_instance
def CutP (a b : List Elem) (i k : Nat) : Prop := i < a.length ∧ (k = b.length ∨ tabR a b i k = 1 + tabR a b (i + 1) k)
instance (a b : List Elem) (i k : Nat) : Decidable (CutP a b i k) := by unfold CutP; infer_instance
def pathU (a b : List Elem) (i k : Nat) : List DU :=
  if h1 : KeepP a b i k then .K (chgU (a.getD i default) (b.getD k default)) :: pathU a b (i + 1) (k + 1)
  else if h2 : CutP a b i k then .C :: pathU a b (i + 1) k
  else if k < b.length then .A (b.getD k default) :: pathU a b i (k + 1)
  else []
termination_by (a.length - i) + (b.length - k)
decreasing_by
  · have := h1.1; omega
  · have := h2.1; omega
  · omega
theorem path_keep {a b : List Elem} {i k : Nat} (h : KeepP a b i k) : pathU a b i k = .K (chgU (a.getD i default) (b.getD k default)) :: pathU a b (i + 1) (k + 1) := by rw [pathU, dif_pos h]
theorem path_cut {a b : List Elem} {i k : Nat} (h : ¬ KeepP a b i k) (h2 : CutP a b i k) : pathU a b i k = .C :: pathU a b (i + 1) k := by rw [pathU, dif_neg h, dif_pos h2]
theorem path_add {a b : List Elem} {i k : Nat} (h : ¬ KeepP a b i k) (h2 : ¬ CutP a b i k) (h3 : k < b.length) : pathU a b i k = .A (b.getD k default) :: pathU a b i (k + 1) := by rw [pathU, dif_neg h, dif_neg h2, if_pos h3]
theorem path_end {a b : List Elem} {i k : Nat} (h : a.length ≤ i) (h3 : b.length ≤ k) : pathU a b i k = [] := by
  rw [pathU, dif_neg (fun q => by have := q.1; omega), dif_neg (fun q => by have := q.1; omega), if_neg (by omega)]
theorem ends_or {a b : List Elem} {i k : Nat} (hi : i ≤ a.length) (hk : k ≤ b.length) (h2 : ¬ CutP a b i k) (h : i < a.length ∨ k < b.length) : k < b.length := by
  refine Classical.byContradiction fun q => h2 ⟨by omega, .inl (by omega)⟩
def costU : List DU → Int
  | [] => 0
  | .K c :: u => (if 0 < c.length then 1 else 0) + costU u
  | .A _ :: u => 1 + costU u
  | .C :: u => 1 + costU u
theorem costU_app (u v : List DU) : costU (u ++ v) = costU u + costU v := by
  induction u with
  | nil => simp [costU]
  | cons x u ih => cases x <;> simp only [List.cons_append, costU, ih] <;> omega
theorem costU_sw {u v : List DU} (h : DSw u v) : costU u = costU v := by
  induction h with
  | refl u => rfl
  | cons x _ ih => cases x <;> simp only [costU, ih]
  | swap e u => simp only [costU]
  | symm _ ih => exact ih.symm
  | trans _ _ a b => exact a.trans b
/-! ### Keeping an element as another one -/
theorem chg_nil {x y : List Attr} (hx : VG false x) (hy : VG false y) : (0 < (fm chgG x y).length) ↔ sameL x y = false := by
  constructor
  · intro h
    cases hs : sameL x y with
    | false => rfl
    | true =>
      have := sameL_eq.1 hs
      subst this
      obtain ⟨z, hz⟩ : ∃ z, z ∈ fm chgG x x := List.exists_mem_of_length_pos h
      exact absurd rfl (between_differs np_mt vp_mt hx hx hz)
  · intro h
    refine Classical.byContradiction fun q => ?_
    have e : fm chgG x y = [] := List.length_eq_zero_iff.1 (by omega)
    have := between_leads np_mt vp_mt hx hy
    rw [e, raw_nil] at this
    rw [this, sameL_self] at h; cases h
theorem price_chg {x y : Elem} (hx : VG false x.attrs) (hy : VG false y.attrs) : (if 0 < (chgU x y).length then (1 : Int) else 0) = priceI x y := by
  unfold priceI chgU
  cases hs : sameL x.attrs y.attrs with
  | true => rw [if_neg (fun h => by have := (chg_nil hx hy).1 h; rw [hs] at this; cases this), if_pos rfl]
  | false => rw [if_pos ((chg_nil hx hy).2 hs), if_neg (by decide)]
theorem chg_as {x y : Elem} (ha : alikeB x y = true) (hx : VG false x.attrs) (hy : VG false y.attrs) : chgE (chgU x y) x = y := by
  unfold alikeB at ha
  simp only [Bool.and_eq_true, beq_iff_eq] at ha
  obtain ⟨xc, xr, xa⟩ := x
  obtain ⟨yc, yr, ya⟩ := y
  simp only at ha hx hy
  unfold chgE chgU
  simp only
  rw [between_leads np_mt vp_mt hx hy, ha.1, ha.2]
/-! ### The way -/
theorem tab_ends {a b : List Elem} {i : Nat} (hi : i ≤ a.length) : tabR a b i b.length = (a.length : Int) - i := by
  rw [tabR]
  by_cases h : i < a.length
  · rw [if_pos h, if_neg (by omega)]
  · rw [if_neg h]; omega
theorem tab_ende {a b : List Elem} {k : Nat} (hk : k ≤ b.length) : tabR a b a.length k = (b.length : Int) - k := by
  rw [tabR, if_neg (by omega)]
def AV (l : List Elem) : Prop := ∀ x ∈ l, VG false x.attrs
theorem AV.at_ {l : List Elem} (h : AV l) {i : Nat} (hi : i < l.length) : VG false (l.getD i default).attrs := h _ (getD_mem' hi)
theorem path_cost {a b : List Elem} (ha : AV a) (hb : AV b) : ∀ (n i k : Nat), (a.length - i) + (b.length - k) = n → i ≤ a.length → k ≤ b.length → costU (pathU a b i k) = tabR a b i k := by
  intro n
  induction n using Nat.strongRecOn with
  | _ n ih =>
    intro i k hn hi hk
    by_cases h1 : KeepP a b i k
    · rw [path_keep h1, costU, price_chg (ha.at_ h1.1.1) (hb.at_ h1.1.2), ih _ (by have := h1.1; omega) (i + 1) (k + 1) rfl (by have := h1.1; omega) (by have := h1.1; omega), h1.2.2]; omega
    · by_cases h2 : CutP a b i k
      · rw [path_cut h1 h2, costU, ih _ (by have := h2.1; omega) (i + 1) k rfl (by have := h2.1; omega) hk]
        rcases h2.2 with q | q
        · subst q
          rw [tab_ends (by have := h2.1; omega), tab_ends hi]; omega
        · exact q.symm
      · by_cases h3 : i < a.length ∨ k < b.length
        · have hk2 := ends_or hi hk h2 h3
          rw [path_add h1 h2 hk2, costU, ih _ (by omega) i (k + 1) rfl hi (by omega)]
          by_cases h4 : i < a.length
          · have hc : ¬ tabR a b i k = 1 + tabR a b (i + 1) k := fun q => h2 ⟨h4, .inr q⟩
            have e := tabR.eq_1 a b i k
            rw [if_pos h4, if_pos hk2] at e
            by_cases h5 : alikeB (a.getD i default) (b.getD k default) = true
            · rw [if_pos h5] at e
              have hq : ¬ tabR a b i k = tabR a b (i + 1) (k + 1) + priceI (a.getD i default) (b.getD k default) := fun q => h1 ⟨⟨h4, hk2⟩, h5, q⟩
              omega
            · rw [if_neg h5] at e; omega
          · have hi2 : i = a.length := by omega
            subst hi2
            rw [tab_ende (by omega), tab_ende hk]; omega
        · rw [path_end (by omega) (by omega), show k = b.length by omega, tab_ends hi]
          simp only [costU]; omega
theorem path_apply {a b : List Elem} (ha : AV a) (hb : AV b) : ∀ (n i k : Nat), (a.length - i) + (b.length - k) = n → i ≤ a.length → k ≤ b.length → applyU (pathU a b i k) (a.drop i) = b.drop k := by
  intro n
  induction n using Nat.strongRecOn with
  | _ n ih =>
    intro i k hn hi hk
    by_cases h1 : KeepP a b i k
    · rw [path_keep h1, dropD (l := a) h1.1.1, applyU, ih _ (by have := h1.1; omega) (i + 1) (k + 1) rfl (by have := h1.1; omega) (by have := h1.1; omega), dropD (l := b) h1.1.2, chg_as h1.2.1 (ha.at_ h1.1.1) (hb.at_ h1.1.2)]
    · by_cases h2 : CutP a b i k
      · rw [path_cut h1 h2, dropD (l := a) h2.1, applyU, ih _ (by have := h2.1; omega) (i + 1) k rfl (by have := h2.1; omega) hk]
      · by_cases h3 : i < a.length ∨ k < b.length
        · have hk2 := ends_or hi hk h2 h3
          rw [path_add h1 h2 hk2, applyU, ih _ (by omega) i (k + 1) rfl hi (by omega), dropD (l := b) hk2]
        · rw [path_end (by omega) (by omega), applyU, List.drop_eq_nil_of_le (by omega)]
theorem path_len {a b : List Elem} : ∀ (n i k : Nat), (a.length - i) + (b.length - k) = n → i ≤ a.length → k ≤ b.length → (pathU a b i k).length ≤ n := by
  intro n
  induction n using Nat.strongRecOn with
  | _ n ih =>
    intro i k hn hi hk
    by_cases h1 : KeepP a b i k
    · rw [path_keep h1]
      have := ih ((a.length - (i + 1)) + (b.length - (k + 1))) (by have := h1.1; omega) (i + 1) (k + 1) rfl (by have := h1.1; omega) (by have := h1.1; omega)
      simp only [List.length_cons]; have := h1.1; omega
    · by_cases h2 : CutP a b i k
      · rw [path_cut h1 h2]
        have := ih ((a.length - (i + 1)) + (b.length - k)) (by have := h2.1; omega) (i + 1) k rfl (by have := h2.1; omega) hk
        simp only [List.length_cons]; have := h2.1; omega
      · by_cases h3 : i < a.length ∨ k < b.length
        · have hk2 := ends_or hi hk h2 h3
          rw [path_add h1 h2 hk2]
          have := ih ((a.length - i) + (b.length - (k + 1))) (by omega) i (k + 1) rfl hi (by omega)
          simp only [List.length_cons]; omega
        · rw [path_end (by omega) (by omega)]; simp
theorem path_all {a b : List Elem} {Q : DU → Prop} (hK : ∀ i k, i < a.length → k < b.length → Q (.K (chgU (a.getD i default) (b.getD k default)))) (hA : ∀ k, k < b.length → Q (.A (b.getD k default))) (hC : Q .C) :
    ∀ (n i k : Nat), (a.length - i) + (b.length - k) = n → i ≤ a.length → k ≤ b.length → ∀ u ∈ pathU a b i k, Q u := by
  intro n
  induction n using Nat.strongRecOn with
  | _ n ih =>
    intro i k hn hi hk u hu
    by_cases h1 : KeepP a b i k
    · rw [path_keep h1] at hu
      rcases List.mem_cons.1 hu with rfl | hu
      · exact hK i k h1.1.1 h1.1.2
      · exact ih _ (by have := h1.1; omega) (i + 1) (k + 1) rfl (by have := h1.1; omega) (by have := h1.1; omega) u hu
    · by_cases h2 : CutP a b i k
      · rw [path_cut h1 h2] at hu
        rcases List.mem_cons.1 hu with rfl | hu
        · exact hC
        · exact ih _ (by have := h2.1; omega) (i + 1) k rfl (by have := h2.1; omega) hk u hu
      · by_cases h3 : i < a.length ∨ k < b.length
        · have hk2 := ends_or hi hk h2 h3
          rw [path_add h1 h2 hk2] at hu
          rcases List.mem_cons.1 hu with rfl | hu
          · exact hA k hk2
          · exact ih _ (by omega) i (k + 1) rfl hi (by omega) u hu
        · rw [path_end (by omega) (by omega)] at hu; cases hu
theorem alike_sym (x y : Elem) : alikeB x y = alikeB y x := by
  unfold alikeB
  rw [Bool.eq_iff_iff]; simp only [Bool.and_eq_true, beq_iff_eq]
  exact ⟨fun h => ⟨h.1.symm, h.2.symm⟩, fun h => ⟨h.1.symm, h.2.symm⟩⟩
theorem price_sym (x y : Elem) : priceI x y = priceI y x := by
  unfold priceI
  have : sameL x.attrs y.attrs = true ↔ sameL y.attrs x.attrs = true := by rw [sameL_eq, sameL_eq]; exact eq_comm
  by_cases h : sameL x.attrs y.attrs = true
  · rw [if_pos h, if_pos (this.1 h)]
  · rw [if_neg h, if_neg (fun q => h (this.2 q))]
theorem tab_sym (a b : List Elem) : ∀ (n i k : Nat), (a.length - i) + (b.length - k) = n → i ≤ a.length → k ≤ b.length → tabR a b i k = tabR b a k i := by
  intro n
  induction n using Nat.strongRecOn with
  | _ n ih =>
    intro i k hn hi hk
    by_cases h1 : i < a.length
    · by_cases h2 : k < b.length
      · rw [tabR, tabR.eq_1 b a k i, if_pos h1, if_pos h2, if_pos h2, if_pos h1, ih _ (by omega) (i + 1) k rfl (by omega) hk, ih _ (by omega) i (k + 1) rfl hi (by omega), ih _ (by omega) (i + 1) (k + 1) rfl (by omega) (by omega), alike_sym, price_sym]
        split <;> omega
      · rw [tabR, tabR.eq_1 b a k i, if_pos h1, if_neg h2, if_neg h2]
    · rw [tabR, tabR.eq_1 b a k i, if_neg h1]
      by_cases h2 : k < b.length
      · rw [if_pos h2, if_neg h1]
      · rw [if_neg h2]; omega
/-! ### With the ends tied -/
def TiedP (a b : List Elem) : Prop := ((0 < a.length ∧ 0 < b.length) ∧ (a.getD (a.length - 1) default).char = 10) ∧ (b.getD (b.length - 1) default).char = 10
instance (a b : List Elem) : Decidable (TiedP a b) := by unfold TiedP; infer_instance
def ini (a : List Elem) : List Elem := a.take (a.length - 1)
def lst (a : List Elem) : Elem := a.getD (a.length - 1) default
def diffU (a b : List Elem) : List DU := if TiedP a b then pathU (ini a) (ini b) 0 0 ++ [.K (chgU (lst a) (lst b))] else pathU a b 0 0
def costT (a b : List Elem) : Int := if TiedP a b then tabR (ini a) (ini b) 0 0 + priceI (lst a) (lst b) else tabR a b 0 0
theorem ini_lst {a : List Elem} (h : 0 < a.length) : a = ini a ++ [lst a] := by
  unfold ini lst
  conv => lhs; rw [← List.take_append_drop (a.length - 1) a]
  rw [dropD (show a.length - 1 < a.length by omega), List.drop_eq_nil_of_le (by omega)]
theorem ini_len {a : List Elem} : (ini a).length = a.length - 1 := by simp [ini]
theorem AV.ini {a : List Elem} (h : AV a) : AV (ini a) := fun x hx => h x (List.mem_of_mem_take hx)
theorem AV.lst {a : List Elem} (h : AV a) (hp : 0 < a.length) : VG false (lst a).attrs := h _ (getD_mem' (by omega))
theorem applyU_split : ∀ (u v : List DU) (l r : List Elem), oldN u = l.length → applyU (u ++ v) (l ++ r) = applyU u l ++ applyU v r
  | [], v, [], r, h => rfl
  | [], v, _ :: _, r, h => by simp [oldN] at h
  | .A e :: u, v, l, r, h => by simp only [List.cons_append, applyU]; rw [applyU_split u v l r (by simpa [oldN] using h)]
  | .K c :: u, v, [], r, h => by simp [oldN] at h
  | .C :: u, v, [], r, h => by simp [oldN] at h
  | .K c :: u, v, x :: l, r, h => by simp only [List.cons_append, applyU]; rw [applyU_split u v l r (by simpa [oldN] using h)]
  | .C :: u, v, x :: l, r, h => by simp only [List.cons_append, applyU]; rw [applyU_split u v l r (by simpa [oldN] using h)]
theorem path_old {a b : List Elem} : ∀ (n i k : Nat), (a.length - i) + (b.length - k) = n → i ≤ a.length → k ≤ b.length → oldN (pathU a b i k) = a.length - i := by
  intro n
  induction n using Nat.strongRecOn with
  | _ n ih =>
    intro i k hn hi hk
    by_cases h1 : KeepP a b i k
    · rw [path_keep h1, oldN, ih _ (by have := h1.1; omega) (i + 1) (k + 1) rfl (by have := h1.1; omega) (by have := h1.1; omega)]; have := h1.1; omega
      intro e h; cases h
    · by_cases h2 : CutP a b i k
      · rw [path_cut h1 h2, oldN, ih _ (by have := h2.1; omega) (i + 1) k rfl (by have := h2.1; omega) hk]; have := h2.1; omega
        intro e h; cases h
      · by_cases h3 : i < a.length ∨ k < b.length
        · have hk2 := ends_or hi hk h2 h3
          rw [path_add h1 h2 hk2, oldN, ih _ (by omega) i (k + 1) rfl hi (by omega)]
        · rw [path_end (by omega) (by omega), oldN]; omega
def costS (s : DStep) : Int := if s.kind = 1 then (s.elems.length : Int) else if s.kind = 2 ∨ 0 < s.attrs.length then s.n else 0
def costD : List DStep → Int
  | [] => 0
  | s :: l => costS s + costD l
theorem costU_As (e : List Elem) : costU (e.map .A) = e.length := by
  induction e with
  | nil => rfl
  | cons x e ih => simp only [List.map_cons, costU, ih, List.length_cons]; omega
theorem costU_Cs (n : Nat) : costU (List.replicate n .C) = n := by
  induction n with
  | zero => rfl
  | succ n ih => simp only [List.replicate_succ, costU, ih]; omega
theorem costU_Ks (n : Nat) (c : List Attr) : costU (List.replicate n (.K c)) = if 0 < c.length then (n : Int) else 0 := by
  induction n with
  | zero => simp [costU]
  | succ n ih => simp only [List.replicate_succ, costU, ih]; split <;> omega
theorem costS_ex {s : DStep} (h : DOk s) : costS s = costU (exS s) ∧ 0 ≤ costS s := by
  have hz := stepD_sz (step_iff.2 h)
  unfold costS exS
  by_cases k1 : s.kind = 1
  · rw [if_pos k1, if_pos k1, costU_As]; exact ⟨rfl, by omega⟩
  · rw [if_neg k1, if_neg k1]
    by_cases k2 : s.kind = 2
    · rw [if_pos (.inl k2), if_pos k2, costU_Cs]; omega
    · rw [if_neg k2, costU_Ks]
      by_cases h0 : 0 < s.attrs.length
      · rw [if_pos (.inr h0), if_pos h0]; omega
      · rw [if_neg (by rintro (q | q); exact k2 q; exact h0 q), if_neg h0]; omega
theorem costD_ex : ∀ {d : List DStep}, (∀ s ∈ d, DOk s) → costD d = costU (exD d)
  | [], _ => rfl
  | s :: d, h => by
    rw [costD, exD, costU_app, (costS_ex (h s (by simp))).1, costD_ex (d := d) (fun t ht => h t (by simp [ht]))]
theorem diff_law {a b : List Elem} (pa : partE a 0 = 0) (pb : partE b 0 = 0) (na : AN 1000000000 a) (nb : AN 1000000000 b) (la : a.length ≤ 2000) (lb : b.length ≤ 2000) :
    tidyL ((diffU a b).map stepU) = doneD (diffU a b) ∧ tidyE ((diffU a b).map stepU) = 0 ∧ ((diffU a b).map stepU).length ≤ 5000 ∧ elS ((diffU a b).map stepU) ≤ 5000 ∧ DN 100000000000 ((diffU a b).map stepU) ∧
    DValid (doneD (diffU a b)) ∧ DN 400000000000 (doneD (diffU a b)) ∧ oldD (doneD (diffU a b)) = a.length ∧ rawD a (doneD (diffU a b)) = b ∧ costD (doneD (diffU a b)) = costT a b ∧ 0 ≤ costT a b ∧ costT a b ≤ (a.length : Int) + b.length ∧ costT a b = costT b a := by
  have va : AV a := fun x hx => elem_ok (part_iff.1 pa x hx)
  have vb : AV b := fun x hx => elem_ok (part_iff.1 pb x hx)
  have eb : ∀ x ∈ b, elemE x = 0 := part_iff.1 pb
  have chgl : ∀ x y : Elem, x.attrs.length ≤ 1000000000 → y.attrs.length ≤ 1000000000 → (chgU x y).length ≤ 4000000000 := fun x y h1 h2 => by
    have := fm_len' chgG x.attrs y.attrs; unfold chgU; omega
  -- the units
  have hu : ∀ u ∈ diffU a b, UnitOk u ∧ DN 100000000000 [stepU u] := by
    have kok : ∀ x y : Elem, VG false x.attrs → VG false y.attrs → x.attrs.length ≤ 1000000000 → y.attrs.length ≤ 1000000000 → UnitOk (.K (chgU x y)) ∧ DN 100000000000 [stepU (.K (chgU x y))] := fun x y h1 h2 h3 h4 => by
      have := chgl x y h3 h4
      refine ⟨⟨chg_V np_mt h1 h2, by omega⟩, fun s hs => ?_⟩
      rw [List.mem_singleton] at hs; subst hs
      exact ⟨by simp [stepU], by simp only [stepU]; omega, fun x hx => by cases hx⟩
    have aok : ∀ x : Elem, elemE x = 0 → x.attrs.length ≤ 1000000000 → UnitOk (.A x) ∧ DN 100000000000 [stepU (.A x)] := fun x h1 h2 => by
      refine ⟨⟨h1, by omega⟩, fun s hs => ?_⟩
      rw [List.mem_singleton] at hs; subst hs
      exact ⟨by simp [stepU], by simp [stepU], fun y hy => by rw [show y = x by simpa [stepU] using hy]; omega⟩
    have cok : UnitOk .C ∧ DN 100000000000 [stepU .C] := ⟨trivial, fun s hs => by
      rw [List.mem_singleton] at hs; subst hs
      exact ⟨by simp [stepU], by simp [stepU], fun y hy => by cases hy⟩⟩
    unfold diffU
    intro u hu
    split at hu
    · rename_i ht
      rcases List.mem_append.1 hu with hu | hu
      · refine path_all (Q := fun u => UnitOk u ∧ DN 100000000000 [stepU u]) (fun i k h1 h2 => kok _ _ (va.ini.at_ h1) (vb.ini.at_ h2) (na _ (List.mem_of_mem_take (getD_mem' h1))) (nb _ (List.mem_of_mem_take (getD_mem' h2)))) (fun k h => aok _ (eb _ (List.mem_of_mem_take (getD_mem' h))) (nb _ (List.mem_of_mem_take (getD_mem' h)))) cok _ 0 0 rfl (Nat.zero_le _) (Nat.zero_le _) u hu
      · rw [List.mem_singleton] at hu; subst hu
        exact kok _ _ (va.lst ht.1.1.1) (vb.lst ht.1.1.2) (na _ (getD_mem' (by have := ht.1.1.1; omega))) (nb _ (getD_mem' (by have := ht.1.1.2; omega)))
    · exact path_all (Q := fun u => UnitOk u ∧ DN 100000000000 [stepU u]) (fun i k h1 h2 => kok _ _ (va.at_ h1) (vb.at_ h2) (na _ (getD_mem' h1)) (nb _ (getD_mem' h2))) (fun k h => aok _ (eb _ (getD_mem' h)) (nb _ (getD_mem' h))) cok _ 0 0 rfl (Nat.zero_le _) (Nat.zero_le _) u hu
  -- lengths
  have hl : (diffU a b).length ≤ 4001 := by
    unfold diffU
    split
    · have := path_len (a := ini a) (b := ini b) _ 0 0 rfl (Nat.zero_le _) (Nat.zero_le _)
      rw [ini_len, ini_len] at this
      rw [List.length_append]; simp only [List.length_singleton]; omega
    · have := path_len (a := a) (b := b) _ 0 0 rfl (Nat.zero_le _) (Nat.zero_le _); omega
  -- what it does
  have hap : applyU (diffU a b) a = b ∧ oldN (diffU a b) = a.length := by
    unfold diffU
    by_cases ht : TiedP a b
    · rw [if_pos ht]
      have e1 := path_apply va.ini vb.ini _ 0 0 rfl (Nat.zero_le _) (Nat.zero_le _)
      have o1 := path_old (a := ini a) (b := ini b) _ 0 0 rfl (Nat.zero_le _) (Nat.zero_le _)
      rw [List.drop_zero, List.drop_zero] at e1
      constructor
      · have key := applyU_split (pathU (ini a) (ini b) 0 0) [.K (chgU (lst a) (lst b))] (ini a) [lst a] (by omega)
        rw [← ini_lst ht.1.1.1] at key
        rw [key, e1]
        have hal : alikeB (lst a) (lst b) = true := by
          have w1 := part_iff.1 pa (lst a) (getD_mem' (by have := ht.1.1.1; omega))
          have w2 := part_iff.1 pb (lst b) (getD_mem' (by have := ht.1.1.2; omega))
          have c1 : (lst a).char = 10 := ht.1.2
          have c2 : (lst b).char = 10 := ht.2
          have r : ∀ x : Elem, elemE x = 0 → x.char = 10 → x.ref = 0 := fun x hx hc => by
            unfold elemE at hx
            split at hx
            · omega
            · rename_i q
              exact Classical.byContradiction fun hr => q ⟨fun e => by omega, fun e => absurd e hr⟩
          unfold alikeB
          rw [c1, c2, r _ w1 c1, r _ w2 c2]; rfl
        simp only [applyU]
        rw [chg_as hal (va.lst ht.1.1.1) (vb.lst ht.1.1.2)]
        exact (ini_lst ht.1.1.2).symm
      · rw [oldN_app, o1, ini_len]; simp only [oldN]; have := ht.1.1.1; omega
    · rw [if_neg ht]
      have e1 := path_apply va vb _ 0 0 rfl (Nat.zero_le _) (Nat.zero_le _)
      have o1 := path_old (a := a) (b := b) _ 0 0 rfl (Nat.zero_le _) (Nat.zero_le _)
      rw [List.drop_zero, List.drop_zero] at e1
      exact ⟨e1, by omega⟩
  -- what it costs
  have hco : costU (diffU a b) = costT a b := by
    unfold diffU costT
    split
    · rename_i ht
      rw [costU_app, path_cost va.ini vb.ini _ 0 0 rfl (Nat.zero_le _) (Nat.zero_le _), costU, price_chg (va.lst ht.1.1.1) (vb.lst ht.1.1.2), costU]; omega
    · rw [path_cost va vb _ 0 0 rfl (Nat.zero_le _) (Nat.zero_le _)]
  have hcb : 0 ≤ costT a b ∧ costT a b ≤ (a.length : Int) + b.length := by
    unfold costT
    split
    · rename_i ht
      have := tab_bd' (a := ini a) (b := ini b) (i := 0) (k := 0) (Nat.zero_le _) (Nat.zero_le _)
      rw [ini_len, ini_len] at this
      have p := price_bd (lst a) (lst b)
      have := ht.1.1; omega
    · exact tab_bd' (Nat.zero_le _) (Nat.zero_le _)
  have hcs : costT a b = costT b a := by
    unfold costT
    by_cases ht : TiedP a b
    · rw [if_pos ht, if_pos ⟨⟨⟨ht.1.1.2, ht.1.1.1⟩, ht.2⟩, ht.1.2⟩, tab_sym _ _ _ 0 0 rfl (Nat.zero_le _) (Nat.zero_le _), price_sym]
    · rw [if_neg ht, if_neg (fun q => ht ⟨⟨⟨q.1.1.2, q.1.1.1⟩, q.2⟩, q.1.2⟩), tab_sym _ _ _ 0 0 rfl (Nat.zero_le _) (Nat.zero_le _)]
  have hok : ∀ u ∈ diffU a b, UnitOk u := fun u h => (hu u h).1
  obtain ⟨t1, t2⟩ := tidy_units hok (by omega)
  have hn : oldN (diffU a b) ≤ (diffU a b).length ∧ newN (diffU a b) ≤ (diffU a b).length := by
    have : ∀ us : List DU, oldN us ≤ us.length ∧ newN us ≤ us.length := by
      intro us
      induction us with
      | nil => exact ⟨Nat.le_refl _, Nat.le_refl _⟩
      | cons u us ih => cases u <;> simp only [oldN, newN, List.length_cons] <;> omega
    exact this _
  obtain ⟨d1, d2, d3, d4⟩ := doneD_ok hok (by omega) (by omega)
  obtain ⟨m1, m2, _⟩ := units_map hok
  have hfl := (DI.start hok (by omega)).all.fl.2
  refine ⟨t1, t2, by omega, by omega, fun s hs => ?_, d1, hfl, by rw [d3, hap.2], ?_, ?_, hcb.1, hcb.2, hcs⟩
  · obtain ⟨u, h, rfl⟩ := List.mem_map.1 hs
    exact (hu u h).2 _ (by simp)
  · unfold rawD; rw [sw_applyU d2]; exact hap.1
  · rw [costD_ex d1.1.all, costU_sw d2, hco]
end Go.Ch
namespace Go.Ch
open Go Go.Ab
theorem tab_at {a b : List Elem} {i k : Nat} (hi : i ≤ a.length) (hk : k ≤ b.length) : ((tabL a b).getD i default).getD k default = tabR a b i k := by rw [tabL_at hi, rowT_at hk]
theorem row_len {a b : List Elem} {i : Nat} (hi : i ≤ a.length) : ((tabL a b).getD i default).length = b.length + 1 := by rw [tabL_at hi, rowT_len]
theorem one_at {l : List Elem} {k : Nat} (h : k < l.length) : (l.take (k + 1)).drop k = [l.getD k default] := by
  rw [List.take_succ_eq_append_getElem h, List.drop_append, List.drop_eq_nil_of_le (by simp; omega)]
  simp [show k - min k l.length = 0 by omega, List.getD, List.getElem?_eq_getElem h]
end Go.Ch
namespace Go.Ch
open Go Go.Ab
theorem ini_mem {a : List Elem} {x : Elem} (h : x ∈ ini a) : x ∈ a := List.mem_of_mem_take h
end Go.Ch
end
section
set_option linter.unusedVariables false
set_option linter.unusedSimpArgs false
namespace Go.Ch
open Go Go.Ab

theorem fillSet {α : Type} (p : List α) (u v : α) (k m : Nat) : (p ++ (List.replicate k u ++ List.replicate (m + 1) v)).set (p.length + k) u = p ++ (List.replicate (k + 1) u ++ List.replicate m v) := by
  rw [List.set_append, if_neg (by omega), List.set_append, if_neg (by simp), List.length_replicate, show p.length + k - p.length - k = 0 by omega, List.replicate_succ, List.set_cons_zero, List.replicate_succ', List.append_assoc]
  rfl
/-- What is read so far: an act, and room for the rest. -/
structure RI (d : List DStep) (n : Nat) (i : Nat) (I : List (List Elem)) (C : List Bool) (S : List (List Attr)) (w : Int) (x : Act) : Prop where
  fit : ActFit x
  go : actF x (d.drop i) = actOfL d
  at_ : w = x.cut.length
  old : (x.cut.length : Int) + oldD (d.drop i) = n
  ins : I = x.ins ++ List.replicate (n - x.cut.length) []
  cut : C = x.cut ++ List.replicate (n - x.cut.length) false
  set : S = x.set ++ List.replicate (n - x.cut.length) []
  emp : i < d.length → (d.getD i default).kind = 1 → x.ins.getD (x.ins.length - 1) default = []
theorem RI.start {d : List DStep} {n : Nat} (hn : oldD d = n) : RI d n 0 (List.replicate (n + 1) []) (List.replicate n false) (List.replicate n []) 0 ⟨[[]], [], []⟩ :=
  ⟨⟨rfl, rfl⟩, rfl, rfl, by simpa using hn, by simp [List.replicate_succ], by simp, by simp, fun _ _ => rfl⟩
theorem RI.lens {d : List DStep} {n i : Nat} {I : List (List Elem)} {C : List Bool} {S : List (List Attr)} {w : Int} {x : Act} (h : RI d n i I C S w x) (hv : DValid d) : I.length = n + 1 ∧ C.length = n ∧ S.length = n ∧ 0 ≤ w ∧ w ≤ n := by
  have h1 := h.old
  have h2 := sums_nn (l := d.drop i) (fun s hs => hv.1.all s (List.mem_of_mem_drop hs))
  obtain ⟨f1, f2⟩ := h.fit
  have := h.at_
  rw [h.ins, h.cut, h.set]
  simp only [List.length_append, List.length_replicate]
  omega
theorem next_kind {d : List DStep} (hv : DForm d) {i : Nat} (hi : i + 1 < d.length) : adjD (d.getD i default) (d.getD (i + 1) default) = false := by
  have := (at_of_dform hv (i + 1) (Nat.zero_le _) hi).2 (by omega)
  rwa [Nat.add_sub_cancel] at this
theorem adjK_of' {s t : DStep} (h : adjD s t = false) : (s.kind = t.kind → t.kind = 0) ∧ ¬ (s.kind = 2 ∧ t.kind = 1) := by
  have hn : ¬ adjD s t = true := by rw [h]; decide
  rw [adjD_yes] at hn
  exact ⟨fun e => Classical.byContradiction fun q => hn (.inl ⟨e, .inl q⟩), fun e => hn (.inr e)⟩
theorem RI.add {d : List DStep} {n i : Nat} {I : List (List Elem)} {C : List Bool} {S : List (List Attr)} {w : Int} {x : Act} (h : RI d n i I C S w x) (hv : DValid d) (hi : i < d.length) (k : (d.getD i default).kind = 1) :
    RI d n (i + 1) (I.set w.toNat (d.getD i default).elems) C S w (actS x (d.getD i default)) := by
  obtain ⟨s1, s2, s3, s4, s5, s6, s7, s8⟩ := dlens_step hi hv.1
  rw [if_pos k] at s1
  obtain ⟨f1, f2⟩ := h.fit
  have e : actS x (d.getD i default) = ⟨x.ins.set (x.ins.length - 1) (x.ins.getD (x.ins.length - 1) default ++ (d.getD i default).elems), x.cut, x.set⟩ := by unfold actS; rw [if_pos k]
  have hE := h.emp hi k
  refine ⟨actS_fit h.fit _, (actF_at hi x).symm.trans h.go, ?_, ?_, ?_, ?_, ?_, fun h1 h2 => ?_⟩
  · rw [e]; exact h.at_
  · rw [e]; have := h.old; simp only; omega
  · rw [e, h.ins, h.at_]
    simp only [Int.toNat_natCast]
    rw [hE, List.nil_append, List.set_append, if_pos (by omega), show x.ins.length - 1 = x.cut.length by omega]
  · rw [e]; exact h.cut
  · rw [e]; exact h.set
  · have := adjK_of' (next_kind hv.1 h1)
    omega
/-- While a step's elements are gone through. -/
structure RC (C0 : List Bool) (n w k : Nat) (x : Act) (C : List Bool) : Prop where
  eq : C = x.cut ++ (List.replicate k true ++ List.replicate (n - x.cut.length - k) false)
structure RS (n k : Nat) (c : List Attr) (x : Act) (S : List (List Attr)) : Prop where
  eq : S = x.set ++ (List.replicate k c ++ List.replicate (n - x.cut.length - k) [])
theorem RC.start {n w : Nat} {x : Act} {C : List Bool} (h : C = x.cut ++ List.replicate (n - x.cut.length) false) : RC C n w 0 x C := ⟨by simpa using h⟩
theorem RS.start {n : Nat} {c : List Attr} {x : Act} {S : List (List Attr)} (h : S = x.set ++ List.replicate (n - x.cut.length) []) : RS n 0 c x S := ⟨by simpa using h⟩
theorem RC.next {C0 : List Bool} {n w k j : Nat} {x : Act} {C : List Bool} (h : RC C0 n w k x C) (hk : k < n - x.cut.length) (hj : j = x.cut.length + k) : RC C0 n w (k + 1) x (C.set j true) := ⟨by
  subst hj
  rw [h.eq, show n - x.cut.length - k = (n - x.cut.length - (k + 1)) + 1 by omega, fillSet]⟩
theorem RS.next {n k j : Nat} {c : List Attr} {x : Act} {S : List (List Attr)} (h : RS n k c x S) (hf : ActFit x) (hk : k < n - x.cut.length) (hj : j = x.cut.length + k) : RS n (k + 1) c x (S.set j c) := ⟨by
  subst hj
  rw [h.eq, show n - x.cut.length - k = (n - x.cut.length - (k + 1)) + 1 by omega, ← hf.2, fillSet]⟩
theorem RC.len {C0 : List Bool} {n w k : Nat} {x : Act} {C : List Bool} (h : RC C0 n w k x C) (hk : k ≤ n - x.cut.length) (hn : x.cut.length ≤ n) : C.length = n := by rw [h.eq]; simp; omega
theorem RS.len {n k : Nat} {c : List Attr} {x : Act} {S : List (List Attr)} (h : RS n k c x S) (hf : ActFit x) (hk : k ≤ n - x.cut.length) (hn : x.cut.length ≤ n) : S.length = n := by
  have := hf.2
  rw [h.eq]; simp; omega
theorem RI.rest {d : List DStep} {n i : Nat} {I : List (List Elem)} {C C' : List Bool} {S S' : List (List Attr)} {w : Int} {x : Act} (h : RI d n i I C S w x) (hv : DValid d) (hi : i < d.length) (k : (d.getD i default).kind ≠ 1)
    (hC : C' = x.cut ++ (List.replicate (d.getD i default).n.toNat ((d.getD i default).kind == 2) ++ List.replicate (n - x.cut.length - (d.getD i default).n.toNat) false))
    (hS : S' = x.set ++ (List.replicate (d.getD i default).n.toNat (d.getD i default).attrs ++ List.replicate (n - x.cut.length - (d.getD i default).n.toNat) [])) :
    RI d n (i + 1) I C' S' (w + (d.getD i default).n) (actS x (d.getD i default)) := by
  obtain ⟨s1, s2, s3, s4, s5, s6, s7, s8⟩ := dlens_step hi hv.1
  rw [if_neg k] at s1
  obtain ⟨f1, f2⟩ := h.fit
  have e : actS x (d.getD i default) = ⟨x.ins ++ List.replicate (d.getD i default).n.toNat [], x.cut ++ List.replicate (d.getD i default).n.toNat ((d.getD i default).kind == 2), x.set ++ List.replicate (d.getD i default).n.toNat (d.getD i default).attrs⟩ := by unfold actS; rw [if_neg k]
  have ho := h.old
  have hn : n - (x.cut.length + (d.getD i default).n.toNat) = n - x.cut.length - (d.getD i default).n.toNat := by omega
  have hn1 : 1 ≤ (d.getD i default).n.toNat := by
    have hz : szD (d.getD i default) = (d.getD i default).n := by unfold szD; rw [if_neg k]
    omega
  refine ⟨actS_fit h.fit _, (actF_at hi x).symm.trans h.go, ?_, ?_, ?_, ?_, ?_, fun h1 h2 => ?_⟩
  · rw [e, h.at_]; simp only [List.length_append, List.length_replicate]; omega
  · rw [e]; simp only [List.length_append, List.length_replicate]; omega
  · rw [e, h.ins]
    simp only [List.length_append, List.length_replicate, List.append_assoc, List.replicate_append_replicate]
    congr 2; omega
  · rw [e, hC]; simp only [List.length_append, List.length_replicate, List.append_assoc, hn]
  · rw [e, hS]; simp only [List.length_append, List.length_replicate, List.append_assoc, hn]
  · rw [e]
    simp only [List.length_append, List.length_replicate]
    rw [List.getD, List.getElem?_append_right (by omega), List.getElem?_replicate, if_pos (by omega)]; rfl
theorem RI.done {d : List DStep} {n i : Nat} {I : List (List Elem)} {C : List Bool} {S : List (List Attr)} {w : Int} {x : Act} (h : RI d n i I C S w x) (hi : d.length ≤ i) : I = (actOfL d).ins ∧ C = (actOfL d).cut ∧ S = (actOfL d).set := by
  have hg := h.go
  rw [actF_end hi] at hg
  have ho := h.old
  rw [List.drop_eq_nil_of_le hi] at ho
  simp only [oldD] at ho
  rw [h.ins, h.cut, h.set, ← hg, show n - x.cut.length = 0 by omega]
  simp
theorem rep_same {α : Type} (a b : Nat) (u : α) : List.replicate a u ++ List.replicate b u = List.replicate (a + b) u := List.replicate_append_replicate
end Go.Ch
end
section
set_option linter.unusedVariables false
set_option linter.unusedSimpArgs false
namespace Go.Ch
open Go Go.Ab

structure Conf where
  kind : Int
  node : Int
  fr : Int
  to : Int
  name : ByteArray
instance : Inhabited Conf := ⟨⟨0, 0, 0, 0, { data := #[] }⟩⟩
def confT (s : Conf) : Tree := .agg [.sc (.int .i64 s.kind), .sc (.int .i64 s.node), .sc (.int .i64 s.fr), .sc (.int .i64 s.to), .sc (.string s.name)]
def gapO (o a b : List Elem) : List Elem := if b.length = 0 ∨ sameF a b = true then o ++ a else o ++ a ++ b
def gapC (node : Int) (o a b : List Elem) (c : List Conf) : List Conf :=
  if b.length = 0 ∨ sameF a b = true then c else if 0 < a.length then c ++ [⟨0, node, o.length, (o ++ a ++ b).length, { data := #[] }⟩] else c
def idxF (l : List Attr) (n : ByteArray) (i : Nat) : Int := if i < l.length then (if seq (l.getD i default).name n = true then (i : Int) else idxF l n (i + 1)) else -1
termination_by l.length - i
theorem idxF_bd (l : List Attr) (n : ByteArray) : ∀ (m i : Nat), l.length - i = m → idxF l n i = -1 ∨ (0 ≤ idxF l n i ∧ idxF l n i < l.length)
  | 0, i, h => by rw [idxF, if_neg (by omega)]; exact .inl rfl
  | m + 1, i, h => by
    rw [idxF, if_pos (by omega)]
    split
    · right; omega
    · exact idxF_bd l n m (i + 1) (by omega)
def clashB (b : List Attr) (x : Attr) : Bool := decide (0 ≤ idxF b x.name 0) && !(seq (b.getD (idxF b x.name 0).toNat default).val x.val)
def attC (node : Int) (at_ : Nat) (b : List Attr) (a : List Attr) : List Conf := (a.filter (clashB b)).map fun x => ⟨2, node, at_, (at_ : Int) + 1, x.name⟩
theorem attC_snoc (node : Int) (at_ : Nat) (b a : List Attr) (x : Attr) : attC node at_ b (a ++ [x]) = attC node at_ b a ++ (if clashB b x = true then [⟨2, node, at_, (at_ : Int) + 1, x.name⟩] else []) := by
  unfold attC
  rw [List.filter_append, List.map_append, List.filter_cons]
  cases clashB b x <;> simp
theorem attC_len (node : Int) (at_ : Nat) (b a : List Attr) : (attC node at_ b a).length ≤ a.length := by
  unfold attC; rw [List.length_map]; exact List.length_filter_le _ _
def keptE (x : Elem) (a b : List Attr) : Elem := ⟨x.char, x.ref, fm rawG (fm rawG x.attrs b) a⟩
def elmO (o : List Elem) (x : Elem) (a b : List Attr) (ca cb : Bool) : List Elem := if (ca || cb) = true then o else o ++ [keptE x a b]
def elmC (node : Int) (o : List Elem) (a b : List Attr) (ca cb : Bool) (c : List Conf) : List Conf :=
  if (ca || cb) = true then (if (ca = false ∧ 0 < a.length) ∨ (cb = false ∧ 0 < b.length) then c ++ [⟨1, node, o.length, o.length, { data := #[] }⟩] else c)
  else c ++ attC node o.length b a
/-- The state ahead of an element. -/
def mrgS (node : Int) (f : List Elem) (A B : Act) : Nat → List Elem × List Conf
  | 0 => ([], [])
  | i + 1 =>
    (elmO (gapO (mrgS node f A B i).1 (A.ins.getD i default) (B.ins.getD i default)) (f.getD i default) (A.set.getD i default) (B.set.getD i default) (A.cut.getD i default) (B.cut.getD i default),
     elmC node (gapO (mrgS node f A B i).1 (A.ins.getD i default) (B.ins.getD i default)) (A.set.getD i default) (B.set.getD i default) (A.cut.getD i default) (B.cut.getD i default) (gapC node (mrgS node f A B i).1 (A.ins.getD i default) (B.ins.getD i default) (mrgS node f A B i).2))
def mrgO (node : Int) (f : List Elem) (A B : Act) : List Elem := gapO (mrgS node f A B f.length).1 (A.ins.getD f.length default) (B.ins.getD f.length default)
def mrgC (node : Int) (f : List Elem) (A B : Act) : List Conf := gapC node (mrgS node f A B f.length).1 (A.ins.getD f.length default) (B.ins.getD f.length default) (mrgS node f A B f.length).2
/-! ### Bounds -/
structure ActBd (A : Act) (n : Nat) : Prop where
  fit : ActFit A
  len : A.cut.length = n
  ins : ∀ e ∈ A.ins, e.length ≤ 3000 ∧ AN 10000000 e
  set : ∀ c ∈ A.set, c.length ≤ 20000000
structure MBd (o : List Elem) (c : List Conf) (i : Nat) : Prop where
  len : o.length ≤ 6001 * i
  an : AN 60000000 o
  conf : c.length ≤ 30000000 * i
theorem ActBd.at_ {A : Act} {n i : Nat} (h : ActBd A n) (hi : i ≤ n) : (A.ins.getD i default).length ≤ 3000 ∧ AN 10000000 (A.ins.getD i default) := h.ins _ (getD_mem' (by have := h.fit.1; have := h.len; omega))
theorem ActBd.set_ {A : Act} {n i : Nat} (h : ActBd A n) (hi : i < n) : (A.set.getD i default).length ≤ 20000000 := h.set _ (getD_mem' (by have := h.fit.2; have := h.len; omega))
theorem gap_bd {o a b : List Elem} {c : List Conf} {node : Int} {i : Nat} (h : MBd o c i) (ha : a.length ≤ 3000 ∧ AN 10000000 a) (hb : b.length ≤ 3000 ∧ AN 10000000 b) :
    (gapO o a b).length ≤ 6001 * i + 6000 ∧ AN 60000000 (gapO o a b) ∧ (gapC node o a b c).length ≤ 30000000 * i + 1 := by
  have h1 := h.len
  have h3 := h.conf
  have hx : ∀ x, x ∈ o ∨ x ∈ a ∨ x ∈ b → x.attrs.length ≤ 60000000 := fun x hx => by
    rcases hx with q | q | q
    · exact h.an x q
    · have := ha.2 x q; omega
    · have := hb.2 x q; omega
  unfold gapO gapC
  split
  · exact ⟨by rw [List.length_append]; omega, fun x q => hx x (by rcases List.mem_append.1 q with q | q; exact .inl q; exact .inr (.inl q)), by omega⟩
  · refine ⟨by simp only [List.length_append]; omega, fun x q => hx x (by
      rcases List.mem_append.1 q with q | q
      · rcases List.mem_append.1 q with q | q
        · exact .inl q
        · exact .inr (.inl q)
      · exact .inr (.inr q)), by split <;> (try simp only [List.length_append, List.length_cons, List.length_nil]) <;> omega⟩
theorem elm_bd {o : List Elem} {x : Elem} {a b : List Attr} {ca cb : Bool} {c : List Conf} {node : Int} {i : Nat} (h1 : o.length ≤ 6001 * i + 6000) (h2 : AN 60000000 o) (h3 : c.length ≤ 30000000 * i + 1)
    (hx : x.attrs.length ≤ 10000000) (ha : a.length ≤ 20000000) (hb : b.length ≤ 20000000) : MBd (elmO o x a b ca cb) (elmC node o a b ca cb c) (i + 1) := by
  unfold elmO elmC
  have hl := attC_len node o.length b a
  split
  · exact ⟨by omega, h2, by split <;> (try simp only [List.length_append, List.length_cons, List.length_nil]) <;> omega⟩
  · refine ⟨by simp; omega, fun y hy => ?_, by rw [List.length_append]; omega⟩
    rcases List.mem_append.1 hy with hy | hy
    · exact h2 y hy
    · rw [List.mem_singleton] at hy; subst hy
      have q1 := fm_len' rawG x.attrs b
      have q2 := fm_len' rawG (fm rawG x.attrs b) a
      show (fm rawG (fm rawG x.attrs b) a).length ≤ 60000000
      omega
theorem mrg_bd {f : List Elem} {A B : Act} {node : Int} (hA : ActBd A f.length) (hB : ActBd B f.length) (hf : AN 10000000 f) : ∀ i, i ≤ f.length → MBd (mrgS node f A B i).1 (mrgS node f A B i).2 i
  | 0, _ => ⟨Nat.zero_le _, fun x hx => (by cases hx), Nat.zero_le _⟩
  | i + 1, hi => by
    have ih := mrg_bd hA hB hf (node := node) i (by omega)
    have g := gap_bd (node := node) ih (hA.at_ (i := i) (by omega)) (hB.at_ (i := i) (by omega))
    exact elm_bd g.1 g.2.1 g.2.2 (hf _ (getD_mem' (by omega))) (hA.set_ (by omega)) (hB.set_ (by omega))
end Go.Ch
end
section
set_option linter.unusedVariables false
set_option linter.unusedSimpArgs false
set_option maxRecDepth 100000
set_option maxHeartbeats 4000000
open Go Go.Proofs Go.Ab
namespace Go.Ch
theorem fc_dKeep0 (o : List DStep) (a : List Elem) (c : Int) (n : Int) (l : List Attr) (h0 : n = 0) : FC Try.prog 103 [.ptr 0 0, VI n, VL 2 attrT l] (app emp [(0, .box [.row 1 o.length, .row 2 a.length, VI c]), (1, OR 4 dstepT o), (2, OR 3 elemT a)]) (.tup []) (app emp [(0, .box [.row 1 o.length, .row 2 a.length, VI c]), (1, OR 4 dstepT o), (2, OR 3 elemT a)]) := by
 refine .go Try.f103 ?_
 refine .len 2 (fun hl2 => ?_)
 refine .br [.r []] (n == 0) (fun h0 => ?_) (fun h0 => ?_)
 ·
  (try simp only [beq_iff_eq, beq_eq_false_iff_ne, ne_eq] at h0)
  exact .fin [] [(0, 0), (1, 1), (2, 2)]
 ·
  (try simp only [beq_iff_eq, beq_eq_false_iff_ne, ne_eq] at h0)
  exfalso
  omega

theorem fc_dDoneE (o : List DStep) (a : List Elem) (c : Int) (ho : o.length ≤ 100000000000) (hc : ¬ checkD (flushD ⟨o, a, c⟩) = 0) (hd : DN 400000000000 (flushD ⟨o, a, c⟩)) : FC Try.prog 105 [.ptr 0 0] (app emp [(0, .box [.row 1 o.length, .row 2 a.length, VI c]), (1, OR 4 dstepT o), (2, OR 3 elemT a)]) (.tup [VL 4 dstepT [], VI 3]) (app emp [(0, .box [.row 1 ((flushD ⟨o, a, c⟩).length), .row 3 0, VI 0]), (1, OR 4 dstepT (flushD ⟨o, a, c⟩)), (2, OF 3 elemT a), (3, OR 3 elemT [])]) := by
 refine .go Try.f105 ?_
 refine .br [.r [], .r [(1, X (Xc3 27 [(0, 0), (1, 1), (2, 2)] (fc_dFlush o a c (by omega)) X0))], .r [(4, X (Xc0 (fc_dCheck (flushD ⟨o, a, c⟩) (by assumption)) (rowC dstepT (flushD ⟨o, a, c⟩) X0)))]] ((checkD (flushD ⟨o, a, c⟩)) != 0) (fun h2 => ?_) (fun h2 => ?_)
 ·
  (try simp only [bne_iff_ne, bne_eq_false_iff_eq, ne_eq] at h2)
  exact .fin [.r [], .le (.nL 2 4)] [(0, 0), (1, 1), (2, 2), (27, 3)]
 ·
  (try simp only [bne_iff_ne, bne_eq_false_iff_eq, ne_eq] at h2)
  exfalso
  omega

theorem fc_dTidy (d : List DStep) (hd : DN 100000000000 d) (hl : d.length ≤ 100000000) (he : elS d ≤ 10000000000) : FC Try.prog 49 [VL 4 dstepT d] (app emp []) (.tup [VL 4 dstepT (tidyL d), VI (tidyE d)]) (app emp []) := by
 refine .go Try.f49 ?_
 refine .len 0 (fun hl0 => ?_)
 have hd4 := hd.mono (n := 400000000000) (by decide)
 refine .loop (α := Nat × Int × (List DStep) × (List Elem)) [.r [], .r [], .le (.nB 16 0 4), .le (.nB 16 1 3), .r [(1, X (Xl dstepT d))]] 50 (fun (i, y, o, x) => ([(4, .ptr 16 0), (8, VL 4 dstepT d), (9, VI (d.length : Int)), (10, VI (i : Int))], [(16, .box [.row 24 o.length, .row 25 x.length, VI y]), (24, OR 4 dstepT o), (25, OR 3 elemT x)])) (fun (i, y, o, x) => i ≤ d.length ∧ tidyG ⟨[], [], 0⟩ d = tidyG ⟨o, x, y⟩ (d.drop i) ∧ TB d i ⟨o, x, y⟩) (fun (i, y, o, x) => d.length - i) (0, 0, [], []) ?_ ?_
 ·
  exact ⟨by omega, rfl, TB.start d⟩
 rintro ⟨i, y, o, x⟩ I3 ih3
 try dsimp only at I3
 have b1 := I3.2.2.out
 have b2 := I3.2.2.add
 have b3 := I3.2.2.cut
 simp only at b1 b2 b3
 refine .br [.r []] (decide ((i : Int) < (d.length : Int))) (fun h3 => ?_) (fun h3 => ?_)
 ·
  (try simp only [decide_eq_true_eq, decide_eq_false_iff_not, Int.not_lt, Int.not_le] at h3)
  obtain ⟨e1, e2⟩ := elS_take (d := d) (i := i) (by omega)
  have hT := tidyG_at (d := d) (i := i) (by omega) ⟨o, x, y⟩
  obtain ⟨d1, d2, d3⟩ := hd4 _ (getD_mem' (l := d) (k := i) (by omega))
  obtain ⟨f1, f2⟩ := I3.2.2.flush (by omega) (by omega) (by omega)
  refine .br [.r [(0, X (Xi dstepT d (i : Int)))], .r [(1, X (Xc0 (fc_step ((d.getD i default))) X0))], .r [(5, Xv 1 ((((d.getD i default)).kind) == 1) X0), (6, Xv 1 ((((d.getD i default)).kind) == 1) (Xl elemT (((d.getD i default)).elems))), (7, Xv 1 ((((d.getD i default)).kind) == 1) X0), (8, X (Xk ((((d.getD i default)).kind) == 1))), (11, Xv 1 (((((d.getD i default)).kind) == 1) && (((((d.getD i default)).elems).length : Int) == 0)) X0), (12, X (Xk (((((d.getD i default)).kind) == 1) && (((((d.getD i default)).elems).length : Int) == 0)))), (15, Xv 1 (!((((((d.getD i default)).kind) == 1) && (((((d.getD i default)).elems).length : Int) == 0)) && ((stepD ((d.getD i default))) == 11))) X0), (16, Xv 1 (!((((((d.getD i default)).kind) == 1) && (((((d.getD i default)).elems).length : Int) == 0)) && ((stepD ((d.getD i default))) == 11))) X0), (17, Xv 1 (!((((((d.getD i default)).kind) == 1) && (((((d.getD i default)).elems).length : Int) == 0)) && ((stepD ((d.getD i default))) == 11))) X0), (19, Xv 1 ((!((((((d.getD i default)).kind) == 1) && (((((d.getD i default)).elems).length : Int) == 0)) && ((stepD ((d.getD i default))) == 11))) && ((((d.getD i default)).kind) != 1)) X0), (20, Xv 1 ((!((((((d.getD i default)).kind) == 1) && (((((d.getD i default)).elems).length : Int) == 0)) && ((stepD ((d.getD i default))) == 11))) && ((((d.getD i default)).kind) != 1)) X0), (21, Xka (!((((((d.getD i default)).kind) == 1) && (((((d.getD i default)).elems).length : Int) == 0)) && ((stepD ((d.getD i default))) == 11))) ((((d.getD i default)).kind) != 1)), (22, Xv 1 (!((((((d.getD i default)).kind) == 1) && (((((d.getD i default)).elems).length : Int) == 0)) && ((stepD ((d.getD i default))) == 11))) X0), (24, Xv 1 ((!((((((d.getD i default)).kind) == 1) && (((((d.getD i default)).elems).length : Int) == 0)) && ((stepD ((d.getD i default))) == 11))) && (((((d.getD i default)).kind) != 1) && ((((d.getD i default)).n) == 0))) X0), (25, Xka (!((((((d.getD i default)).kind) == 1) && (((((d.getD i default)).elems).length : Int) == 0)) && ((stepD ((d.getD i default))) == 11))) (((((d.getD i default)).kind) != 1) && ((((d.getD i default)).n) == 0))), (26, X (Xk' ((((((d.getD i default)).kind) == 1) && (((((d.getD i default)).elems).length : Int) == 0)) && ((stepD ((d.getD i default))) == 11))))]] (((((((d.getD i default)).kind) == 1) && (((((d.getD i default)).elems).length : Int) == 0)) && ((stepD ((d.getD i default))) == 11)) || ((((((d.getD i default)).kind) != 1) && ((((d.getD i default)).n) == 0)) && ((stepD ((d.getD i default))) == 2))) (fun h6 => ?_) (fun h6 => ?_)
  ·
   (try simp only [Bool.and_eq_true, Bool.and_eq_false_iff, Bool.not_eq_true', Bool.not_eq_false', Bool.or_eq_true, Bool.or_eq_false_iff, beq_iff_eq, beq_eq_false_iff_ne, ne_eq, bne_iff_ne, bne_eq_false_iff_eq] at h6)
   have hL : lenE (d.getD i default) = (chkA true (((d.getD i default)).attrs) 0) := by unfold lenE; first | rw [if_pos (by omega)] | rw [if_neg (by omega)]
   refine .br [.r [(2, X (Xc0 (fc_acheckChange (((d.getD i default)).attrs)) X0))], .r []] ((chkA true (((d.getD i default)).attrs) 0) != 0) (fun h8 => ?_) (fun h8 => ?_)
   ·
    (try simp only [bne_iff_ne, bne_eq_false_iff_eq, ne_eq] at h8)
    have e1 : ((tidyL d) : List DStep) = [] := by
     unfold tidyL
     rw [I3.2.1, hT, if_pos (by rw [hL]; exact h8)]
    have e2 : ((tidyE d) : Int) = (chkA true (((d.getD i default)).attrs) 0) := by
     unfold tidyE
     rw [I3.2.1, hT, if_pos (by rw [hL]; exact h8)]
     exact hL
    exact .finE [.r [], .le (.nL 2 4)] [] (fun (z0, z1) => (.tup [VL 4 dstepT z0, VI z1], [])) (([] : List DStep), ((chkA true (((d.getD i default)).attrs) 0) : Int)) (((tidyL d) : List DStep), ((tidyE d) : Int)) (pr e1 e2)
   ·
    (try simp only [bne_iff_ne, bne_eq_false_iff_eq, ne_eq] at h8)
    have hL0 : lenE (d.getD i default) = 0 := by rw [hL]; omega
    rw [if_neg (by rw [hL0]; decide)] at hT
    obtain ⟨hk, hn1, hn2⟩ := lenE_ok hL0
    have hN := I3.2.2.next (by omega) hd hL0
    clear h6
    refine .br [.r [], .r []] ((((d.getD i default)).kind) == 0) (fun h14 => ?_) (fun h14 => ?_)
    ·
     (try simp only [beq_iff_eq, beq_eq_false_iff_ne, ne_eq] at h14)
     by_cases hn0 : (d.getD i default).n = 0
     ·
      refine .back [.r [(4, X (Xc3 442 [(0, 16), (1, 24), (2, 25)] (fc_dKeep0 o x y (((d.getD i default)).n) (((d.getD i default)).attrs) (by assumption)) X0))], .r [(0, X (Xn ((i : Int) + 1)))]] [(16, 16), (24, 24), (25, 25)] (ih3 ((i + 1), y, o, x) ?_ ?_)
      ·
       have hW : tdW ⟨o, x, y⟩ (d.getD i default) = ⟨o, x, y⟩ := by unfold tdW; rw [if_pos h14, if_pos hn0]
       have hb : ¬ tdBad ⟨o, x, y⟩ (d.getD i default) := fun h => h.1 h14
       have hN2 := hN hb
       rw [if_neg hb] at hT
       rw [hW] at hT hN2
       exact ⟨by omega, I3.2.1.trans hT, hN2⟩
      ·
       ((try dsimp only); omega)
     ·
      refine .back [.r [(4, X (Xc3 442 [(0, 16), (1, 24), (2, 25)] (fc_dKeep o x y (((d.getD i default)).n) (((d.getD i default)).attrs) (by omega) (by first | omega | simp) (by omega) (by first | assumption | exact kbd (by assumption))) X0))], .r [(0, X (Xn ((i : Int) + 1)))]] [(16, 16), (24, 24), (442, 25)] (ih3 ((i + 1), 0, (keepD (flushD ⟨o, x, y⟩) (((d.getD i default)).n) (((d.getD i default)).attrs)), []) ?_ ?_)
      ·
       have hW : tdW ⟨o, x, y⟩ (d.getD i default) = ⟨keepD (flushD ⟨o, x, y⟩) (d.getD i default).n (d.getD i default).attrs, [], 0⟩ := by unfold tdW; rw [if_pos h14, if_neg hn0]
       have hb : ¬ tdBad ⟨o, x, y⟩ (d.getD i default) := fun h => h.1 h14
       have hN2 := hN hb
       rw [if_neg hb] at hT
       rw [hW] at hT hN2
       exact ⟨by omega, I3.2.1.trans hT, hN2⟩
      ·
       ((try dsimp only); omega)
    ·
     (try simp only [beq_iff_eq, beq_eq_false_iff_ne, ne_eq] at h14)
     refine .br [.r []] ((((d.getD i default)).kind) == 1) (fun h16 => ?_) (fun h16 => ?_)
     ·
      (try simp only [beq_iff_eq, beq_eq_false_iff_ne, ne_eq] at h16)
      have hz : True := trivial
      refine .back [.r [(2, X (Xc3 442 [(0, 16), (1, 24), (2, 25)] (fc_dElems o x y (((d.getD i default)).elems) (by assumption) (by omega)) X0))], .r [(0, X (Xn ((i : Int) + 1)))]] [(16, 16), (24, 24), (25, 25)] (ih3 ((i + 1), y, o, (x ++ (((d.getD i default)).elems))) ?_ ?_)
      ·
       have hW : tdW ⟨o, x, y⟩ (d.getD i default) = ⟨o, x ++ (d.getD i default).elems, y⟩ := by unfold tdW; rw [if_neg h14, if_pos h16]
       have hb : ¬ tdBad ⟨o, x, y⟩ (d.getD i default) := fun h => h.2.1 h16
       have hN2 := hN hb
       rw [if_neg hb] at hT
       rw [hW] at hT hN2
       exact ⟨by omega, I3.2.1.trans hT, hN2⟩
      ·
       ((try dsimp only); omega)
     ·
      (try simp only [beq_iff_eq, beq_eq_false_iff_ne, ne_eq] at h16)
      refine .br [.r [(4, X (Xn (y + (((d.getD i default)).n))))], .r []] (decide ((y + (((d.getD i default)).n)) > 2147483647)) (fun h12 => ?_) (fun h12 => ?_)
      ·
       (try simp only [decide_eq_true_eq, decide_eq_false_iff_not, Int.not_lt, Int.not_le, gt_iff_lt] at h12)
       refine .at 506 [(16, 16), (24, 24), (25, 25)] ([(4, .ptr 16 0), (8, VL 4 dstepT d), (9, VI (d.length : Int)), (10, VI (i : Int)), (59, VB (decide ((y + (((d.getD i default)).n)) > 2147483647)))], [(16, .box [.row 24 o.length, .row 25 x.length, VI (y + (((d.getD i default)).n))]), (24, OR 4 dstepT o), (25, OR 3 elemT x)]) ?_
       have e3 : ((tidyL d) : List DStep) = [] := by
        unfold tidyL
        rw [I3.2.1, hT, if_pos ⟨h14, h16, by simp only; omega⟩]
       have e4 : ((tidyE d) : Int) = 3 := by
        unfold tidyE
        rw [I3.2.1, hT, if_pos ⟨h14, h16, by simp only; omega⟩]
       exact .finE [.r [], .le (.nL 2 4)] [] (fun (z0, z1) => (.tup [VL 4 dstepT z0, VI z1], [])) (([] : List DStep), (3 : Int)) (((tidyL d) : List DStep), ((tidyE d) : Int)) (pr e3 e4)
      ·
       (try simp only [decide_eq_true_eq, decide_eq_false_iff_not, Int.not_lt, Int.not_le, gt_iff_lt] at h12)
       refine .at 506 [(16, 16), (24, 24), (25, 25)] ([(4, .ptr 16 0), (8, VL 4 dstepT d), (9, VI (d.length : Int)), (10, VI (i : Int)), (59, VB (decide ((y + (((d.getD i default)).n)) > 2147483647)))], [(16, .box [.row 24 o.length, .row 25 x.length, VI (y + (((d.getD i default)).n))]), (24, OR 4 dstepT o), (25, OR 3 elemT x)]) ?_
       refine .back [.r [(0, X (Xn ((i : Int) + 1)))]] [(16, 16), (24, 24), (25, 25)] (ih3 ((i + 1), (y + (((d.getD i default)).n)), o, x) ?_ ?_)
       ·
        have hW : tdW ⟨o, x, y⟩ (d.getD i default) = ⟨o, x, y + (d.getD i default).n⟩ := by unfold tdW; rw [if_neg h14, if_neg h16]
        have hb : ¬ tdBad ⟨o, x, y⟩ (d.getD i default) := fun h => by have := h.2.2; simp only at this; omega
        have hN2 := hN hb
        rw [if_neg hb] at hT
        rw [hW] at hT hN2
        exact ⟨by omega, I3.2.1.trans hT, hN2⟩
       ·
        ((try dsimp only); omega)
  ·
   (try simp only [Bool.and_eq_true, Bool.and_eq_false_iff, Bool.not_eq_true', Bool.not_eq_false', Bool.or_eq_true, Bool.or_eq_false_iff, beq_iff_eq, beq_eq_false_iff_ne, ne_eq, bne_iff_ne, bne_eq_false_iff_eq] at h6)
   have hL : lenE (d.getD i default) = (stepD ((d.getD i default))) := by unfold lenE; first | rw [if_pos (by omega)] | rw [if_neg (by omega)]
   refine .br [.r []] ((stepD ((d.getD i default))) != 0) (fun h8 => ?_) (fun h8 => ?_)
   ·
    (try simp only [bne_iff_ne, bne_eq_false_iff_eq, ne_eq] at h8)
    have e5 : ((tidyL d) : List DStep) = [] := by
     unfold tidyL
     rw [I3.2.1, hT, if_pos (by rw [hL]; exact h8)]
    have e6 : ((tidyE d) : Int) = (stepD ((d.getD i default))) := by
     unfold tidyE
     rw [I3.2.1, hT, if_pos (by rw [hL]; exact h8)]
     exact hL
    exact .finE [.r [], .le (.nL 2 4)] [] (fun (z0, z1) => (.tup [VL 4 dstepT z0, VI z1], [])) (([] : List DStep), ((stepD ((d.getD i default))) : Int)) (((tidyL d) : List DStep), ((tidyE d) : Int)) (pr e5 e6)
   ·
    (try simp only [bne_iff_ne, bne_eq_false_iff_eq, ne_eq] at h8)
    have hL0 : lenE (d.getD i default) = 0 := by rw [hL]; omega
    rw [if_neg (by rw [hL0]; decide)] at hT
    obtain ⟨hk, hn1, hn2⟩ := lenE_ok hL0
    have hN := I3.2.2.next (by omega) hd hL0
    clear h6
    refine .br [.r [], .r []] ((((d.getD i default)).kind) == 0) (fun h14 => ?_) (fun h14 => ?_)
    ·
     (try simp only [beq_iff_eq, beq_eq_false_iff_ne, ne_eq] at h14)
     by_cases hn0 : (d.getD i default).n = 0
     ·
      refine .back [.r [(4, X (Xc3 410 [(0, 16), (1, 24), (2, 25)] (fc_dKeep0 o x y (((d.getD i default)).n) (((d.getD i default)).attrs) (by assumption)) X0))], .r [(0, X (Xn ((i : Int) + 1)))]] [(16, 16), (24, 24), (25, 25)] (ih3 ((i + 1), y, o, x) ?_ ?_)
      ·
       have hW : tdW ⟨o, x, y⟩ (d.getD i default) = ⟨o, x, y⟩ := by unfold tdW; rw [if_pos h14, if_pos hn0]
       have hb : ¬ tdBad ⟨o, x, y⟩ (d.getD i default) := fun h => h.1 h14
       have hN2 := hN hb
       rw [if_neg hb] at hT
       rw [hW] at hT hN2
       exact ⟨by omega, I3.2.1.trans hT, hN2⟩
      ·
       ((try dsimp only); omega)
     ·
      refine .back [.r [(4, X (Xc3 410 [(0, 16), (1, 24), (2, 25)] (fc_dKeep o x y (((d.getD i default)).n) (((d.getD i default)).attrs) (by omega) (by first | omega | simp) (by omega) (by first | assumption | exact kbd (by assumption))) X0))], .r [(0, X (Xn ((i : Int) + 1)))]] [(16, 16), (24, 24), (410, 25)] (ih3 ((i + 1), 0, (keepD (flushD ⟨o, x, y⟩) (((d.getD i default)).n) (((d.getD i default)).attrs)), []) ?_ ?_)
      ·
       have hW : tdW ⟨o, x, y⟩ (d.getD i default) = ⟨keepD (flushD ⟨o, x, y⟩) (d.getD i default).n (d.getD i default).attrs, [], 0⟩ := by unfold tdW; rw [if_pos h14, if_neg hn0]
       have hb : ¬ tdBad ⟨o, x, y⟩ (d.getD i default) := fun h => h.1 h14
       have hN2 := hN hb
       rw [if_neg hb] at hT
       rw [hW] at hT hN2
       exact ⟨by omega, I3.2.1.trans hT, hN2⟩
      ·
       ((try dsimp only); omega)
    ·
     (try simp only [beq_iff_eq, beq_eq_false_iff_ne, ne_eq] at h14)
     refine .br [.r []] ((((d.getD i default)).kind) == 1) (fun h16 => ?_) (fun h16 => ?_)
     ·
      (try simp only [beq_iff_eq, beq_eq_false_iff_ne, ne_eq] at h16)
      have hz : True := trivial
      refine .back [.r [(2, X (Xc3 410 [(0, 16), (1, 24), (2, 25)] (fc_dElems o x y (((d.getD i default)).elems) (by assumption) (by omega)) X0))], .r [(0, X (Xn ((i : Int) + 1)))]] [(16, 16), (24, 24), (25, 25)] (ih3 ((i + 1), y, o, (x ++ (((d.getD i default)).elems))) ?_ ?_)
      ·
       have hW : tdW ⟨o, x, y⟩ (d.getD i default) = ⟨o, x ++ (d.getD i default).elems, y⟩ := by unfold tdW; rw [if_neg h14, if_pos h16]
       have hb : ¬ tdBad ⟨o, x, y⟩ (d.getD i default) := fun h => h.2.1 h16
       have hN2 := hN hb
       rw [if_neg hb] at hT
       rw [hW] at hT hN2
       exact ⟨by omega, I3.2.1.trans hT, hN2⟩
      ·
       ((try dsimp only); omega)
     ·
      (try simp only [beq_iff_eq, beq_eq_false_iff_ne, ne_eq] at h16)
      refine .br [.r [(4, X (Xn (y + (((d.getD i default)).n))))], .r []] (decide ((y + (((d.getD i default)).n)) > 2147483647)) (fun h12 => ?_) (fun h12 => ?_)
      ·
       (try simp only [decide_eq_true_eq, decide_eq_false_iff_not, Int.not_lt, Int.not_le, gt_iff_lt] at h12)
       refine .at 474 [(16, 16), (24, 24), (25, 25)] ([(4, .ptr 16 0), (8, VL 4 dstepT d), (9, VI (d.length : Int)), (10, VI (i : Int)), (59, VB (decide ((y + (((d.getD i default)).n)) > 2147483647)))], [(16, .box [.row 24 o.length, .row 25 x.length, VI (y + (((d.getD i default)).n))]), (24, OR 4 dstepT o), (25, OR 3 elemT x)]) ?_
       have e7 : ((tidyL d) : List DStep) = [] := by
        unfold tidyL
        rw [I3.2.1, hT, if_pos ⟨h14, h16, by simp only; omega⟩]
       have e8 : ((tidyE d) : Int) = 3 := by
        unfold tidyE
        rw [I3.2.1, hT, if_pos ⟨h14, h16, by simp only; omega⟩]
       exact .finE [.r [], .le (.nL 2 4)] [] (fun (z0, z1) => (.tup [VL 4 dstepT z0, VI z1], [])) (([] : List DStep), (3 : Int)) (((tidyL d) : List DStep), ((tidyE d) : Int)) (pr e7 e8)
      ·
       (try simp only [decide_eq_true_eq, decide_eq_false_iff_not, Int.not_lt, Int.not_le, gt_iff_lt] at h12)
       refine .at 474 [(16, 16), (24, 24), (25, 25)] ([(4, .ptr 16 0), (8, VL 4 dstepT d), (9, VI (d.length : Int)), (10, VI (i : Int)), (59, VB (decide ((y + (((d.getD i default)).n)) > 2147483647)))], [(16, .box [.row 24 o.length, .row 25 x.length, VI (y + (((d.getD i default)).n))]), (24, OR 4 dstepT o), (25, OR 3 elemT x)]) ?_
       refine .back [.r [(0, X (Xn ((i : Int) + 1)))]] [(16, 16), (24, 24), (25, 25)] (ih3 ((i + 1), (y + (((d.getD i default)).n)), o, x) ?_ ?_)
       ·
        have hW : tdW ⟨o, x, y⟩ (d.getD i default) = ⟨o, x, y + (d.getD i default).n⟩ := by unfold tdW; rw [if_neg h14, if_neg h16]
        have hb : ¬ tdBad ⟨o, x, y⟩ (d.getD i default) := fun h => by have := h.2.2; simp only at this; omega
        have hN2 := hN hb
        rw [if_neg hb] at hT
        rw [hW] at hT hN2
        exact ⟨by omega, I3.2.1.trans hT, hN2⟩
       ·
        ((try dsimp only); omega)
 ·
  (try simp only [decide_eq_true_eq, decide_eq_false_iff_not, Int.not_lt, Int.not_le] at h3)
  by_cases hck : checkD (flushD ⟨o, x, y⟩) = 0
  ·
   have hTe := tidyG_end (d := d) (i := i) (by omega) ⟨o, x, y⟩
   obtain ⟨f1, f2⟩ := I3.2.2.flush (by omega) (by omega) (by rw [List.take_of_length_le (by omega)]; omega)
   have e9 : ((tidyL d) : List DStep) = (flushD ⟨o, x, y⟩) := by
    unfold tidyL
    rw [I3.2.1, hTe, if_pos hck]
   have e10 : ((tidyE d) : Int) = 0 := by
    unfold tidyE
    rw [I3.2.1, hTe, if_pos hck]
   exact .finE [.r [(0, X (Xc3 58 [(0, 16), (1, 24), (2, 25)] (fc_dDone o x y (by omega) (by assumption) (by assumption)) X0))], .le (.fr 2 [(((flushD ⟨o, x, y⟩).length) : Nat) = (List.map dstepT (flushD ⟨o, x, y⟩)).length] ⟨lm, trivial⟩)] [] (fun (z0, z1) => (.tup [VL 4 dstepT z0, VI z1], [])) (((flushD ⟨o, x, y⟩) : List DStep), (0 : Int)) (((tidyL d) : List DStep), ((tidyE d) : Int)) (pr e9 e10)
  ·
   have hTe := tidyG_end (d := d) (i := i) (by omega) ⟨o, x, y⟩
   obtain ⟨f1, f2⟩ := I3.2.2.flush (by omega) (by omega) (by rw [List.take_of_length_le (by omega)]; omega)
   have e11 : ((tidyL d) : List DStep) = [] := by
    unfold tidyL
    rw [I3.2.1, hTe, if_neg hck]
   have e12 : ((tidyE d) : Int) = 3 := by
    unfold tidyE
    rw [I3.2.1, hTe, if_neg hck]
   exact .finE [.r [(0, X (Xc3 58 [(0, 16), (1, 24), (2, 25)] (fc_dDoneE o x y (by omega) (by assumption) (by assumption)) X0))]] [] (fun (z0, z1) => (.tup [VL 4 dstepT z0, VI z1], [])) (([] : List DStep), (3 : Int)) (((tidyL d) : List DStep), ((tidyE d) : Int)) (pr e11 e12)
end Go.Ch
end
section
set_option linter.unusedVariables false
set_option linter.unusedSimpArgs false
set_option maxRecDepth 100000
set_option maxHeartbeats 4000000
open Go Go.Proofs Go.Ab
namespace Go.Ch
end Go.Ch
end
section
set_option linter.unusedVariables false
set_option linter.unusedSimpArgs false
set_option maxRecDepth 100000
set_option maxHeartbeats 4000000
open Go Go.Proofs Go.Ab
namespace Go.Ch
end Go.Ch
end
section
set_option linter.unusedVariables false
set_option linter.unusedSimpArgs false
set_option maxRecDepth 100000
set_option maxHeartbeats 4000000
open Go Go.Proofs Go.Ab
namespace Go.Ch
end Go.Ch
end
section
set_option linter.unusedVariables false
set_option linter.unusedSimpArgs false
set_option maxRecDepth 100000
set_option maxHeartbeats 4000000
open Go Go.Proofs Go.Ab
namespace Go.Ch
end Go.Ch
end
section
set_option linter.unusedVariables false
set_option linter.unusedSimpArgs false
set_option maxRecDepth 100000
set_option maxHeartbeats 4000000
open Go Go.Proofs Go.Ab
namespace Go.Ch
theorem fc_alike (x y : Elem) : FC Try.prog 140 [.t (elemT x), .t (elemT y)] (app emp []) (VB (alikeB x y)) (app emp []) := by
 refine .go Try.f140 ?_
 have e1 : ((alikeB x y) : Bool) = ((x.char == y.char) && (x.ref == y.ref)) := by
  rfl
 exact .finE [.r [], .r [(7, Xv 1 (x.char == y.char) X0), (9, Xv 1 (x.char == y.char) X0), (10, Xv 2 (x.char == y.char) X0), (11, X (Xk (x.char == y.char)))]] [] (fun z0 => (VB z0, [])) (((x.char == y.char) && (x.ref == y.ref)) : Bool) ((alikeB x y) : Bool) e1

theorem fc_price (x y : Elem) : FC Try.prog 141 [.t (elemT x), .t (elemT y)] (app emp []) (VI (priceI x y)) (app emp []) := by
 refine .go Try.f141 ?_
 refine .br [.r [], .r [(4, X (Xc0 (fc_attrSame x.attrs y.attrs) X0))]] (sameL x.attrs y.attrs) (fun h1 => ?_) (fun h1 => ?_)
 ·
  have e1 : ((priceI x y) : Int) = 0 := by
   unfold priceI; ((repeat' split) <;> first | rfl | omega | (simp_all; done) | (simp_all; omega))
  exact .finE [.r []] [] (fun z0 => (VI z0, [])) (0 : Int) ((priceI x y) : Int) e1
 ·
  have e2 : ((priceI x y) : Int) = 1 := by
   unfold priceI; ((repeat' split) <;> first | rfl | omega | (simp_all; done) | (simp_all; omega))
  exact .finE [.r []] [] (fun z0 => (VI z0, [])) (1 : Int) ((priceI x y) : Int) e2

theorem fc_table (a b : List Elem) (ha : a.length ≤ 1000000) (hb : b.length ≤ 1000000) : FC Try.prog 139 [VL 3 elemT a, VL 3 elemT b] (app emp []) (VL 1 intsT (tabL a b)) (app emp []) := by
 refine .go Try.f139 ?_
 refine .len 0 (fun hl0 => ?_)
 refine .len 1 (fun hl1 => ?_)
 refine .loop (α := Int × (List (List Int))) [.r [], .r [(1, X (Xl elemT a)), (2, X (Xn ((a.length : Int) + 1))), (3, X (Xmm intsT 32 ((a.length : Int) + 1) ((a.length : Int) + 1) ([] : (List Int)) [TN] ⟨tw_nil (by decide), trivial⟩))], .r [(1, X (Xl elemT a))]] 72 (fun (i, L) => ([(0, VL 3 elemT a), (1, VL 3 elemT b), (5, .mat 32), (6, VI i)], [(32, .mat false (List.map intsT L) none)])) (fun (i, L) => TO a b L i) (fun (i, L) => (i + 1).toNat) ((a.length : Int), (List.replicate (a.length + 1) ([] : (List Int)))) ?_ ?_
 ·
  exact TO.start a b
 rintro ⟨i, L⟩ I3 ih3
 replace I3 : TO a b L i := I3
 obtain ⟨i1, i2⟩ := I3.bd
 have Ll := I3.len
 refine .br [.r []] (decide (i ≥ 0)) (fun h3 => ?_) (fun h3 => ?_)
 ·
  (try simp only [decide_eq_true_eq, decide_eq_false_iff_not, Int.not_lt, Int.not_le, ge_iff_le] at h3)
  refine .loop (α := Int × (List Int)) [.r [(3, X (Xl elemT b)), (4, X (Xn ((b.length : Int) + 1))), (5, X (Xmk 1 intT 128 ((b.length : Int) + 1) ((b.length : Int) + 1) 0)), (6, X (Xmi intsT L i)), (7, X (Xms intsT L (Int.toNat i)))], .r [(1, X (Xl elemT b))]] 176 (fun (k, o) => ([(0, VL 3 elemT a), (1, VL 3 elemT b), (5, .mat 32), (6, VI i), (7, VI k)], [(32, .mat false (List.map intsT L) (some ((Int.toNat i), 128, (b.length + 1)))), (128, OR 1 intT o)])) (fun (k, o) => TI a b o i k) (fun (k, o) => (k + 1).toNat) ((b.length : Int), (List.replicate (b.length + 1) 0)) ?_ ?_
  ·
   exact TI.start a b i
  rintro ⟨k, o⟩ I7 ih7
  replace I7 : TI a b o i k := I7
  obtain ⟨k1, k2⟩ := I7.bd
  have ol := I7.len
  refine .br [.r []] (decide (k ≥ 0)) (fun h7 => ?_) (fun h7 => ?_)
  ·
   (try simp only [decide_eq_true_eq, decide_eq_false_iff_not, Int.not_lt, Int.not_le, ge_iff_le] at h7)
   refine .br [.r [(2, X (Xl elemT a))]] (i == (a.length : Int)) (fun h12 => ?_) (fun h12 => ?_)
   ·
    (try simp only [beq_iff_eq, beq_eq_false_iff_ne, ne_eq] at h12)
    refine .back [.r [(2, X (Xmi intsT L i)), (3, X (Xmh intsT L (Int.toNat i) (Int.toNat i))), (6, X (Xl elemT b)), (8, X (Xn ((b.length : Int) - k))), (9, X (Xpn (b.length + 1) intT o k)), (10, X (Xsn (b.length + 1) 1 intT 128 o (Int.toNat k) ((b.length : Int) - k)))], .r [(1, X (Xn (k - 1)))]] [(32, 32), (128, 128)] (ih7 ((k - 1), (o.set (Int.toNat k) ((b.length : Int) - k))) ?_ ?_)
    ·
     exact I7.next (by omega) (by rw [tabR, if_neg (by omega)]; omega)
    ·
     ((try dsimp only); omega)
   ·
    (try simp only [beq_iff_eq, beq_eq_false_iff_ne, ne_eq] at h12)
    refine .br [.r [(2, X (Xl elemT b))]] (k == (b.length : Int)) (fun h14 => ?_) (fun h14 => ?_)
    ·
     (try simp only [beq_iff_eq, beq_eq_false_iff_ne, ne_eq] at h14)
     refine .back [.r [(2, X (Xmi intsT L i)), (3, X (Xmh intsT L (Int.toNat i) (Int.toNat i))), (6, X (Xl elemT a)), (8, X (Xn ((a.length : Int) - i))), (9, X (Xpn (b.length + 1) intT o k)), (10, X (Xsn (b.length + 1) 1 intT 128 o (Int.toNat k) ((a.length : Int) - i)))], .r [(1, X (Xn (k - 1)))]] [(32, 32), (128, 128)] (ih7 ((k - 1), (o.set (Int.toNat k) ((a.length : Int) - i))) ?_ ?_)
     ·
      exact I7.next (by omega) (by rw [tabR, if_pos (by omega), if_neg (by omega)]; omega)
     ·
      ((try dsimp only); omega)
    ·
     (try simp only [beq_iff_eq, beq_eq_false_iff_ne, ne_eq] at h14)
     have hA := I3.below (by omega) (by omega)
     have hlA : (L.getD (Int.toNat (i + 1)) default).length = b.length + 1 := by rw [hA, rowT_len]
     have qA : ((L.getD (Int.toNat (i + 1)) default).getD (Int.toNat k) default) = tabR a b (i.toNat + 1) k.toNat := by rw [hA, rowT_at (by omega)]
     have qB := I7.right (by omega) (by omega)
     have qC : ((L.getD (Int.toNat (i + 1)) default).getD (Int.toNat (k + 1)) default) = tabR a b (i.toNat + 1) (k.toNat + 1) := by rw [hA, show Int.toNat (k + 1) = k.toNat + 1 by omega, rowT_at (by omega)]
     have dA := tab_bd' (a := a) (b := b) (i := i.toNat + 1) (k := k.toNat) (by omega) (by omega)
     have dB := tab_bd' (a := a) (b := b) (i := i.toNat) (k := k.toNat + 1) (by omega) (by omega)
     have dC := tab_bd' (a := a) (b := b) (i := i.toNat + 1) (k := k.toNat + 1) (by omega) (by omega)
     have dP := price_bd (a.getD i.toNat default) (b.getD k.toNat default)
     refine .br [.r [(2, X (Xmi intsT L i)), (3, X (Xmh intsT L (Int.toNat i) (Int.toNat i))), (7, X (Xn (i + 1))), (8, X (Xmi intsT L (i + 1))), (9, X (Xml' intsT L (Int.toNat (i + 1)) (Int.toNat i) 128 (b.length + 1))), (11, X (Xi intT (L.getD (Int.toNat (i + 1)) default) k)), (15, X (Xmi intsT L i)), (16, X (Xmh intsT L (Int.toNat i) (Int.toNat i))), (18, X (Xn (k + 1))), (19, X (Xpn (b.length + 1) intT o (k + 1))), (20, X (Xen (b.length + 1) intT o (Int.toNat (k + 1)))), (21, X (Xmin ((L.getD (Int.toNat (i + 1)) default).getD (Int.toNat k) default) (o.getD (Int.toNat (k + 1)) default))), (22, X (Xn (1 + (min ((L.getD (Int.toNat (i + 1)) default).getD (Int.toNat k) default) (o.getD (Int.toNat (k + 1)) default))))), (23, X (Xpn (b.length + 1) intT o k)), (24, X (Xsn (b.length + 1) 1 intT 128 o (Int.toNat k) (1 + (min ((L.getD (Int.toNat (i + 1)) default).getD (Int.toNat k) default) (o.getD (Int.toNat (k + 1)) default)))))], .r [(2, X (Xi elemT a i)), (6, X (Xi elemT b k)), (8, X (Xc0 (fc_alike ((a.getD (Int.toNat i) default)) ((b.getD (Int.toNat k) default))) X0))]] (alikeB ((a.getD (Int.toNat i) default)) ((b.getD (Int.toNat k) default))) (fun h10 => ?_) (fun h10 => ?_)
     ·
      have hS : ((o.set (Int.toNat k) (1 + (min ((L.getD (Int.toNat (i + 1)) default).getD (Int.toNat k) default) (o.getD (Int.toNat (k + 1)) default)))).getD (Int.toNat k) default) = (1 + (min ((L.getD (Int.toNat (i + 1)) default).getD (Int.toNat k) default) (o.getD (Int.toNat (k + 1)) default))) := getD_set_eq (by omega)
      refine .back [.r [(2, X (Xmi intsT L i)), (3, X (Xmh intsT L (Int.toNat i) (Int.toNat i))), (7, X (Xmi intsT L i)), (8, X (Xmh intsT L (Int.toNat i) (Int.toNat i))), (10, X (Xpn (b.length + 1) intT (o.set (Int.toNat k) (1 + (min ((L.getD (Int.toNat (i + 1)) default).getD (Int.toNat k) default) (o.getD (Int.toNat (k + 1)) default)))) k)), (11, X (Xen (b.length + 1) intT (o.set (Int.toNat k) (1 + (min ((L.getD (Int.toNat (i + 1)) default).getD (Int.toNat k) default) (o.getD (Int.toNat (k + 1)) default)))) (Int.toNat k))), (14, X (Xn (i + 1))), (15, X (Xmi intsT L (i + 1))), (16, X (Xml' intsT L (Int.toNat (i + 1)) (Int.toNat i) 128 (b.length + 1))), (18, X (Xn (k + 1))), (19, X (Xi intT (L.getD (Int.toNat (i + 1)) default) (k + 1))), (23, X (Xi elemT a i)), (27, X (Xi elemT b k)), (29, X (Xc0 (fc_price ((a.getD (Int.toNat i) default)) ((b.getD (Int.toNat k) default))) X0)), (30, X (Xn (((L.getD (Int.toNat (i + 1)) default).getD (Int.toNat (k + 1)) default) + (priceI ((a.getD (Int.toNat i) default)) ((b.getD (Int.toNat k) default)))))), (31, X (Xmin ((o.set (Int.toNat k) (1 + (min ((L.getD (Int.toNat (i + 1)) default).getD (Int.toNat k) default) (o.getD (Int.toNat (k + 1)) default)))).getD (Int.toNat k) default) (((L.getD (Int.toNat (i + 1)) default).getD (Int.toNat (k + 1)) default) + (priceI ((a.getD (Int.toNat i) default)) ((b.getD (Int.toNat k) default)))))), (32, X (Xpn (b.length + 1) intT (o.set (Int.toNat k) (1 + (min ((L.getD (Int.toNat (i + 1)) default).getD (Int.toNat k) default) (o.getD (Int.toNat (k + 1)) default)))) k)), (33, X (Xsn (b.length + 1) 1 intT 128 (o.set (Int.toNat k) (1 + (min ((L.getD (Int.toNat (i + 1)) default).getD (Int.toNat k) default) (o.getD (Int.toNat (k + 1)) default)))) (Int.toNat k) (min ((o.set (Int.toNat k) (1 + (min ((L.getD (Int.toNat (i + 1)) default).getD (Int.toNat k) default) (o.getD (Int.toNat (k + 1)) default)))).getD (Int.toNat k) default) (((L.getD (Int.toNat (i + 1)) default).getD (Int.toNat (k + 1)) default) + (priceI ((a.getD (Int.toNat i) default)) ((b.getD (Int.toNat k) default)))))))], .r [(1, X (Xn (k - 1)))]] [(32, 32), (128, 128)] (ih7 ((k - 1), ((o.set (Int.toNat k) (1 + (min ((L.getD (Int.toNat (i + 1)) default).getD (Int.toNat k) default) (o.getD (Int.toNat (k + 1)) default)))).set (Int.toNat k) (min ((o.set (Int.toNat k) (1 + (min ((L.getD (Int.toNat (i + 1)) default).getD (Int.toNat k) default) (o.getD (Int.toNat (k + 1)) default)))).getD (Int.toNat k) default) (((L.getD (Int.toNat (i + 1)) default).getD (Int.toNat (k + 1)) default) + (priceI ((a.getD (Int.toNat i) default)) ((b.getD (Int.toNat k) default))))))) ?_ ?_)
      ·
       rw [List.set_set]
       refine I7.next (by omega) ?_
       rw [hS, qA, qB, qC]
       conv => rhs; rw [tabR]
       rw [if_pos (by omega), if_pos (by omega), if_pos h10]
      ·
       ((try dsimp only); omega)
     ·
      refine .back [.r [(1, X (Xn (k - 1)))]] [(32, 32), (128, 128)] (ih7 ((k - 1), (o.set (Int.toNat k) (1 + (min ((L.getD (Int.toNat (i + 1)) default).getD (Int.toNat k) default) (o.getD (Int.toNat (k + 1)) default))))) ?_ ?_)
      ·
       refine I7.next (by omega) ?_
       rw [qA, qB]
       conv => rhs; rw [tabR]
       rw [if_pos (by omega), if_pos (by omega), if_neg (by rw [h10]; decide)]
      ·
       ((try dsimp only); omega)
  ·
   (try simp only [decide_eq_true_eq, decide_eq_false_iff_not, Int.not_lt, Int.not_le, ge_iff_le] at h7)
   refine .back [.le (.mc 32 (List.map intsT (L.set (Int.toNat i) o)) _ (mc_ok (f := intsT) (g := intT) (l := L) (x := o) (o := o) (q := (b.length + 1)) (i := (Int.toNat i)) (k := 1) (by first | rfl | omega) rfl)), .r [(1, X (Xn (i - 1)))]] [(32, 32)] (ih3 ((i - 1), (L.set (Int.toNat i) o)) ?_ ?_)
   ·
    exact I3.next (by omega) I7 (by omega)
   ·
    ((try dsimp only); omega)
 ·
  (try simp only [decide_eq_true_eq, decide_eq_false_iff_not, Int.not_lt, Int.not_le, ge_iff_le] at h3)
  have hL := I3.done (by omega)
  have e1 : ((tabL a b) : List (List Int)) = L := by
   rw [hL]
  exact .finE [.r [], .le (.mf 4)] [] (fun z0 => (VL 1 intsT z0, [])) (L : List (List Int)) ((tabL a b) : List (List Int)) e1
end Go.Ch
end
section
set_option linter.unusedVariables false
set_option linter.unusedSimpArgs false
set_option maxRecDepth 100000
set_option maxHeartbeats 4000000
open Go Go.Proofs Go.Ab
namespace Go.Ch
theorem fc_diffRaw (a b : List Elem) (pa : partE a 0 = 0) (pb : partE b 0 = 0) (na : AN 1000000000 a) (nb : AN 1000000000 b) (la : a.length ≤ 2000) (lb : b.length ≤ 2000) : FC Try.prog 116 [VL 3 elemT a, VL 3 elemT b] (app emp []) (VL 4 dstepT (doneD (diffU a b))) (app emp []) := by
 refine .go Try.f116 ?_
 refine .len 0 (fun hl0 => ?_)
 refine .len 1 (fun hl1 => ?_)
 obtain ⟨t1, t2, t3, t4, t5, _⟩ := diff_law pa pb na nb la lb
 refine .br [.r [], .r [(1, X (Xl elemT a)), (5, Xv 1 (decide ((a.length : Int) > 0)) (Xl elemT b)), (6, Xv 1 (decide ((a.length : Int) > 0)) X0), (7, X (Xk (decide ((a.length : Int) > 0)))), (11, Xv 1 (decide ((a.length : Int) > 0) && decide ((b.length : Int) > 0)) (Xl elemT a)), (12, Xv 1 (decide ((a.length : Int) > 0) && decide ((b.length : Int) > 0)) (Xn ((a.length : Int) - 1))), (13, Xv 2 (decide ((a.length : Int) > 0) && decide ((b.length : Int) > 0)) (Xi' elemT a ((a.length : Int) - 1) (a.length - 1)) (fun hg => by (try simp only [decide_eq_true_eq, decide_eq_false_iff_not, Int.not_lt, Int.not_le, gt_iff_lt, Bool.and_eq_true, Bool.and_eq_false_iff, Bool.not_eq_true', Bool.not_eq_false'] at hg); exact ⟨(by omega), (by omega)⟩)), (14, Xv 1 (decide ((a.length : Int) > 0) && decide ((b.length : Int) > 0)) X0), (15, Xv 1 (decide ((a.length : Int) > 0) && decide ((b.length : Int) > 0)) X0), (16, Xv 1 (decide ((a.length : Int) > 0) && decide ((b.length : Int) > 0)) X0), (17, X (Xk (decide ((a.length : Int) > 0) && decide ((b.length : Int) > 0)))), (21, Xv 1 ((decide ((a.length : Int) > 0) && decide ((b.length : Int) > 0)) && ((((a.getD (a.length - 1) default)).char) == 10)) (Xl elemT b)), (22, Xv 1 ((decide ((a.length : Int) > 0) && decide ((b.length : Int) > 0)) && ((((a.getD (a.length - 1) default)).char) == 10)) (Xn ((b.length : Int) - 1))), (23, Xv 2 ((decide ((a.length : Int) > 0) && decide ((b.length : Int) > 0)) && ((((a.getD (a.length - 1) default)).char) == 10)) (Xi' elemT b ((b.length : Int) - 1) (b.length - 1)) (fun hg => by (try simp only [decide_eq_true_eq, decide_eq_false_iff_not, Int.not_lt, Int.not_le, gt_iff_lt, Bool.and_eq_true, Bool.and_eq_false_iff, Bool.not_eq_true', Bool.not_eq_false', beq_iff_eq, beq_eq_false_iff_ne, ne_eq] at hg); exact ⟨(by omega), (by omega)⟩)), (24, Xv 1 ((decide ((a.length : Int) > 0) && decide ((b.length : Int) > 0)) && ((((a.getD (a.length - 1) default)).char) == 10)) X0), (25, Xv 1 ((decide ((a.length : Int) > 0) && decide ((b.length : Int) > 0)) && ((((a.getD (a.length - 1) default)).char) == 10)) X0), (26, Xv 1 ((decide ((a.length : Int) > 0) && decide ((b.length : Int) > 0)) && ((((a.getD (a.length - 1) default)).char) == 10)) X0), (27, X (Xk ((decide ((a.length : Int) > 0) && decide ((b.length : Int) > 0)) && ((((a.getD (a.length - 1) default)).char) == 10))))], .r [], .r []] (((decide ((a.length : Int) > 0) && decide ((b.length : Int) > 0)) && ((((a.getD (a.length - 1) default)).char) == 10)) && ((((b.getD (b.length - 1) default)).char) == 10)) (fun h3 => ?_) (fun h3 => ?_)
 ·
  (try simp only [decide_eq_true_eq, decide_eq_false_iff_not, Int.not_lt, Int.not_le, gt_iff_lt, Bool.and_eq_true, Bool.and_eq_false_iff, Bool.not_eq_true', Bool.not_eq_false', beq_iff_eq, beq_eq_false_iff_ne, ne_eq] at h3)
  have na1 := na _ (getD_mem' (l := a) (k := a.length - 1) (by omega))
  have nb1 := nb _ (getD_mem' (l := b) (k := b.length - 1) (by omega))
  have il := ini_len (a := a)
  have jl := ini_len (a := b)
  have hD : diffU a b = (if TiedP a b then pathU (ini a) (ini b) 0 0 ++ [.K (chgU (lst a) (lst b))] else pathU a b 0 0) := rfl
  first
  | rw [if_pos ⟨⟨⟨by omega, by omega⟩, h3.1.2⟩, h3.2⟩] at hD
  | rw [if_neg (by rintro ⟨⟨⟨q1, q2⟩, q3⟩, q4⟩; rcases h3 with ((h | h) | h) | h; (omega); (omega); (exact h q3); (exact h q4))] at hD
  have lT := tabL_len (ini a) (ini b)
  refine .loop (α := Nat × Nat × (List DStep)) [.r [(2, X (Xl elemT a)), (3, X (Xn ((a.length : Int) - 1))), (4, X (Xi' elemT a ((a.length : Int) - 1) (a.length - 1))), (8, X (Xl elemT b)), (9, X (Xn ((b.length : Int) - 1))), (10, X (Xi' elemT b ((b.length : Int) - 1) (b.length - 1)))], .r [(4, X (Xc1 416 (fc_change (((a.getD (a.length - 1) default)).attrs) (((b.getD (b.length - 1) default)).attrs) (by omega)) X0)), (5, X (Xf [(3, 3)]))], .r [(2, X (Xl elemT a)), (3, X (Xn ((a.length : Int) - 1))), (4, X (Xst elemT 3 a ((a.length : Int) - 1))), (7, X (Xl elemT b)), (8, X (Xn ((b.length : Int) - 1))), (9, X (Xst elemT 3 b ((b.length : Int) - 1)))], .le (.eq 0 (VL 3 elemT (a.take (Int.toNat ((a.length : Int) - 1)))) (VL 3 elemT (ini a)) (.of_eq (by unfold ini; rw [show Int.toNat ((a.length : Int) - 1) = a.length - 1 by omega]))), .le (.eq 1 (VL 3 elemT (b.take (Int.toNat ((b.length : Int) - 1)))) (VL 3 elemT (ini b)) (.of_eq (by unfold ini; rw [show Int.toNat ((b.length : Int) - 1) = b.length - 1 by omega]))), .r [(2, X (Xc1 560 (fc_table (ini a) (ini b) (by omega) (by omega)) X0))], .r [], .r [], .le (.nR 10 4)] 601 (fun (i, k, o) => ([(0, VL 3 elemT (ini a)), (1, VL 3 elemT (ini b)), (6, .row 432 1), (9, VL 1 intsT (tabL (ini a) (ini b))), (10, .row 600 o.length), (11, VI (i : Int)), (12, VI (k : Int))], [(432, OR 4 dstepT [({ kind := 0, n := 1, attrs := (fm chgG (((a.getD (a.length - 1) default)).attrs) (((b.getD (b.length - 1) default)).attrs)), elems := [] } : DStep)]), (600, OR 4 dstepT o)])) (fun (i, k, o) => (i ≤ ((ini a)).length ∧ k ≤ ((ini b)).length) ∧ o ++ (pathU (ini a) (ini b) i k).map stepU = (pathU (ini a) (ini b) 0 0).map stepU ∧ o.length ≤ i + k) (fun (i, k, o) => (((ini a)).length - i) + (((ini b)).length - k)) (0, 0, []) ?_ ?_
  ·
   exact ⟨⟨by omega, by omega⟩, rfl, by simp⟩
  rintro ⟨i, k, o⟩ I10 ih10
  try dsimp only at I10
  refine .br [.r [(2, X (Xl elemT (ini a))), (7, Xv 1 (!(decide ((i : Int) < ((ini a).length : Int)))) (Xl elemT (ini b))), (8, Xv 2 (!(decide ((i : Int) < ((ini a).length : Int)))) X0), (9, X (Xk' (decide ((i : Int) < ((ini a).length : Int)))))]] (decide ((i : Int) < ((ini a).length : Int)) || decide ((k : Int) < ((ini b).length : Int))) (fun h10 => ?_) (fun h10 => ?_)
  ·
   (try simp only [decide_eq_true_eq, decide_eq_false_iff_not, Int.not_lt, Int.not_le, Bool.or_eq_true, Bool.or_eq_false_iff] at h10)
   have r0 := row_len (a := (ini a)) (b := (ini b)) (i := i) I10.1.1
   have r1 := fun h : i + 1 ≤ ((ini a)).length => row_len (a := (ini a)) (b := (ini b)) (i := i + 1) h
   have v0 := tab_at (a := (ini a)) (b := (ini b)) (i := i) (k := k) I10.1.1 I10.1.2
   have v1 := fun (h : i + 1 ≤ ((ini a)).length) (g : k + 1 ≤ ((ini b)).length) => tab_at (a := (ini a)) (b := (ini b)) (i := i + 1) (k := k + 1) h g
   have v2 := fun h : i + 1 ≤ ((ini a)).length => tab_at (a := (ini a)) (b := (ini b)) (i := i + 1) (k := k) h I10.1.2
   have d1 := fun (h : i + 1 ≤ ((ini a)).length) (g : k + 1 ≤ ((ini b)).length) => tab_bd' (a := (ini a)) (b := (ini b)) (i := i + 1) (k := k + 1) h g
   have d2 := fun h : i + 1 ≤ ((ini a)).length => tab_bd' (a := (ini a)) (b := (ini b)) (i := i + 1) (k := k) h I10.1.2
   have dP := price_bd (((ini a)).getD i default) (((ini b)).getD k default)
   refine .br [.r [(2, X (Xl elemT (ini a))), (7, Xv 1 (decide ((i : Int) < ((ini a).length : Int))) (Xl elemT (ini b))), (8, Xv 2 (decide ((i : Int) < ((ini a).length : Int))) X0), (9, X (Xk (decide ((i : Int) < ((ini a).length : Int))))), (13, Xv 2 (decide ((i : Int) < ((ini a).length : Int)) && decide ((k : Int) < ((ini b).length : Int))) (Xi elemT (ini a) (i : Int)) (fun hg => by (try simp only [decide_eq_true_eq, decide_eq_false_iff_not, Int.not_lt, Int.not_le, Bool.and_eq_true, Bool.and_eq_false_iff, Bool.not_eq_true', Bool.not_eq_false'] at hg); exact ⟨(by omega), (by omega)⟩)), (14, Xv 1 (decide ((i : Int) < ((ini a).length : Int)) && decide ((k : Int) < ((ini b).length : Int))) X0), (17, Xv 2 (decide ((i : Int) < ((ini a).length : Int)) && decide ((k : Int) < ((ini b).length : Int))) (Xi elemT (ini b) (k : Int)) (fun hg => by (try simp only [decide_eq_true_eq, decide_eq_false_iff_not, Int.not_lt, Int.not_le, Bool.and_eq_true, Bool.and_eq_false_iff, Bool.not_eq_true', Bool.not_eq_false'] at hg); exact ⟨(by omega), (by omega)⟩)), (18, Xv 1 (decide ((i : Int) < ((ini a).length : Int)) && decide ((k : Int) < ((ini b).length : Int))) X0), (19, Xv 2 (decide ((i : Int) < ((ini a).length : Int)) && decide ((k : Int) < ((ini b).length : Int))) (Xc0 (fc_alike (((ini a).getD i default)) (((ini b).getD k default))) X0)), (20, X (Xk (decide ((i : Int) < ((ini a).length : Int)) && decide ((k : Int) < ((ini b).length : Int))))), (24, Xv 2 ((decide ((i : Int) < ((ini a).length : Int)) && decide ((k : Int) < ((ini b).length : Int))) && (alikeB (((ini a).getD i default)) (((ini b).getD k default)))) (Xi intsT (tabL (ini a) (ini b)) (i : Int)) (fun hg => by (try simp only [decide_eq_true_eq, decide_eq_false_iff_not, Int.not_lt, Int.not_le, Bool.and_eq_true, Bool.and_eq_false_iff, Bool.not_eq_true', Bool.not_eq_false'] at hg); exact ⟨(by omega), (by omega)⟩)), (25, Xv 1 ((decide ((i : Int) < ((ini a).length : Int)) && decide ((k : Int) < ((ini b).length : Int))) && (alikeB (((ini a).getD i default)) (((ini b).getD k default)))) X0), (27, Xv 2 ((decide ((i : Int) < ((ini a).length : Int)) && decide ((k : Int) < ((ini b).length : Int))) && (alikeB (((ini a).getD i default)) (((ini b).getD k default)))) (Xi intT ((tabL (ini a) (ini b)).getD i default) (k : Int)) (fun hg => by (try simp only [decide_eq_true_eq, decide_eq_false_iff_not, Int.not_lt, Int.not_le, Bool.and_eq_true, Bool.and_eq_false_iff, Bool.not_eq_true', Bool.not_eq_false'] at hg); exact ⟨(by omega), (by omega)⟩)), (28, Xv 1 ((decide ((i : Int) < ((ini a).length : Int)) && decide ((k : Int) < ((ini b).length : Int))) && (alikeB (((ini a).getD i default)) (((ini b).getD k default)))) X0), (31, Xv 1 ((decide ((i : Int) < ((ini a).length : Int)) && decide ((k : Int) < ((ini b).length : Int))) && (alikeB (((ini a).getD i default)) (((ini b).getD k default)))) (Xn ((i : Int) + 1))), (32, Xv 2 ((decide ((i : Int) < ((ini a).length : Int)) && decide ((k : Int) < ((ini b).length : Int))) && (alikeB (((ini a).getD i default)) (((ini b).getD k default)))) (Xi intsT (tabL (ini a) (ini b)) ((i : Int) + 1)) (fun hg => by (try simp only [decide_eq_true_eq, decide_eq_false_iff_not, Int.not_lt, Int.not_le, Bool.and_eq_true, Bool.and_eq_false_iff, Bool.not_eq_true', Bool.not_eq_false'] at hg); exact ⟨(by omega), (by omega)⟩)), (33, Xv 1 ((decide ((i : Int) < ((ini a).length : Int)) && decide ((k : Int) < ((ini b).length : Int))) && (alikeB (((ini a).getD i default)) (((ini b).getD k default)))) X0), (35, Xv 1 ((decide ((i : Int) < ((ini a).length : Int)) && decide ((k : Int) < ((ini b).length : Int))) && (alikeB (((ini a).getD i default)) (((ini b).getD k default)))) (Xn ((k : Int) + 1))), (36, Xv 2 ((decide ((i : Int) < ((ini a).length : Int)) && decide ((k : Int) < ((ini b).length : Int))) && (alikeB (((ini a).getD i default)) (((ini b).getD k default)))) (Xi intT ((tabL (ini a) (ini b)).getD (i + 1) default) ((k : Int) + 1)) (fun hg => by (try simp only [decide_eq_true_eq, decide_eq_false_iff_not, Int.not_lt, Int.not_le, Bool.and_eq_true, Bool.and_eq_false_iff, Bool.not_eq_true', Bool.not_eq_false'] at hg); exact ⟨(by omega), (by omega)⟩)), (37, Xv 1 ((decide ((i : Int) < ((ini a).length : Int)) && decide ((k : Int) < ((ini b).length : Int))) && (alikeB (((ini a).getD i default)) (((ini b).getD k default)))) X0), (40, Xv 2 ((decide ((i : Int) < ((ini a).length : Int)) && decide ((k : Int) < ((ini b).length : Int))) && (alikeB (((ini a).getD i default)) (((ini b).getD k default)))) (Xi elemT (ini a) (i : Int)) (fun hg => by (try simp only [decide_eq_true_eq, decide_eq_false_iff_not, Int.not_lt, Int.not_le, Bool.and_eq_true, Bool.and_eq_false_iff, Bool.not_eq_true', Bool.not_eq_false'] at hg); exact ⟨(by omega), (by omega)⟩)), (41, Xv 1 ((decide ((i : Int) < ((ini a).length : Int)) && decide ((k : Int) < ((ini b).length : Int))) && (alikeB (((ini a).getD i default)) (((ini b).getD k default)))) X0), (44, Xv 2 ((decide ((i : Int) < ((ini a).length : Int)) && decide ((k : Int) < ((ini b).length : Int))) && (alikeB (((ini a).getD i default)) (((ini b).getD k default)))) (Xi elemT (ini b) (k : Int)) (fun hg => by (try simp only [decide_eq_true_eq, decide_eq_false_iff_not, Int.not_lt, Int.not_le, Bool.and_eq_true, Bool.and_eq_false_iff, Bool.not_eq_true', Bool.not_eq_false'] at hg); exact ⟨(by omega), (by omega)⟩)), (45, Xv 1 ((decide ((i : Int) < ((ini a).length : Int)) && decide ((k : Int) < ((ini b).length : Int))) && (alikeB (((ini a).getD i default)) (((ini b).getD k default)))) X0), (46, Xv 2 ((decide ((i : Int) < ((ini a).length : Int)) && decide ((k : Int) < ((ini b).length : Int))) && (alikeB (((ini a).getD i default)) (((ini b).getD k default)))) (Xc0 (fc_price (((ini a).getD i default)) (((ini b).getD k default))) X0)), (47, Xv 2 ((decide ((i : Int) < ((ini a).length : Int)) && decide ((k : Int) < ((ini b).length : Int))) && (alikeB (((ini a).getD i default)) (((ini b).getD k default)))) (Xn ((((tabL (ini a) (ini b)).getD (i + 1) default).getD (k + 1) default) + (priceI (((ini a).getD i default)) (((ini b).getD k default))))) (fun hg => by (try simp only [decide_eq_true_eq, decide_eq_false_iff_not, Int.not_lt, Int.not_le, Bool.and_eq_true, Bool.and_eq_false_iff, Bool.not_eq_true', Bool.not_eq_false'] at hg); exact (by omega))), (48, Xv 2 ((decide ((i : Int) < ((ini a).length : Int)) && decide ((k : Int) < ((ini b).length : Int))) && (alikeB (((ini a).getD i default)) (((ini b).getD k default)))) X0), (49, X (Xk ((decide ((i : Int) < ((ini a).length : Int)) && decide ((k : Int) < ((ini b).length : Int))) && (alikeB (((ini a).getD i default)) (((ini b).getD k default))))))]] (((decide ((i : Int) < ((ini a).length : Int)) && decide ((k : Int) < ((ini b).length : Int))) && (alikeB (((ini a).getD i default)) (((ini b).getD k default)))) && ((((tabL (ini a) (ini b)).getD i default).getD k default) == ((((tabL (ini a) (ini b)).getD (i + 1) default).getD (k + 1) default) + (priceI (((ini a).getD i default)) (((ini b).getD k default)))))) (fun h13 => ?_) (fun h13 => ?_)
   ·
    (try simp only [decide_eq_true_eq, decide_eq_false_iff_not, Int.not_lt, Int.not_le, Bool.and_eq_true, Bool.and_eq_false_iff, Bool.not_eq_true', Bool.not_eq_false', beq_iff_eq, beq_eq_false_iff_ne, ne_eq] at h13)
    have hK : KeepP (ini a) (ini b) i k := ⟨⟨by omega, by omega⟩, h13.1.2, by rw [← v0, ← v1 (by omega) (by omega)]; exact h13.2⟩
    have hP := I10.2.1
    rw [path_keep hK, List.map_cons] at hP
    have na2 : (((ini a)).getD i default).attrs.length ≤ 1000000000 := by first | exact na _ (getD_mem' (by omega)) | exact na _ (ini_mem (getD_mem' (by omega)))
    have nb2 : (((ini b)).getD k default).attrs.length ≤ 1000000000 := by first | exact nb _ (getD_mem' (by omega)) | exact nb _ (ini_mem (getD_mem' (by omega)))
    refine .back [.r [(3, X (Xi elemT (ini a) (i : Int))), (8, X (Xi elemT (ini b) (k : Int))), (11, X (Xc1 1177 (fc_change ((((ini a).getD i default)).attrs) ((((ini b).getD k default)).attrs) (by omega)) X0)), (12, X (Xf [(3, 3)])), (14, X (rowC dstepT [({ kind := 0, n := 1, attrs := (fm chgG ((((ini a).getD i default)).attrs) ((((ini b).getD k default)).attrs)), elems := [] } : DStep)] (Xap 4 dstepT 600 o [({ kind := 0, n := 1, attrs := (fm chgG ((((ini a).getD i default)).attrs) ((((ini b).getD k default)).attrs)), elems := [] } : DStep)])))], .r [(1, X (Xn ((i : Int) + 1))), (3, X (Xn ((k : Int) + 1)))]] [(432, 432), (600, 600)] (ih10 ((i + 1), (k + 1), (o ++ [({ kind := 0, n := 1, attrs := (fm chgG ((((ini a).getD i default)).attrs) ((((ini b).getD k default)).attrs)), elems := [] } : DStep)])) ?_ ?_)
    ·
     refine ⟨⟨by omega, by omega⟩, ?_, by simp only [List.length_append, List.length_cons, List.length_nil]; omega⟩
     rw [List.append_assoc]; exact hP
    ·
     (try dsimp only); omega
   ·
    (try simp only [decide_eq_true_eq, decide_eq_false_iff_not, Int.not_lt, Int.not_le, Bool.and_eq_true, Bool.and_eq_false_iff, Bool.not_eq_true', Bool.not_eq_false', beq_iff_eq, beq_eq_false_iff_ne, ne_eq] at h13)
    have hK : ¬ KeepP (ini a) (ini b) i k := fun q => by
      rcases h13 with ((h | h) | h) | h
      · have := q.1; omega
      · have := q.1; omega
      · exact absurd (q.2.1.symm.trans h) (by decide)
      · exact h (by rw [v0, v1 q.1.1 q.1.2]; exact q.2.2)
    refine .br [.r [(2, X (Xl elemT (ini a))), (7, Xv 1 (decide ((i : Int) < ((ini a).length : Int))) (Xl elemT (ini b))), (8, Xv 2 (decide ((i : Int) < ((ini a).length : Int))) X0), (9, Xv 1 (decide ((i : Int) < ((ini a).length : Int))) X0), (12, Xv 2 ((decide ((i : Int) < ((ini a).length : Int))) && !((k : Int) == ((ini b).length : Int))) (Xi intsT (tabL (ini a) (ini b)) (i : Int)) (fun hg => by (try simp only [decide_eq_true_eq, decide_eq_false_iff_not, Int.not_lt, Int.not_le, Bool.not_eq_true', Bool.not_eq_false', Bool.and_eq_true, Bool.and_eq_false_iff, beq_iff_eq, beq_eq_false_iff_ne, ne_eq] at hg); exact ⟨(by omega), (by omega)⟩)), (13, Xv 1 ((decide ((i : Int) < ((ini a).length : Int))) && !((k : Int) == ((ini b).length : Int))) X0), (15, Xv 2 ((decide ((i : Int) < ((ini a).length : Int))) && !((k : Int) == ((ini b).length : Int))) (Xi intT ((tabL (ini a) (ini b)).getD i default) (k : Int)) (fun hg => by (try simp only [decide_eq_true_eq, decide_eq_false_iff_not, Int.not_lt, Int.not_le, Bool.not_eq_true', Bool.not_eq_false', Bool.and_eq_true, Bool.and_eq_false_iff, beq_iff_eq, beq_eq_false_iff_ne, ne_eq] at hg); exact ⟨(by omega), (by omega)⟩)), (16, Xv 1 ((decide ((i : Int) < ((ini a).length : Int))) && !((k : Int) == ((ini b).length : Int))) X0), (19, Xv 1 ((decide ((i : Int) < ((ini a).length : Int))) && !((k : Int) == ((ini b).length : Int))) (Xn ((i : Int) + 1))), (20, Xv 2 ((decide ((i : Int) < ((ini a).length : Int))) && !((k : Int) == ((ini b).length : Int))) (Xi intsT (tabL (ini a) (ini b)) ((i : Int) + 1)) (fun hg => by (try simp only [decide_eq_true_eq, decide_eq_false_iff_not, Int.not_lt, Int.not_le, Bool.not_eq_true', Bool.not_eq_false', Bool.and_eq_true, Bool.and_eq_false_iff, beq_iff_eq, beq_eq_false_iff_ne, ne_eq] at hg); exact ⟨(by omega), (by omega)⟩)), (21, Xv 1 ((decide ((i : Int) < ((ini a).length : Int))) && !((k : Int) == ((ini b).length : Int))) X0), (23, Xv 2 ((decide ((i : Int) < ((ini a).length : Int))) && !((k : Int) == ((ini b).length : Int))) (Xi intT ((tabL (ini a) (ini b)).getD (i + 1) default) (k : Int)) (fun hg => by (try simp only [decide_eq_true_eq, decide_eq_false_iff_not, Int.not_lt, Int.not_le, Bool.not_eq_true', Bool.not_eq_false', Bool.and_eq_true, Bool.and_eq_false_iff, beq_iff_eq, beq_eq_false_iff_ne, ne_eq] at hg); exact ⟨(by omega), (by omega)⟩)), (24, Xv 1 ((decide ((i : Int) < ((ini a).length : Int))) && !((k : Int) == ((ini b).length : Int))) X0), (25, Xv 1 ((decide ((i : Int) < ((ini a).length : Int))) && !((k : Int) == ((ini b).length : Int))) (Xn (1 + (((tabL (ini a) (ini b)).getD (i + 1) default).getD k default))) (fun hg => by (try simp only [decide_eq_true_eq, decide_eq_false_iff_not, Int.not_lt, Int.not_le, Bool.not_eq_true', Bool.not_eq_false', Bool.and_eq_true, Bool.and_eq_false_iff, beq_iff_eq, beq_eq_false_iff_ne, ne_eq] at hg); exact (by omega))), (26, Xv 2 ((decide ((i : Int) < ((ini a).length : Int))) && !((k : Int) == ((ini b).length : Int))) X0), (27, Xko (decide ((i : Int) < ((ini a).length : Int))) ((k : Int) == ((ini b).length : Int))), (28, X (Xk (decide ((i : Int) < ((ini a).length : Int)))))]] (decide ((i : Int) < ((ini a).length : Int)) && (((k : Int) == ((ini b).length : Int)) || ((((tabL (ini a) (ini b)).getD i default).getD k default) == (1 + (((tabL (ini a) (ini b)).getD (i + 1) default).getD k default))))) (fun h16 => ?_) (fun h16 => ?_)
    ·
     (try simp only [decide_eq_true_eq, decide_eq_false_iff_not, Int.not_lt, Int.not_le, Bool.and_eq_true, Bool.and_eq_false_iff, Bool.not_eq_true', Bool.not_eq_false', Bool.or_eq_true, Bool.or_eq_false_iff, beq_iff_eq, beq_eq_false_iff_ne, ne_eq] at h16)
     have hC : CutP (ini a) (ini b) i k := ⟨by omega, by
       rcases h16.2 with h | h
       · exact .inl (by omega)
       · exact .inr (by rw [← v0, ← v2 (by omega)]; exact h)⟩
     have hP := I10.2.1
     rw [path_cut hK hC, List.map_cons] at hP
     refine .back [.r [(1, X (Xf [(2, 2), (3, 3)])), (3, X (rowC dstepT [({ kind := 2, n := 1, attrs := [], elems := [] } : DStep)] (Xap 4 dstepT 600 o [({ kind := 2, n := 1, attrs := [], elems := [] } : DStep)])))], .r [(1, X (Xn ((i : Int) + 1)))]] [(432, 432), (600, 600)] (ih10 ((i + 1), k, (o ++ [({ kind := 2, n := 1, attrs := [], elems := [] } : DStep)])) ?_ ?_)
     ·
      refine ⟨⟨by omega, by omega⟩, ?_, by simp only [List.length_append, List.length_cons, List.length_nil]; omega⟩
      rw [List.append_assoc]; exact hP
     ·
      (try dsimp only); omega
    ·
     (try simp only [decide_eq_true_eq, decide_eq_false_iff_not, Int.not_lt, Int.not_le, Bool.and_eq_true, Bool.and_eq_false_iff, Bool.not_eq_true', Bool.not_eq_false', Bool.or_eq_true, Bool.or_eq_false_iff, beq_iff_eq, beq_eq_false_iff_ne, ne_eq] at h16)
     have hC : ¬ CutP (ini a) (ini b) i k := fun q => by
       rcases h16 with h | h
       · have := q.1; omega
       · rcases q.2 with q2 | q2
         · exact h.1 (by omega)
         · exact h.2 (by rw [v0, v2 q.1]; exact q2)
     have hk3 := ends_or I10.1.1 I10.1.2 hC (by omega)
     have hP := I10.2.1
     rw [path_add hK hC hk3, List.map_cons] at hP
     have e1 := one_at hk3
     refine .back [.r [(4, X (Xn ((k : Int) + 1))), (5, X (Xsb elemT 3 (ini b) (k : Int) ((k : Int) + 1))), (6, X (Xf [(2, 2)])), (8, X (rowC dstepT [({ kind := 1, n := 0, attrs := [], elems := (((ini b).take (k + 1)).drop k) } : DStep)] (Xap 4 dstepT 600 o [({ kind := 1, n := 0, attrs := [], elems := (((ini b).take (k + 1)).drop k) } : DStep)])))], .r [(1, X (Xn ((k : Int) + 1)))]] [(432, 432), (600, 600)] (ih10 (i, (k + 1), (o ++ [({ kind := 1, n := 0, attrs := [], elems := (((ini b).take (k + 1)).drop k) } : DStep)])) ?_ ?_)
     ·
      refine ⟨⟨by omega, by omega⟩, ?_, by simp only [List.length_append, List.length_cons, List.length_nil]; omega⟩
      rw [List.append_assoc, e1]; exact hP
     ·
      (try dsimp only); omega
  ·
   (try simp only [decide_eq_true_eq, decide_eq_false_iff_not, Int.not_lt, Int.not_le, Bool.or_eq_true, Bool.or_eq_false_iff] at h10)
   have hE := I10.2.1
   rw [path_end (by omega) (by omega), List.map_nil, List.append_nil] at hE
   first
   | (have hf : o ++ [({ kind := 0, n := 1, attrs := (fm chgG (((a.getD (a.length - 1) default)).attrs) (((b.getD (b.length - 1) default)).attrs)), elems := [] } : DStep)] = (diffU a b).map stepU := by rw [hD, List.map_append, ← hE]; rfl
      rw [← hf] at t1 t3 t4 t5)
   | (have hf : (o ++ [] : List DStep) = (diffU a b).map stepU := by rw [List.append_nil, hE, hD]
      rw [← hf] at t1 t3 t4 t5)
   have e1 : ((doneD (diffU a b)) : List DStep) = (tidyL (o ++ [({ kind := 0, n := 1, attrs := (fm chgG (((a.getD (a.length - 1) default)).attrs) (((b.getD (b.length - 1) default)).attrs)), elems := [] } : DStep)])) := by
    rw [t1]
   exact .finE [.r [(2, X (rowC dstepT [({ kind := 0, n := 1, attrs := (fm chgG (((a.getD (a.length - 1) default)).attrs) (((b.getD (b.length - 1) default)).attrs)), elems := [] } : DStep)] (Xap 4 dstepT 600 o [({ kind := 0, n := 1, attrs := (fm chgG (((a.getD (a.length - 1) default)).attrs) (((b.getD (b.length - 1) default)).attrs)), elems := [] } : DStep)]))), (3, X (Xc1 705 (fc_dTidy (o ++ [({ kind := 0, n := 1, attrs := (fm chgG (((a.getD (a.length - 1) default)).attrs) (((b.getD (b.length - 1) default)).attrs)), elems := [] } : DStep)]) (by assumption) (by omega) (by omega)) (rowC dstepT (o ++ [({ kind := 0, n := 1, attrs := (fm chgG (((a.getD (a.length - 1) default)).attrs) (((b.getD (b.length - 1) default)).attrs)), elems := [] } : DStep)]) X0)))], .r []] [] (fun z0 => (VL 4 dstepT z0, [])) ((tidyL (o ++ [({ kind := 0, n := 1, attrs := (fm chgG (((a.getD (a.length - 1) default)).attrs) (((b.getD (b.length - 1) default)).attrs)), elems := [] } : DStep)])) : List DStep) ((doneD (diffU a b)) : List DStep) e1
 ·
  (try simp only [decide_eq_true_eq, decide_eq_false_iff_not, Int.not_lt, Int.not_le, gt_iff_lt, Bool.and_eq_true, Bool.and_eq_false_iff, Bool.not_eq_true', Bool.not_eq_false', beq_iff_eq, beq_eq_false_iff_ne, ne_eq] at h3)
  have il := ini_len (a := a)
  have jl := ini_len (a := b)
  have hD : diffU a b = (if TiedP a b then pathU (ini a) (ini b) 0 0 ++ [.K (chgU (lst a) (lst b))] else pathU a b 0 0) := rfl
  first
  | rw [if_pos ⟨⟨⟨by omega, by omega⟩, h3.1.2⟩, h3.2⟩] at hD
  | rw [if_neg (by rintro ⟨⟨⟨q1, q2⟩, q3⟩, q4⟩; rcases h3 with ((h | h) | h) | h; (omega); (omega); (exact h q3); (exact h q4))] at hD
  have lT := tabL_len a b
  refine .loop (α := Nat × Nat × (List DStep)) [.r [(2, X (Xc1 272 (fc_table a b (by omega) (by omega)) X0))], .r [], .r [], .le (.nR 10 4)] 313 (fun (i, k, o) => ([(0, VL 3 elemT a), (1, VL 3 elemT b), (6, VN), (9, VL 1 intsT (tabL a b)), (10, .row 312 o.length), (11, VI (i : Int)), (12, VI (k : Int))], [(312, OR 4 dstepT o)])) (fun (i, k, o) => (i ≤ (a).length ∧ k ≤ (b).length) ∧ o ++ (pathU a b i k).map stepU = (pathU a b 0 0).map stepU ∧ o.length ≤ i + k) (fun (i, k, o) => ((a).length - i) + ((b).length - k)) (0, 0, []) ?_ ?_
  ·
   exact ⟨⟨by omega, by omega⟩, rfl, by simp⟩
  rintro ⟨i, k, o⟩ I10 ih10
  try dsimp only at I10
  refine .br [.r [(2, X (Xl elemT a)), (7, Xv 1 (!(decide ((i : Int) < (a.length : Int)))) (Xl elemT b)), (8, Xv 2 (!(decide ((i : Int) < (a.length : Int)))) X0), (9, X (Xk' (decide ((i : Int) < (a.length : Int)))))]] (decide ((i : Int) < (a.length : Int)) || decide ((k : Int) < (b.length : Int))) (fun h10 => ?_) (fun h10 => ?_)
  ·
   (try simp only [decide_eq_true_eq, decide_eq_false_iff_not, Int.not_lt, Int.not_le, Bool.or_eq_true, Bool.or_eq_false_iff] at h10)
   have r0 := row_len (a := a) (b := b) (i := i) I10.1.1
   have r1 := fun h : i + 1 ≤ (a).length => row_len (a := a) (b := b) (i := i + 1) h
   have v0 := tab_at (a := a) (b := b) (i := i) (k := k) I10.1.1 I10.1.2
   have v1 := fun (h : i + 1 ≤ (a).length) (g : k + 1 ≤ (b).length) => tab_at (a := a) (b := b) (i := i + 1) (k := k + 1) h g
   have v2 := fun h : i + 1 ≤ (a).length => tab_at (a := a) (b := b) (i := i + 1) (k := k) h I10.1.2
   have d1 := fun (h : i + 1 ≤ (a).length) (g : k + 1 ≤ (b).length) => tab_bd' (a := a) (b := b) (i := i + 1) (k := k + 1) h g
   have d2 := fun h : i + 1 ≤ (a).length => tab_bd' (a := a) (b := b) (i := i + 1) (k := k) h I10.1.2
   have dP := price_bd ((a).getD i default) ((b).getD k default)
   refine .br [.r [(2, X (Xl elemT a)), (7, Xv 1 (decide ((i : Int) < (a.length : Int))) (Xl elemT b)), (8, Xv 2 (decide ((i : Int) < (a.length : Int))) X0), (9, X (Xk (decide ((i : Int) < (a.length : Int))))), (13, Xv 2 (decide ((i : Int) < (a.length : Int)) && decide ((k : Int) < (b.length : Int))) (Xi elemT a (i : Int)) (fun hg => by (try simp only [decide_eq_true_eq, decide_eq_false_iff_not, Int.not_lt, Int.not_le, Bool.and_eq_true, Bool.and_eq_false_iff, Bool.not_eq_true', Bool.not_eq_false'] at hg); exact ⟨(by omega), (by omega)⟩)), (14, Xv 1 (decide ((i : Int) < (a.length : Int)) && decide ((k : Int) < (b.length : Int))) X0), (17, Xv 2 (decide ((i : Int) < (a.length : Int)) && decide ((k : Int) < (b.length : Int))) (Xi elemT b (k : Int)) (fun hg => by (try simp only [decide_eq_true_eq, decide_eq_false_iff_not, Int.not_lt, Int.not_le, Bool.and_eq_true, Bool.and_eq_false_iff, Bool.not_eq_true', Bool.not_eq_false'] at hg); exact ⟨(by omega), (by omega)⟩)), (18, Xv 1 (decide ((i : Int) < (a.length : Int)) && decide ((k : Int) < (b.length : Int))) X0), (19, Xv 2 (decide ((i : Int) < (a.length : Int)) && decide ((k : Int) < (b.length : Int))) (Xc0 (fc_alike ((a.getD i default)) ((b.getD k default))) X0)), (20, X (Xk (decide ((i : Int) < (a.length : Int)) && decide ((k : Int) < (b.length : Int))))), (24, Xv 2 ((decide ((i : Int) < (a.length : Int)) && decide ((k : Int) < (b.length : Int))) && (alikeB ((a.getD i default)) ((b.getD k default)))) (Xi intsT (tabL a b) (i : Int)) (fun hg => by (try simp only [decide_eq_true_eq, decide_eq_false_iff_not, Int.not_lt, Int.not_le, Bool.and_eq_true, Bool.and_eq_false_iff, Bool.not_eq_true', Bool.not_eq_false'] at hg); exact ⟨(by omega), (by omega)⟩)), (25, Xv 1 ((decide ((i : Int) < (a.length : Int)) && decide ((k : Int) < (b.length : Int))) && (alikeB ((a.getD i default)) ((b.getD k default)))) X0), (27, Xv 2 ((decide ((i : Int) < (a.length : Int)) && decide ((k : Int) < (b.length : Int))) && (alikeB ((a.getD i default)) ((b.getD k default)))) (Xi intT ((tabL a b).getD i default) (k : Int)) (fun hg => by (try simp only [decide_eq_true_eq, decide_eq_false_iff_not, Int.not_lt, Int.not_le, Bool.and_eq_true, Bool.and_eq_false_iff, Bool.not_eq_true', Bool.not_eq_false'] at hg); exact ⟨(by omega), (by omega)⟩)), (28, Xv 1 ((decide ((i : Int) < (a.length : Int)) && decide ((k : Int) < (b.length : Int))) && (alikeB ((a.getD i default)) ((b.getD k default)))) X0), (31, Xv 1 ((decide ((i : Int) < (a.length : Int)) && decide ((k : Int) < (b.length : Int))) && (alikeB ((a.getD i default)) ((b.getD k default)))) (Xn ((i : Int) + 1))), (32, Xv 2 ((decide ((i : Int) < (a.length : Int)) && decide ((k : Int) < (b.length : Int))) && (alikeB ((a.getD i default)) ((b.getD k default)))) (Xi intsT (tabL a b) ((i : Int) + 1)) (fun hg => by (try simp only [decide_eq_true_eq, decide_eq_false_iff_not, Int.not_lt, Int.not_le, Bool.and_eq_true, Bool.and_eq_false_iff, Bool.not_eq_true', Bool.not_eq_false'] at hg); exact ⟨(by omega), (by omega)⟩)), (33, Xv 1 ((decide ((i : Int) < (a.length : Int)) && decide ((k : Int) < (b.length : Int))) && (alikeB ((a.getD i default)) ((b.getD k default)))) X0), (35, Xv 1 ((decide ((i : Int) < (a.length : Int)) && decide ((k : Int) < (b.length : Int))) && (alikeB ((a.getD i default)) ((b.getD k default)))) (Xn ((k : Int) + 1))), (36, Xv 2 ((decide ((i : Int) < (a.length : Int)) && decide ((k : Int) < (b.length : Int))) && (alikeB ((a.getD i default)) ((b.getD k default)))) (Xi intT ((tabL a b).getD (i + 1) default) ((k : Int) + 1)) (fun hg => by (try simp only [decide_eq_true_eq, decide_eq_false_iff_not, Int.not_lt, Int.not_le, Bool.and_eq_true, Bool.and_eq_false_iff, Bool.not_eq_true', Bool.not_eq_false'] at hg); exact ⟨(by omega), (by omega)⟩)), (37, Xv 1 ((decide ((i : Int) < (a.length : Int)) && decide ((k : Int) < (b.length : Int))) && (alikeB ((a.getD i default)) ((b.getD k default)))) X0), (40, Xv 2 ((decide ((i : Int) < (a.length : Int)) && decide ((k : Int) < (b.length : Int))) && (alikeB ((a.getD i default)) ((b.getD k default)))) (Xi elemT a (i : Int)) (fun hg => by (try simp only [decide_eq_true_eq, decide_eq_false_iff_not, Int.not_lt, Int.not_le, Bool.and_eq_true, Bool.and_eq_false_iff, Bool.not_eq_true', Bool.not_eq_false'] at hg); exact ⟨(by omega), (by omega)⟩)), (41, Xv 1 ((decide ((i : Int) < (a.length : Int)) && decide ((k : Int) < (b.length : Int))) && (alikeB ((a.getD i default)) ((b.getD k default)))) X0), (44, Xv 2 ((decide ((i : Int) < (a.length : Int)) && decide ((k : Int) < (b.length : Int))) && (alikeB ((a.getD i default)) ((b.getD k default)))) (Xi elemT b (k : Int)) (fun hg => by (try simp only [decide_eq_true_eq, decide_eq_false_iff_not, Int.not_lt, Int.not_le, Bool.and_eq_true, Bool.and_eq_false_iff, Bool.not_eq_true', Bool.not_eq_false'] at hg); exact ⟨(by omega), (by omega)⟩)), (45, Xv 1 ((decide ((i : Int) < (a.length : Int)) && decide ((k : Int) < (b.length : Int))) && (alikeB ((a.getD i default)) ((b.getD k default)))) X0), (46, Xv 2 ((decide ((i : Int) < (a.length : Int)) && decide ((k : Int) < (b.length : Int))) && (alikeB ((a.getD i default)) ((b.getD k default)))) (Xc0 (fc_price ((a.getD i default)) ((b.getD k default))) X0)), (47, Xv 2 ((decide ((i : Int) < (a.length : Int)) && decide ((k : Int) < (b.length : Int))) && (alikeB ((a.getD i default)) ((b.getD k default)))) (Xn ((((tabL a b).getD (i + 1) default).getD (k + 1) default) + (priceI ((a.getD i default)) ((b.getD k default))))) (fun hg => by (try simp only [decide_eq_true_eq, decide_eq_false_iff_not, Int.not_lt, Int.not_le, Bool.and_eq_true, Bool.and_eq_false_iff, Bool.not_eq_true', Bool.not_eq_false'] at hg); exact (by omega))), (48, Xv 2 ((decide ((i : Int) < (a.length : Int)) && decide ((k : Int) < (b.length : Int))) && (alikeB ((a.getD i default)) ((b.getD k default)))) X0), (49, X (Xk ((decide ((i : Int) < (a.length : Int)) && decide ((k : Int) < (b.length : Int))) && (alikeB ((a.getD i default)) ((b.getD k default))))))]] (((decide ((i : Int) < (a.length : Int)) && decide ((k : Int) < (b.length : Int))) && (alikeB ((a.getD i default)) ((b.getD k default)))) && ((((tabL a b).getD i default).getD k default) == ((((tabL a b).getD (i + 1) default).getD (k + 1) default) + (priceI ((a.getD i default)) ((b.getD k default)))))) (fun h13 => ?_) (fun h13 => ?_)
   ·
    (try simp only [decide_eq_true_eq, decide_eq_false_iff_not, Int.not_lt, Int.not_le, Bool.and_eq_true, Bool.and_eq_false_iff, Bool.not_eq_true', Bool.not_eq_false', beq_iff_eq, beq_eq_false_iff_ne, ne_eq] at h13)
    have hK : KeepP a b i k := ⟨⟨by omega, by omega⟩, h13.1.2, by rw [← v0, ← v1 (by omega) (by omega)]; exact h13.2⟩
    have hP := I10.2.1
    rw [path_keep hK, List.map_cons] at hP
    have na2 : ((a).getD i default).attrs.length ≤ 1000000000 := by first | exact na _ (getD_mem' (by omega)) | exact na _ (ini_mem (getD_mem' (by omega)))
    have nb2 : ((b).getD k default).attrs.length ≤ 1000000000 := by first | exact nb _ (getD_mem' (by omega)) | exact nb _ (ini_mem (getD_mem' (by omega)))
    refine .back [.r [(3, X (Xi elemT a (i : Int))), (8, X (Xi elemT b (k : Int))), (11, X (Xc1 889 (fc_change (((a.getD i default)).attrs) (((b.getD k default)).attrs) (by omega)) X0)), (12, X (Xf [(3, 3)])), (14, X (rowC dstepT [({ kind := 0, n := 1, attrs := (fm chgG (((a.getD i default)).attrs) (((b.getD k default)).attrs)), elems := [] } : DStep)] (Xap 4 dstepT 312 o [({ kind := 0, n := 1, attrs := (fm chgG (((a.getD i default)).attrs) (((b.getD k default)).attrs)), elems := [] } : DStep)])))], .r [(1, X (Xn ((i : Int) + 1))), (3, X (Xn ((k : Int) + 1)))]] [(312, 312)] (ih10 ((i + 1), (k + 1), (o ++ [({ kind := 0, n := 1, attrs := (fm chgG (((a.getD i default)).attrs) (((b.getD k default)).attrs)), elems := [] } : DStep)])) ?_ ?_)
    ·
     refine ⟨⟨by omega, by omega⟩, ?_, by simp only [List.length_append, List.length_cons, List.length_nil]; omega⟩
     rw [List.append_assoc]; exact hP
    ·
     (try dsimp only); omega
   ·
    (try simp only [decide_eq_true_eq, decide_eq_false_iff_not, Int.not_lt, Int.not_le, Bool.and_eq_true, Bool.and_eq_false_iff, Bool.not_eq_true', Bool.not_eq_false', beq_iff_eq, beq_eq_false_iff_ne, ne_eq] at h13)
    have hK : ¬ KeepP a b i k := fun q => by
      rcases h13 with ((h | h) | h) | h
      · have := q.1; omega
      · have := q.1; omega
      · exact absurd (q.2.1.symm.trans h) (by decide)
      · exact h (by rw [v0, v1 q.1.1 q.1.2]; exact q.2.2)
    refine .br [.r [(2, X (Xl elemT a)), (7, Xv 1 (decide ((i : Int) < (a.length : Int))) (Xl elemT b)), (8, Xv 2 (decide ((i : Int) < (a.length : Int))) X0), (9, Xv 1 (decide ((i : Int) < (a.length : Int))) X0), (12, Xv 2 ((decide ((i : Int) < (a.length : Int))) && !((k : Int) == (b.length : Int))) (Xi intsT (tabL a b) (i : Int)) (fun hg => by (try simp only [decide_eq_true_eq, decide_eq_false_iff_not, Int.not_lt, Int.not_le, Bool.not_eq_true', Bool.not_eq_false', Bool.and_eq_true, Bool.and_eq_false_iff, beq_iff_eq, beq_eq_false_iff_ne, ne_eq] at hg); exact ⟨(by omega), (by omega)⟩)), (13, Xv 1 ((decide ((i : Int) < (a.length : Int))) && !((k : Int) == (b.length : Int))) X0), (15, Xv 2 ((decide ((i : Int) < (a.length : Int))) && !((k : Int) == (b.length : Int))) (Xi intT ((tabL a b).getD i default) (k : Int)) (fun hg => by (try simp only [decide_eq_true_eq, decide_eq_false_iff_not, Int.not_lt, Int.not_le, Bool.not_eq_true', Bool.not_eq_false', Bool.and_eq_true, Bool.and_eq_false_iff, beq_iff_eq, beq_eq_false_iff_ne, ne_eq] at hg); exact ⟨(by omega), (by omega)⟩)), (16, Xv 1 ((decide ((i : Int) < (a.length : Int))) && !((k : Int) == (b.length : Int))) X0), (19, Xv 1 ((decide ((i : Int) < (a.length : Int))) && !((k : Int) == (b.length : Int))) (Xn ((i : Int) + 1))), (20, Xv 2 ((decide ((i : Int) < (a.length : Int))) && !((k : Int) == (b.length : Int))) (Xi intsT (tabL a b) ((i : Int) + 1)) (fun hg => by (try simp only [decide_eq_true_eq, decide_eq_false_iff_not, Int.not_lt, Int.not_le, Bool.not_eq_true', Bool.not_eq_false', Bool.and_eq_true, Bool.and_eq_false_iff, beq_iff_eq, beq_eq_false_iff_ne, ne_eq] at hg); exact ⟨(by omega), (by omega)⟩)), (21, Xv 1 ((decide ((i : Int) < (a.length : Int))) && !((k : Int) == (b.length : Int))) X0), (23, Xv 2 ((decide ((i : Int) < (a.length : Int))) && !((k : Int) == (b.length : Int))) (Xi intT ((tabL a b).getD (i + 1) default) (k : Int)) (fun hg => by (try simp only [decide_eq_true_eq, decide_eq_false_iff_not, Int.not_lt, Int.not_le, Bool.not_eq_true', Bool.not_eq_false', Bool.and_eq_true, Bool.and_eq_false_iff, beq_iff_eq, beq_eq_false_iff_ne, ne_eq] at hg); exact ⟨(by omega), (by omega)⟩)), (24, Xv 1 ((decide ((i : Int) < (a.length : Int))) && !((k : Int) == (b.length : Int))) X0), (25, Xv 1 ((decide ((i : Int) < (a.length : Int))) && !((k : Int) == (b.length : Int))) (Xn (1 + (((tabL a b).getD (i + 1) default).getD k default))) (fun hg => by (try simp only [decide_eq_true_eq, decide_eq_false_iff_not, Int.not_lt, Int.not_le, Bool.not_eq_true', Bool.not_eq_false', Bool.and_eq_true, Bool.and_eq_false_iff, beq_iff_eq, beq_eq_false_iff_ne, ne_eq] at hg); exact (by omega))), (26, Xv 2 ((decide ((i : Int) < (a.length : Int))) && !((k : Int) == (b.length : Int))) X0), (27, Xko (decide ((i : Int) < (a.length : Int))) ((k : Int) == (b.length : Int))), (28, X (Xk (decide ((i : Int) < (a.length : Int)))))]] (decide ((i : Int) < (a.length : Int)) && (((k : Int) == (b.length : Int)) || ((((tabL a b).getD i default).getD k default) == (1 + (((tabL a b).getD (i + 1) default).getD k default))))) (fun h16 => ?_) (fun h16 => ?_)
    ·
     (try simp only [decide_eq_true_eq, decide_eq_false_iff_not, Int.not_lt, Int.not_le, Bool.and_eq_true, Bool.and_eq_false_iff, Bool.not_eq_true', Bool.not_eq_false', Bool.or_eq_true, Bool.or_eq_false_iff, beq_iff_eq, beq_eq_false_iff_ne, ne_eq] at h16)
     have hC : CutP a b i k := ⟨by omega, by
       rcases h16.2 with h | h
       · exact .inl (by omega)
       · exact .inr (by rw [← v0, ← v2 (by omega)]; exact h)⟩
     have hP := I10.2.1
     rw [path_cut hK hC, List.map_cons] at hP
     refine .back [.r [(1, X (Xf [(2, 2), (3, 3)])), (3, X (rowC dstepT [({ kind := 2, n := 1, attrs := [], elems := [] } : DStep)] (Xap 4 dstepT 312 o [({ kind := 2, n := 1, attrs := [], elems := [] } : DStep)])))], .r [(1, X (Xn ((i : Int) + 1)))]] [(312, 312)] (ih10 ((i + 1), k, (o ++ [({ kind := 2, n := 1, attrs := [], elems := [] } : DStep)])) ?_ ?_)
     ·
      refine ⟨⟨by omega, by omega⟩, ?_, by simp only [List.length_append, List.length_cons, List.length_nil]; omega⟩
      rw [List.append_assoc]; exact hP
     ·
      (try dsimp only); omega
    ·
     (try simp only [decide_eq_true_eq, decide_eq_false_iff_not, Int.not_lt, Int.not_le, Bool.and_eq_true, Bool.and_eq_false_iff, Bool.not_eq_true', Bool.not_eq_false', Bool.or_eq_true, Bool.or_eq_false_iff, beq_iff_eq, beq_eq_false_iff_ne, ne_eq] at h16)
     have hC : ¬ CutP a b i k := fun q => by
       rcases h16 with h | h
       · have := q.1; omega
       · rcases q.2 with q2 | q2
         · exact h.1 (by omega)
         · exact h.2 (by rw [v0, v2 q.1]; exact q2)
     have hk3 := ends_or I10.1.1 I10.1.2 hC (by omega)
     have hP := I10.2.1
     rw [path_add hK hC hk3, List.map_cons] at hP
     have e1 := one_at hk3
     refine .back [.r [(4, X (Xn ((k : Int) + 1))), (5, X (Xsb elemT 3 b (k : Int) ((k : Int) + 1))), (6, X (Xf [(2, 2)])), (8, X (rowC dstepT [({ kind := 1, n := 0, attrs := [], elems := ((b.take (k + 1)).drop k) } : DStep)] (Xap 4 dstepT 312 o [({ kind := 1, n := 0, attrs := [], elems := ((b.take (k + 1)).drop k) } : DStep)])))], .r [(1, X (Xn ((k : Int) + 1)))]] [(312, 312)] (ih10 (i, (k + 1), (o ++ [({ kind := 1, n := 0, attrs := [], elems := ((b.take (k + 1)).drop k) } : DStep)])) ?_ ?_)
     ·
      refine ⟨⟨by omega, by omega⟩, ?_, by simp only [List.length_append, List.length_cons, List.length_nil]; omega⟩
      rw [List.append_assoc, e1]; exact hP
     ·
      (try dsimp only); omega
  ·
   (try simp only [decide_eq_true_eq, decide_eq_false_iff_not, Int.not_lt, Int.not_le, Bool.or_eq_true, Bool.or_eq_false_iff] at h10)
   have hE := I10.2.1
   rw [path_end (by omega) (by omega), List.map_nil, List.append_nil] at hE
   first
   | (have hf : o ++ [({ kind := 0, n := 1, attrs := (fm chgG (((a.getD (a.length - 1) default)).attrs) (((b.getD (b.length - 1) default)).attrs)), elems := [] } : DStep)] = (diffU a b).map stepU := by rw [hD, List.map_append, ← hE]; rfl
      rw [← hf] at t1 t3 t4 t5)
   | (have hf : (o ++ [] : List DStep) = (diffU a b).map stepU := by rw [List.append_nil, hE, hD]
      rw [← hf] at t1 t3 t4 t5)
   have e2 : ((doneD (diffU a b)) : List DStep) = (tidyL (o ++ [])) := by
    rw [t1]
   exact .finE [.r [(2, X (Xap 4 dstepT 312 o [])), (3, X (Xc1 417 (fc_dTidy (o ++ []) (by assumption) (by omega) (by omega)) (rowC dstepT (o ++ []) X0)))], .r []] [] (fun z0 => (VL 4 dstepT z0, [])) ((tidyL (o ++ [])) : List DStep) ((doneD (diffU a b)) : List DStep) e2
end Go.Ch
end
section
set_option linter.unusedVariables false
set_option linter.unusedSimpArgs false
set_option maxRecDepth 100000
set_option maxHeartbeats 4000000
open Go Go.Proofs Go.Ab
namespace Go.Ch
end Go.Ch
end
section
set_option linter.unusedVariables false
set_option linter.unusedSimpArgs false
set_option maxRecDepth 100000
set_option maxHeartbeats 4000000
open Go Go.Proofs Go.Ab
namespace Go.Ch
theorem sameE_iff {x y : Elem} : sameE x y = true ↔ x.char = y.char ∧ x.ref = y.ref ∧ sameL x.attrs y.attrs = true := by
  unfold sameE; simp only [Bool.and_eq_true, beq_iff_eq, and_assoc]

theorem fc_fsame (a b : List Elem) : FC Try.prog 153 [VL 3 elemT a, VL 3 elemT b] (app emp []) (VB (sameF a b)) (app emp []) := by
 refine .go Try.f153 ?_
 refine .len 0 (fun hl0 => ?_)
 refine .len 1 (fun hl1 => ?_)
 refine .br [.r [], .r [(1, X (Xl elemT a)), (3, X (Xl elemT b))]] ((a.length : Int) != (b.length : Int)) (fun h1 => ?_) (fun h1 => ?_)
 ·
  (try simp only [bne_iff_ne, bne_eq_false_iff_eq, ne_eq] at h1)
  have e1 : ((sameF a b) : Bool) = false := by
   unfold sameF; rw [decide_eq_false (by omega)]; rfl
  exact .finE [.r []] [] (fun z0 => (VB z0, [])) (false : Bool) ((sameF a b) : Bool) e1
 ·
  (try simp only [bne_iff_ne, bne_eq_false_iff_eq, ne_eq] at h1)
  refine .loop (α := Nat) [.r [(1, X (Xl elemT a))]] 72 (fun i => ([(1, VL 3 elemT b), (13, VL 3 elemT a), (14, VI (a.length : Int)), (15, VI (i : Int))], [])) (fun i => i ≤ a.length ∧ sameFi a b 0 = sameFi a b i) (fun i => a.length - i) (0 : Nat) ?_ ?_
  ·
   exact ⟨by omega, rfl⟩
  rintro i I4 ih4
  try dsimp only at I4
  refine .br [.r []] (decide ((i : Int) < (a.length : Int))) (fun h4 => ?_) (fun h4 => ?_)
  ·
   (try simp only [decide_eq_true_eq, decide_eq_false_iff_not, Int.not_lt, Int.not_le] at h4)
   refine .br [.r [(1, X (Xi elemT a (i : Int)))], .r [(2, X (Xi elemT b (i : Int)))], .r [(7, Xv 1 (!((((a.getD i default)).char) != (((b.getD i default)).char))) X0), (9, Xv 1 (!((((a.getD i default)).char) != (((b.getD i default)).char))) X0), (10, Xv 2 (!((((a.getD i default)).char) != (((b.getD i default)).char))) X0), (11, X (Xk' ((((a.getD i default)).char) != (((b.getD i default)).char)))), (14, Xv 1 (!(((((a.getD i default)).char) != (((b.getD i default)).char)) || ((((a.getD i default)).ref) != (((b.getD i default)).ref)))) X0), (16, Xv 1 (!(((((a.getD i default)).char) != (((b.getD i default)).char)) || ((((a.getD i default)).ref) != (((b.getD i default)).ref)))) X0), (17, Xv 2 (!(((((a.getD i default)).char) != (((b.getD i default)).char)) || ((((a.getD i default)).ref) != (((b.getD i default)).ref)))) (Xc0 (fc_attrSame (((a.getD i default)).attrs) (((b.getD i default)).attrs)) X0)), (18, Xv 1 (!(((((a.getD i default)).char) != (((b.getD i default)).char)) || ((((a.getD i default)).ref) != (((b.getD i default)).ref)))) X0), (19, X (Xk' (((((a.getD i default)).char) != (((b.getD i default)).char)) || ((((a.getD i default)).ref) != (((b.getD i default)).ref)))))]] ((((((a.getD i default)).char) != (((b.getD i default)).char)) || ((((a.getD i default)).ref) != (((b.getD i default)).ref))) || !(sameL (((a.getD i default)).attrs) (((b.getD i default)).attrs))) (fun h7 => ?_) (fun h7 => ?_)
   ·
    (try simp only [Bool.not_eq_true', Bool.not_eq_false', Bool.or_eq_true, Bool.or_eq_false_iff, bne_iff_ne, bne_eq_false_iff_eq, ne_eq] at h7)
    have e2 : ((sameF a b) : Bool) = false := by
     have hq : ¬ sameE (a.getD i default) (b.getD i default) = true := fun q => by
       rw [sameE_iff] at q
       obtain ⟨q1, q2, q3⟩ := q
       rcases h7 with (h | h) | h
       · exact h q1
       · exact h q2
       · rw [q3] at h; cases h
     unfold sameF; rw [I4.2, sameFi, if_pos (by omega), if_neg hq]; simp
    exact .finE [.r []] [] (fun z0 => (VB z0, [])) (false : Bool) ((sameF a b) : Bool) e2
   ·
    (try simp only [Bool.not_eq_true', Bool.not_eq_false', Bool.or_eq_true, Bool.or_eq_false_iff, bne_iff_ne, bne_eq_false_iff_eq, ne_eq] at h7)
    refine .back [.r [(0, X (Xn ((i : Int) + 1)))]] [] (ih4 ((i + 1) : Nat) ?_ ?_)
    ·
     refine ⟨by omega, ?_⟩; rw [I4.2, sameFi, if_pos (by omega), if_pos (sameE_iff.2 ⟨by omega, by omega, h7.2⟩)]
    ·
     ((try dsimp only); omega)
  ·
   (try simp only [decide_eq_true_eq, decide_eq_false_iff_not, Int.not_lt, Int.not_le] at h4)
   have e3 : ((sameF a b) : Bool) = true := by
    unfold sameF; rw [I4.2, sameFi, if_neg (by omega), decide_eq_true (by omega)]; rfl
   exact .finE [.r []] [] (fun z0 => (VB z0, [])) (true : Bool) ((sameF a b) : Bool) e3

theorem fc_isName (x a : Attr) : FC Try.prog 155 [.t (attrT x), .ptr 0 0] (app emp [(0, .box [VS a.name, VS a.val])]) (VB (seq x.name a.name)) (app emp [(0, .box [VS a.name, VS a.val])]) := by
 refine .go Try.f155 ?_
 have e1 : ((seq x.name a.name) : Bool) = seq x.name a.name := by
  (first | omega | with_reducible exact fun h => h | (intro hq; rw [hq]; done) | (intro hq; rw [hq]; rfl) | (simp only [List.length_map]; done) | (simp only [List.length_map]; omega) | (simp; omega) | (simp; done))
 exact .finE [.r [], .r []] [(0, 0)] (fun z0 => (VB z0, [(0, .box [VS a.name, VS a.val])])) (seq x.name a.name : Bool) ((seq x.name a.name) : Bool) e1

theorem fc_index (l : List Attr) (a : Attr) : FC Try.prog 154 [VL 2 attrT l, .fn 155 [.ptr 0 0]] (app emp [(0, .box [VS a.name, VS a.val])]) (VI (idxF l a.name 0)) (app emp [(0, .box [VS a.name, VS a.val])]) := by
 refine .go Try.f154 ?_
 refine .len 0 (fun hl0 => ?_)
 refine .loop (α := Nat) [.r [], .r [(1, X (Xl attrT l))]] 33 (fun i => ([(0, VL 2 attrT l), (1, .fn 155 [.ptr 0 0]), (7, VI (l.length : Int)), (8, VI (i : Int))], [(0, .box [VS a.name, VS a.val])])) (fun i => i ≤ l.length ∧ idxF l a.name 0 = idxF l a.name i) (fun i => l.length - i) (0 : Nat) ?_ ?_
 ·
  exact ⟨by omega, rfl⟩
 rintro i I2 ih2
 try dsimp only at I2
 refine .br [.r []] (decide ((i : Int) < (l.length : Int))) (fun h2 => ?_) (fun h2 => ?_)
 ·
  (try simp only [decide_eq_true_eq, decide_eq_false_iff_not, Int.not_lt, Int.not_le] at h2)
  refine .br [.r [], .r [(3, X (Xi attrT l (i : Int))), (5, X (Xc4 [(0, 0)] (fc_isName ((l.getD i default)) ⟨a.name, a.val⟩) X0))]] (seq (((l.getD i default))).name a.name) (fun h4 => ?_) (fun h4 => ?_)
  ·
   have e1 : ((idxF l a.name 0) : Int) = (i : Int) := by
    rw [I2.2, idxF, if_pos (by omega), if_pos h4]
   exact .finE [.r []] [(0, 0)] (fun z0 => (VI z0, [(0, .box [VS a.name, VS a.val])])) ((i : Int) : Int) ((idxF l a.name 0) : Int) e1
  ·
   refine .back [.r [(0, X (Xn ((i : Int) + 1)))]] [(0, 0)] (ih2 ((i + 1) : Nat) ?_ ?_)
   ·
    refine ⟨by omega, ?_⟩
    rw [I2.2, idxF, if_pos (by omega), if_neg (by rw [h4]; decide)]
   ·
    ((try dsimp only); omega)
 ·
  (try simp only [decide_eq_true_eq, decide_eq_false_iff_not, Int.not_lt, Int.not_le] at h2)
  have e2 : ((idxF l a.name 0) : Int) = -1 := by
   rw [I2.2, idxF, if_neg (by omega)]
  exact .finE [.r []] [(0, 0)] (fun z0 => (VI z0, [(0, .box [VS a.name, VS a.val])])) (-1 : Int) ((idxF l a.name 0) : Int) e2
end Go.Ch
end
