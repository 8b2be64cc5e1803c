/- What Tidy makes of steps; a delta stays as it is, also in parts. -/
import Derived.Test.YtbdbibmbfmlobaaM1
import Derived.Test.YtbdbibmbfmlobaaM2
import Derived.Test.YtbdbibmbfmlobaaM3
import Derived.Test.YtbdbibmbfmlobaaM4
import Derived.Test.YtbdbibmbfmlobaaM5
section
set_option linter.unusedVariables false
set_option linter.unusedSimpArgs false
namespace Go.Ch
open Go Go.Ab

def lenE (s : DStep) : Int := if (s.kind = 1 ∧ s.elems.length = 0 ∧ stepD s = 11) ∨ (s.kind ≠ 1 ∧ s.n = 0 ∧ stepD s = 2) then chkA true s.attrs 0 else stepD s
def tdW (w : DWr) (s : DStep) : DWr :=
  if s.kind = 0 then (if s.n = 0 then w else ⟨keepD (flushD w) s.n s.attrs, [], 0⟩) else if s.kind = 1 then ⟨w.out, w.add ++ s.elems, w.cut⟩ else ⟨w.out, w.add, w.cut + s.n⟩
def tdBad (w : DWr) (s : DStep) : Prop := s.kind ≠ 0 ∧ s.kind ≠ 1 ∧ 2147483647 < w.cut + s.n
instance (w : DWr) (s : DStep) : Decidable (tdBad w s) := by unfold tdBad; infer_instance
def tidyG (w : DWr) : List DStep → List DStep × Int
  | [] => if checkD (flushD w) = 0 then (flushD w, 0) else ([], 3)
  | s :: l => if lenE s ≠ 0 then ([], lenE s) else if tdBad w s then ([], 3) else tidyG (tdW w s) l
def tidyL (d : List DStep) : List DStep := (tidyG ⟨[], [], 0⟩ d).1
def tidyE (d : List DStep) : Int := (tidyG ⟨[], [], 0⟩ d).2
theorem lenE_ok {s : DStep} (h : lenE s = 0) : (s.kind = 0 ∨ s.kind = 1 ∨ s.kind = 2) ∧ 0 ≤ s.n ∧ s.n ≤ 2147483647 := by
  unfold lenE at h
  split at h
  · rename_i hc
    rcases hc with ⟨k, e, q⟩ | ⟨k, n0, q⟩
    · unfold stepD at q
      rw [if_pos k] at q
      split at q
      · cases q
      · rename_i hh; exact ⟨.inr (.inl k), by omega, by omega⟩
    · unfold stepD at q
      rw [if_neg k] at q
      split at q
      · rename_i hk; exact ⟨by omega, by omega, by omega⟩
      · cases q
  · obtain ⟨a, b, c, _⟩ := stepD_sz h; exact ⟨a, b, c⟩
/-- What holds of all steps and elements that come in holds of all that go out. -/
theorem keep_all {P : List Attr → Prop} {R : Elem → Prop} {l : List DStep} {n : Int} {c : List Attr} (h : ∀ s ∈ l, P s.attrs ∧ ∀ x ∈ s.elems, R x) (hc : P c) : ∀ s ∈ keepD l n c, P s.attrs ∧ ∀ x ∈ s.elems, R x := by
  unfold keepD
  split
  · rename_i hl
    intro s hs
    rcases List.mem_or_eq_of_mem_set hs with hs | rfl
    · exact h s hs
    · exact h (l.getD (l.length - 1) default) (getD_mem' (by omega))
  · intro s hs
    rcases List.mem_append.1 hs with hs | hs
    · exact h s hs
    · rw [List.mem_singleton] at hs; subst hs; exact ⟨hc, fun x hx => by cases hx⟩
theorem flush_all {P : List Attr → Prop} {R : Elem → Prop} {w : DWr} (h0 : P []) (h : ∀ s ∈ w.out, P s.attrs ∧ ∀ x ∈ s.elems, R x) (ha : ∀ x ∈ w.add, R x) : ∀ s ∈ flushD w, P s.attrs ∧ ∀ x ∈ s.elems, R x := by
  unfold flushD
  intro s hs
  rcases List.mem_append.1 hs with hs | hs
  · rcases List.mem_append.1 hs with hs | hs
    · exact h s hs
    · split at hs
      · rw [List.mem_singleton] at hs; subst hs; exact ⟨h0, ha⟩
      · cases hs
  · split at hs
    · rw [List.mem_singleton] at hs; subst hs; exact ⟨h0, fun x hx => by cases hx⟩
    · cases hs
theorem tdW_all {P : List Attr → Prop} {R : Elem → Prop} {w : DWr} {s : DStep} (h0 : P []) (h : ∀ s ∈ w.out, P s.attrs ∧ ∀ x ∈ s.elems, R x) (ha : ∀ x ∈ w.add, R x) (hs : P s.attrs ∧ ∀ x ∈ s.elems, R x) :
    (∀ t ∈ (tdW w s).out, P t.attrs ∧ ∀ x ∈ t.elems, R x) ∧ ∀ x ∈ (tdW w s).add, R x := by
  unfold tdW
  split
  · split
    · exact ⟨h, ha⟩
    · exact ⟨keep_all (flush_all h0 h ha) hs.1, fun x hx => by cases hx⟩
  · split
    · exact ⟨h, fun x hx => by rcases List.mem_append.1 hx with hx | hx; exact ha x hx; exact hs.2 x hx⟩
    · exact ⟨h, ha⟩
theorem lenE_step {s : DStep} (h : stepD s = 0) : lenE s = 0 := by
  unfold lenE
  rw [if_neg]
  · exact h
  · rintro (⟨_, _, q⟩ | ⟨_, _, q⟩) <;> rw [h] at q <;> cases q
/-! ### A delta stays as it is -/
/-! ### Also in parts -/
def spl (s : DStep) : List DStep := List.replicate s.n.toNat ⟨s.kind, 1, s.attrs, []⟩ ++ s.elems.flatMap fun e => [⟨1, 0, [], [e]⟩, ⟨0, 0, [], []⟩]
def splitL (d : List DStep) : List DStep := d.flatMap spl
end Go.Ch
end
section
set_option linter.unusedVariables false
set_option linter.unusedSimpArgs false
namespace Go.Ch
open Go Go.Ab

def elS : List DStep → Nat
  | [] => 0
  | s :: l => s.elems.length + elS l
theorem elS_app (p q : List DStep) : elS (p ++ q) = elS p + elS q := by
  induction p with
  | nil => simp [elS]
  | cons s p ih => simp only [List.cons_append, elS, ih]; omega
theorem elS_take {d : List DStep} {i : Nat} (h : i < d.length) : elS (d.take (i + 1)) = elS (d.take i) + (d.getD i default).elems.length ∧ elS (d.take (i + 1)) ≤ elS d := by
  constructor
  · rw [List.take_succ_eq_append_getElem h, elS_app, show d.getD i default = d[i] by simp [List.getD, List.getElem?_eq_getElem h]]; simp [elS]
  · conv => rhs; rw [← List.take_append_drop (i + 1) d, elS_app]
    omega
structure TB (d : List DStep) (i : Nat) (w : DWr) : Prop where
  out : w.out.length ≤ 3 * i
  add : w.add.length ≤ elS (d.take i)
  cut : 0 ≤ w.cut ∧ w.cut ≤ 2147483647
  n : ∀ s ∈ w.out, 0 ≤ s.n ∧ s.n ≤ 2147483647 * ((i : Int) + 1)
  dn : ∀ s ∈ w.out, s.attrs.length ≤ 100000000000 ∧ ∀ x ∈ s.elems, x.attrs.length ≤ 100000000000
  an : ∀ x ∈ w.add, x.attrs.length ≤ 100000000000
  el : ∀ s ∈ w.out, s.elems.length ≤ elS (d.take i)
theorem TB.start (d : List DStep) : TB d 0 ⟨[], [], 0⟩ := ⟨by simp, by simp, ⟨by simp, by simp⟩, fun s h => absurd h List.not_mem_nil, fun s h => absurd h List.not_mem_nil, fun s h => absurd h List.not_mem_nil, fun s h => absurd h List.not_mem_nil⟩
theorem flush_n {w : DWr} {B : Int} (hB : 2147483647 ≤ B) (hc : 0 ≤ w.cut ∧ w.cut ≤ 2147483647) (h : ∀ s ∈ w.out, 0 ≤ s.n ∧ s.n ≤ B) : ∀ s ∈ flushD w, 0 ≤ s.n ∧ s.n ≤ B := by
  unfold flushD
  intro s hs
  rcases List.mem_append.1 hs with hs | hs
  · rcases List.mem_append.1 hs with hs | hs
    · exact h s hs
    · split at hs
      · rw [List.mem_singleton] at hs; subst hs; simp only; omega
      · cases hs
  · split at hs
    · rw [List.mem_singleton] at hs; subst hs; simp only; omega
    · cases hs
theorem flush_el {w : DWr} {B : Nat} (ha : w.add.length ≤ B) (h : ∀ s ∈ w.out, s.elems.length ≤ B) : ∀ s ∈ flushD w, s.elems.length ≤ B := by
  unfold flushD
  intro s hs
  rcases List.mem_append.1 hs with hs | hs
  · rcases List.mem_append.1 hs with hs | hs
    · exact h s hs
    · split at hs
      · rw [List.mem_singleton] at hs; subst hs; exact ha
      · cases hs
  · split at hs
    · rw [List.mem_singleton] at hs; subst hs; simp
    · cases hs
theorem keep_n {l : List DStep} {B B' n : Int} {c : List Attr} (h : ∀ s ∈ l, 0 ≤ s.n ∧ s.n ≤ B) (h1 : 0 ≤ n) (h2 : B + n ≤ B') (h3 : 0 ≤ B) : ∀ s ∈ keepD l n c, 0 ≤ s.n ∧ s.n ≤ B' := by
  unfold keepD
  split
  · intro s hs
    rcases List.mem_or_eq_of_mem_set hs with hs | rfl
    · have := h s hs; omega
    · have := h (l.getD (l.length - 1) default) (getD_mem' (by omega))
      simp only; omega
  · intro s hs
    rcases List.mem_append.1 hs with hs | hs
    · have := h s hs; omega
    · rw [List.mem_singleton] at hs; subst hs; simp only; omega
theorem keep_el {l : List DStep} {B : Nat} {n : Int} {c : List Attr} (h : ∀ s ∈ l, s.elems.length ≤ B) : ∀ s ∈ keepD l n c, s.elems.length ≤ B := by
  unfold keepD
  split
  · intro s hs
    rcases List.mem_or_eq_of_mem_set hs with hs | rfl
    · exact h s hs
    · exact h (l.getD (l.length - 1) default) (getD_mem' (by omega))
  · intro s hs
    rcases List.mem_append.1 hs with hs | hs
    · exact h s hs
    · rw [List.mem_singleton] at hs; subst hs; simp
theorem TB.flush {d : List DStep} {i : Nat} {w : DWr} (h : TB d i w) (hi : i ≤ 100000000) (he : elS d ≤ 100000000000) (hd : elS (d.take i) ≤ elS d) :
    (∀ s ∈ flushD w, 0 ≤ s.n ∧ s.n ≤ 1000000000000000000) ∧ DN 400000000000 (flushD w) := by
  refine ⟨flush_n (by decide) h.cut (fun s hs => by have := h.n s hs; omega), fun s hs => ?_⟩
  have h1 := flush_all (P := fun l => l.length ≤ 100000000000) (R := fun x => x.attrs.length ≤ 100000000000) (by simp) h.dn h.an s hs
  have h2 := flush_el h.add h.el s hs
  exact ⟨by omega, by have := h1.1; omega, fun x hx => by have := h1.2 x hx; omega⟩
theorem TB.next {d : List DStep} {i : Nat} {w : DWr} (h : TB d i w) (hi : i < d.length) (hd : DN 100000000000 d) (hl : lenE (d.getD i default) = 0) (hb : ¬ tdBad w (d.getD i default)) : TB d (i + 1) (tdW w (d.getD i default)) := by
  obtain ⟨k, n0, n1⟩ := lenE_ok hl
  obtain ⟨e1, _⟩ := elS_take hi
  obtain ⟨b1, b2, b3⟩ := hd _ (getD_mem' hi)
  generalize d.getD i default = s at *
  have ha := tdW_all (P := fun l => l.length ≤ 100000000000) (R := fun x => x.attrs.length ≤ 100000000000) (w := w) (s := s) (by simp) h.dn h.an ⟨b2, b3⟩
  have hn := h.n
  have hc := h.cut
  have ho := h.out
  have hadd := h.add
  refine ⟨?_, ?_, ?_, ?_, ha.1, ha.2, ?_⟩
  · unfold tdW
    split
    · split
      · omega
      · have := keepD_len (flushD w) s.n s.attrs
        have := flushD_len w
        simp only; omega
    · split <;> simp only <;> omega
  · unfold tdW
    split
    · split
      · omega
      · simp
    · split
      · simp only [List.length_append]; omega
      · simp only; omega
  · unfold tdW
    split
    · split
      · exact hc
      · exact ⟨Int.le_refl 0, (by decide : (0:Int) ≤ 2147483647)⟩
    · split
      · exact hc
      · rename_i k0 k1
        unfold tdBad at hb
        simp only
        omega
  · have up : ∀ t ∈ w.out, 0 ≤ t.n ∧ t.n ≤ 2147483647 * (((i + 1 : Nat) : Int) + 1) := fun t ht => by have := hn t ht; omega
    unfold tdW
    split
    · split
      · exact up
      · exact keep_n (flush_n (by omega) hc hn) (B' := 2147483647 * (((i + 1 : Nat) : Int) + 1)) (by omega) (by omega) (by omega)
    · split
      · exact up
      · exact up
  · have up : ∀ t ∈ w.out, t.elems.length ≤ elS (d.take (i + 1)) := fun t ht => by have := h.el t ht; omega
    unfold tdW
    split
    · split
      · exact up
      · exact keep_el (flush_el (by omega) up)
    · split
      · exact up
      · exact up
end Go.Ch
namespace Go.Ch
open Go Go.Ab
theorem tidyG_at {d : List DStep} {i : Nat} (h : i < d.length) (w : DWr) : tidyG w (d.drop i) = if lenE (d.getD i default) ≠ 0 then ([], lenE (d.getD i default)) else if tdBad w (d.getD i default) then ([], 3) else tidyG (tdW w (d.getD i default)) (d.drop (i + 1)) := by
  rw [dropD h, tidyG]
theorem tidyG_end {d : List DStep} {i : Nat} (h : d.length ≤ i) (w : DWr) : tidyG w (d.drop i) = if checkD (flushD w) = 0 then (flushD w, 0) else ([], 3) := by
  rw [List.drop_eq_nil_of_le h, tidyG]
end Go.Ch
end
section
set_option linter.unusedVariables false
set_option linter.unusedSimpArgs false
namespace Go.Ch
open Go Go.Ab

/-! ### The parts -/
theorem splitL_app (p q : List DStep) : splitL (p ++ q) = splitL p ++ splitL q := by unfold splitL; simp
theorem splitL_take {d : List DStep} {i : Nat} (h : i < d.length) : splitL (d.take (i + 1)) = splitL (d.take i) ++ spl (d.getD i default) := by
  rw [List.take_succ_eq_append_getElem h, splitL_app, show d.getD i default = d[i] by simp [List.getD, List.getElem?_eq_getElem h]]
  simp [splitL]
theorem pair_len (l : List Elem) : (l.flatMap fun e => [(⟨1, 0, [], [e]⟩ : DStep), ⟨0, 0, [], []⟩]).length = 2 * l.length := by
  induction l with
  | nil => rfl
  | cons x l ih => simp only [List.flatMap_cons, List.length_append, ih, List.length_cons, List.length_nil]; omega
theorem spl_len {s : DStep} : (spl s).length = s.n.toNat + 2 * s.elems.length := by unfold spl; rw [List.length_append, List.length_replicate, pair_len]
theorem split_le {d : List DStep} {i : Nat} (h : i < d.length) : (splitL (d.take i)).length + (d.getD i default).n.toNat + 2 * (d.getD i default).elems.length ≤ (splitL d).length := by
  have e : splitL d = splitL (d.take (i + 1)) ++ splitL (d.drop (i + 1)) := by rw [← splitL_app, List.take_append_drop]
  have := splitL_take h
  rw [e, this, List.length_append, List.length_append, spl_len]
  omega
theorem elS_le : ∀ {l : List DStep}, (∀ s ∈ l, s.elems.length ≤ 1) → elS l ≤ l.length
  | [], _ => Nat.le_refl _
  | s :: l, h => by
    have h1 := h s (by simp)
    have h2 := elS_le (l := l) (fun t ht => h t (by simp [ht]))
    simp only [elS, List.length_cons]; omega
theorem pair_step {l : List Elem} {k : Nat} (h : k < l.length) : ((l.take (k + 1)).flatMap fun e => [(⟨1, 0, [], [e]⟩ : DStep), ⟨0, 0, [], []⟩]) = ((l.take k).flatMap fun e => [(⟨1, 0, [], [e]⟩ : DStep), ⟨0, 0, [], []⟩]) ++ [⟨1, 0, [], (l.take (k + 1)).drop k⟩, ⟨0, 0, [], []⟩] := by
  have e : (l.take (k + 1)).drop k = [l[k]] := by
    rw [List.take_succ_eq_append_getElem h, List.drop_append, List.drop_eq_nil_of_le (by simp; omega)]
    simp [show k - min k l.length = 0 by omega]
  rw [e, List.take_succ_eq_append_getElem h, List.flatMap_append]
  rfl
structure SB (d : List DStep) (i : Nat) (o : List DStep) (p q : Nat) : Prop where
  eq : o = splitL (d.take i) ++ List.replicate p ⟨(d.getD i default).kind, 1, (d.getD i default).attrs, []⟩ ++ ((d.getD i default).elems.take q).flatMap fun e => [(⟨1, 0, [], [e]⟩ : DStep), ⟨0, 0, [], []⟩]
theorem SB.len {d : List DStep} {i p q : Nat} {o : List DStep} (h : SB d i o p q) (hi : i < d.length) (hp : p ≤ (d.getD i default).n.toNat) (hq : q ≤ (d.getD i default).elems.length) :
    o.length = (splitL (d.take i)).length + p + 2 * q ∧ (splitL (d.take i)).length + (d.getD i default).n.toNat + 2 * (d.getD i default).elems.length ≤ (splitL d).length := by
  refine ⟨?_, split_le hi⟩
  rw [h.eq]
  simp only [List.length_append, List.length_replicate, pair_len, List.length_take]
  omega
theorem SB.start {d : List DStep} {i : Nat} : SB d i (splitL (d.take i)) 0 0 := ⟨by simp⟩
theorem SB.one {d : List DStep} {i p : Nat} {o : List DStep} (h : SB d i o p 0) : SB d i (o ++ [⟨(d.getD i default).kind, 1, (d.getD i default).attrs, []⟩]) (p + 1) 0 := ⟨by
  have := h.eq
  simp only [List.take_zero, List.flatMap_nil, List.append_nil] at this ⊢
  rw [this, List.append_assoc, ← List.replicate_succ']⟩
theorem SB.two {d : List DStep} {i p q : Nat} {o : List DStep} (h : SB d i o p q) (hq : q < (d.getD i default).elems.length) : SB d i (o ++ [⟨1, 0, [], ((d.getD i default).elems.take (q + 1)).drop q⟩, ⟨0, 0, [], []⟩]) p (q + 1) := ⟨by
  rw [h.eq, pair_step hq]; simp only [List.append_assoc]⟩
theorem SB.fin {d : List DStep} {i p q : Nat} {o : List DStep} (h : SB d i o p q) (hi : i < d.length) (hp : p = (d.getD i default).n.toNat) (hq : q = (d.getD i default).elems.length) : o = splitL (d.take (i + 1)) := by
  rw [h.eq, splitL_take hi, spl, hp, hq, List.take_length, List.append_assoc]
end Go.Ch
end
section
set_option linter.unusedVariables false
set_option linter.unusedSimpArgs false
namespace Go.Ch
open Go Go.Ab

def putA (a : Attr) : List Attr → Bool → List Attr
  | [], d => if d = true then [] else [a]
  | x :: l, d => (if d = false ∧ slt x.name a.name = false then [a] else []) ++ ((if seq x.name a.name = true then [] else [x]) ++ putA a l (d || !(slt x.name a.name)))
def putsA (o c : List Attr) : List Attr := c.foldl (fun o a => putA a o false) o
def fullA (l : List Attr) : List Attr := l.filter fun a => !seq a.val { data := #[] }
def changedR (l c : List Attr) : List Attr := fullA (putsA (putsA [] l) c)
end Go.Ch
namespace Go.Ch
open Go Go.Ab
end Go.Ch
end
section
set_option linter.unusedVariables false
set_option linter.unusedSimpArgs false
namespace Go.Ch
open Go Go.Ab

def actS (x : Act) (s : DStep) : Act :=
  if s.kind = 1 then ⟨x.ins.set (x.ins.length - 1) (x.ins.getD (x.ins.length - 1) default ++ s.elems), x.cut, x.set⟩
  else ⟨x.ins ++ List.replicate s.n.toNat [], x.cut ++ List.replicate s.n.toNat (s.kind == 2), x.set ++ List.replicate s.n.toNat s.attrs⟩
def actF (x : Act) : List DStep → Act
  | [] => x
  | s :: l => actF (actS x s) l
def actOfL (d : List DStep) : Act := actF ⟨[[]], [], []⟩ d
theorem actF_at {d : List DStep} {i : Nat} (h : i < d.length) (x : Act) : actF x (d.drop i) = actF (actS x (d.getD i default)) (d.drop (i + 1)) := by rw [dropD h, actF]
theorem actF_end {d : List DStep} {i : Nat} (h : d.length ≤ i) (x : Act) : actF x (d.drop i) = x := by rw [List.drop_eq_nil_of_le h, actF]
/-- An act's lists fit. -/
def ActFit (x : Act) : Prop := x.ins.length = x.cut.length + 1 ∧ x.set.length = x.cut.length
theorem actS_fit {x : Act} (h : ActFit x) (s : DStep) : ActFit (actS x s) := by
  unfold ActFit actS at *
  split
  · simp only [List.length_set]; exact h
  · simp only [List.length_append, List.length_replicate]; omega
/-- One unit more. -/
def actU (x : Act) : DU → Act
  | .A e => ⟨x.ins.set (x.ins.length - 1) (x.ins.getD (x.ins.length - 1) default ++ [e]), x.cut, x.set⟩
  | .K c => ⟨x.ins ++ [[]], x.cut ++ [false], x.set ++ [c]⟩
  | .C => ⟨x.ins ++ [[]], x.cut ++ [true], x.set ++ [[]]⟩
theorem getD_set_ne {α : Type} [Inhabited α] {l : List α} {i j : Nat} {y : α} (h : j ≠ i) : (l.set j y).getD i default = l.getD i default := by
  simp [List.getD, List.getElem?_set_ne h]
theorem getD_set_eq {α : Type} [Inhabited α] {l : List α} {i : Nat} {y : α} (h : i < l.length) : (l.set i y).getD i default = y := by
  simp [List.getD, List.getElem?_set_self h]
def actUs (x : Act) (us : List DU) : Act := us.foldl actU x
/-! ### Done -/
/-- A flow after an act, from an element on. -/
def doneR (f : List Elem) (x : Act) (i : Nat) : List Elem :=
  if i < f.length then x.ins.getD i default ++ ((if x.cut.getD i default = true then [] else [⟨(f.getD i default).char, (f.getD i default).ref, changedR (f.getD i default).attrs (x.set.getD i default)⟩]) ++ doneR f x (i + 1))
  else x.ins.getD f.length default
termination_by f.length - i
end Go.Ch
namespace Go.Ch
open Go Go.Ab
structure AIv (d : List DStep) (i : Nat) (x : Act) : Prop where
  fit : ActFit x
  go : actF x (d.drop i) = actOfL d
  len : (x.cut.length : Int) + oldD (d.drop i) = oldD d
  el : ∀ e ∈ x.ins, (e.length : Int) + newD (d.drop i) ≤ newD d
theorem AIv.start {d : List DStep} : AIv d 0 ⟨[[]], [], []⟩ := ⟨⟨rfl, rfl⟩, rfl, by simp, fun e he => by rw [List.mem_singleton] at he; subst he; simp⟩
theorem AIv.next {d : List DStep} {i : Nat} {x : Act} (h : AIv d i x) (hv : DValid d) (hi : i < d.length) : AIv d (i + 1) (actS x (d.getD i default)) := by
  obtain ⟨s1, s2, s3, s4, s5, s6, s7, s8⟩ := dlens_step hi hv.1
  refine ⟨actS_fit h.fit _, (actF_at hi x).symm.trans h.go, ?_, ?_⟩
  · have := h.len
    unfold actS
    split
    · rename_i k; rw [if_pos k] at s1; simp only; omega
    · rename_i k; rw [if_neg k] at s1; simp only [List.length_append, List.length_replicate]; omega
  · have he := h.el
    unfold actS
    split
    · rename_i k
      have hz : szD (d.getD i default) = (d.getD i default).elems.length := by unfold szD; rw [if_pos k]
      rw [if_neg (by omega)] at s2
      intro e hm
      rcases List.mem_or_eq_of_mem_set hm with hm | rfl
      · have := he e hm; omega
      · have := he _ (getD_mem' (l := x.ins) (k := x.ins.length - 1) (by have := h.fit.1; omega))
        rw [List.length_append]; omega
    · rename_i k
      have : newD (d.drop (i + 1)) ≤ newD (d.drop i) := by rw [s2]; split <;> omega
      intro e hm
      rcases List.mem_append.1 hm with hm | hm
      · have := he e hm; omega
      · rw [List.mem_replicate] at hm; rw [hm.2]
        have h0 := he _ (getD_mem' (l := x.ins) (k := 0) (by have := h.fit.1; omega))
        simp only [List.length_nil]; omega
theorem AIv.last {d : List DStep} {i : Nat} {x : Act} (h : AIv d i x) : 0 < x.ins.length ∧ ((x.ins.getD (x.ins.length - 1) default).length : Int) + newD (d.drop i) ≤ newD d :=
  ⟨by have := h.fit.1; omega, h.el _ (getD_mem' (by have := h.fit.1; omega))⟩
theorem AIv.done {d : List DStep} {i : Nat} {x : Act} (h : AIv d i x) (hi : d.length ≤ i) : x = actOfL d := by have := h.go; rw [actF_end hi] at this; exact this
end Go.Ch
namespace Go.Ch
open Go Go.Ab
end Go.Ch
end
section
set_option linter.unusedVariables false
set_option linter.unusedSimpArgs false
namespace Go.Ch
open Go Go.Ab
def stepU : DU → DStep
  | .K c => ⟨0, 1, c, []⟩
  | .A e => ⟨1, 0, [], [e]⟩
  | .C => ⟨2, 1, [], []⟩
theorem stepU_ok {u : DU} (h : UnitOk u) : DOk (stepU u) := by
  cases u with
  | K c => exact .inr ⟨.inl rfl, rfl, fun h => absurd (show (0:Int) = 2 from h) (by decide), Int.le_refl 1, (by decide : (1:Int) ≤ 2147483647), h.1⟩
  | A e => exact .inl ⟨rfl, rfl, rfl, by simp [stepU], fun x hx => by rw [show x = e by simpa [stepU] using hx]; exact h.1⟩
  | C => exact .inr ⟨.inr rfl, rfl, fun _ => rfl, Int.le_refl 1, (by decide : (1:Int) ≤ 2147483647), vg_nil⟩
theorem tdW_U (w : DWr) (u : DU) : tdW w (stepU u) = putU w u := by
  cases u <;> simp [tdW, stepU, putU]
theorem putU_cut {w : DWr} (h : 0 ≤ w.cut) (u : DU) : 0 ≤ (putU w u).cut ∧ (putU w u).cut ≤ w.cut + 1 := by
  cases u <;> simp only [putU] <;> omega
theorem tidyG_U : ∀ (us : List DU) (w : DWr), (∀ u ∈ us, UnitOk u) → 0 ≤ w.cut → w.cut + us.length ≤ 2147483647 → tidyG w (us.map stepU) = if checkD (flushD (foldD w us)) = 0 then (flushD (foldD w us), 0) else ([], 3)
  | [], w, _, _, _ => by rw [List.map_nil, tidyG, foldD]
  | u :: us, w, hu, h0, hl => by
    simp only [List.length_cons] at hl
    have hc := putU_cut h0 u
    rw [List.map_cons, tidyG, if_neg (by rw [lenE_step (step_iff.2 (stepU_ok (hu u (by simp))))]; decide), if_neg, tdW_U, tidyG_U us _ (fun v hv => hu v (by simp [hv])) hc.1 (by omega), foldD]
    rintro ⟨k0, k1, hb⟩
    have hn : (stepU u).n ≤ 1 := by cases u <;> simp [stepU]
    omega
theorem tidy_units {us : List DU} (hu : ∀ u ∈ us, UnitOk u) (hl : us.length ≤ 2147483647) : tidyL (us.map stepU) = doneD us ∧ tidyE (us.map stepU) = 0 := by
  have h1 : oldN us ≤ us.length ∧ newN us ≤ us.length := by
    clear hu hl
    induction us with
    | nil => exact ⟨Nat.le_refl _, Nat.le_refl _⟩
    | cons u us ih => cases u <;> simp only [oldN, newN, List.length_cons] <;> omega
  have hd := doneD_ok hu (by omega) (by omega)
  have := tidyG_U us ⟨[], [], 0⟩ hu (Int.le_refl _) (by simp only; omega)
  rw [if_pos (show checkD (flushD (foldD ⟨[], [], 0⟩ us)) = 0 from checkD_iff.2 hd.1)] at this
  unfold tidyL tidyE
  rw [this]
  exact ⟨rfl, rfl⟩
theorem units_map {us : List DU} (hu : ∀ u ∈ us, UnitOk u) : (us.map stepU).length = us.length ∧ elS (us.map stepU) ≤ us.length ∧ ((∀ u ∈ us, UnitS u) → DN 100000000000 (us.map stepU)) := by
  refine ⟨List.length_map _, ?_, fun hs s hm => ?_⟩
  · have := elS_le (l := us.map stepU) (fun s hm => by
      obtain ⟨u, _, rfl⟩ := List.mem_map.1 hm
      cases u <;> simp [stepU])
    rw [List.length_map] at this; exact this
  · obtain ⟨u, h, rfl⟩ := List.mem_map.1 hm
    have := hs u h
    cases u with
    | K c => exact ⟨by simp [stepU], by have := this.2; simp only [stepU]; omega, fun x hx => by cases hx⟩
    | A e => exact ⟨by simp [stepU], by simp [stepU], fun x hx => by rw [show x = e by simpa [stepU] using hx]; have := this.2; omega⟩
    | C => exact ⟨by simp [stepU], by simp [stepU], fun x hx => by cases hx⟩
end Go.Ch
end
section
set_option linter.unusedVariables false
set_option linter.unusedSimpArgs false
namespace Go.Ch
open Go Go.Ab

def intsT (l : List Int) : Tree := .lst 1 (l.map intT)
def alikeB (x y : Elem) : Bool := (x.char == y.char) && (x.ref == y.ref)
def priceI (x y : Elem) : Int := if sameL x.attrs y.attrs = true then 0 else 1
theorem price_bd (x y : Elem) : 0 ≤ priceI x y ∧ priceI x y ≤ 1 := by unfold priceI; split <;> omega
def tabR (a b : List Elem) (i k : Nat) : Int :=
  if i < a.length then
    if k < b.length then
      if alikeB (a.getD i default) (b.getD k default) = true then min (1 + min (tabR a b (i + 1) k) (tabR a b i (k + 1))) (tabR a b (i + 1) (k + 1) + priceI (a.getD i default) (b.getD k default))
      else 1 + min (tabR a b (i + 1) k) (tabR a b i (k + 1))
    else (a.length : Int) - i
  else (b.length : Int) - k
termination_by (a.length - i) + (b.length - k)
theorem tab_bd (a b : List Elem) : ∀ (n i k : Nat), (a.length - i) + (b.length - k) = n → i ≤ a.length → k ≤ b.length → 0 ≤ tabR a b i k ∧ tabR a b i k ≤ ((a.length - i : Nat) : Int) + ((b.length - k : Nat) : Int) := by
  intro n
  induction n using Nat.strongRecOn with
  | _ n ih =>
    intro i k hn hi hk
    rw [tabR]
    by_cases h1 : i < a.length
    · rw [if_pos h1]
      by_cases h2 : k < b.length
      · rw [if_pos h2]
        have i1 := ih ((a.length - (i + 1)) + (b.length - k)) (by omega) (i + 1) k rfl (by omega) hk
        have i2 := ih ((a.length - i) + (b.length - (k + 1))) (by omega) i (k + 1) rfl hi (by omega)
        have i3 := ih ((a.length - (i + 1)) + (b.length - (k + 1))) (by omega) (i + 1) (k + 1) rfl (by omega) (by omega)
        have p := price_bd (a.getD i default) (b.getD k default)
        split <;> omega
      · rw [if_neg h2]; omega
    · rw [if_neg h1]; omega
theorem tab_bd' {a b : List Elem} {i k : Nat} (hi : i ≤ a.length) (hk : k ≤ b.length) : 0 ≤ tabR a b i k ∧ tabR a b i k ≤ (a.length : Int) + b.length := by
  have := tab_bd a b _ i k rfl hi hk; omega
def rowT (a b : List Elem) (i : Nat) : List Int := (List.range (b.length + 1)).map (tabR a b i)
def tabL (a b : List Elem) : List (List Int) := (List.range (a.length + 1)).map (rowT a b)
theorem rowT_len (a b : List Elem) (i : Nat) : (rowT a b i).length = b.length + 1 := by simp [rowT]
theorem rowT_at {a b : List Elem} {i k : Nat} (h : k ≤ b.length) : (rowT a b i).getD k default = tabR a b i k := by
  unfold rowT
  rw [List.getD, List.getElem?_map, List.getElem?_range (by omega)]; rfl
theorem tabL_at {a b : List Elem} {i : Nat} (h : i ≤ a.length) : (tabL a b).getD i default = rowT a b i := by
  unfold tabL
  rw [List.getD, List.getElem?_map, List.getElem?_range (by omega)]; rfl
theorem tabL_len (a b : List Elem) : (tabL a b).length = a.length + 1 := by simp [tabL]
theorem list_eq {α : Type} [Inhabited α] {l r : List α} (hl : l.length = r.length) (h : ∀ j, j < r.length → l.getD j default = r.getD j default) : l = r := by
  apply List.ext_getElem hl
  intro j h1 h2
  have := h j h2
  simpa [List.getD, List.getElem?_eq_getElem h1, List.getElem?_eq_getElem h2] using this
/-- The table, from row i on. -/
structure TO (a b : List Elem) (L : List (List Int)) (i : Int) : Prop where
  bd : -1 ≤ i ∧ i ≤ a.length
  len : L.length = a.length + 1
  at_ : ∀ j : Nat, i < j → j ≤ a.length → L.getD j default = rowT a b j
/-- A row, from column k on. -/
structure TI (a b : List Elem) (o : List Int) (i k : Int) : Prop where
  bd : -1 ≤ k ∧ k ≤ b.length
  len : o.length = b.length + 1
  at_ : ∀ j : Nat, k < j → j ≤ b.length → o.getD j default = tabR a b i.toNat j
theorem TO.start (a b : List Elem) : TO a b (List.replicate (a.length + 1) []) a.length := ⟨by omega, by simp, fun j h1 h2 => by omega⟩
theorem TI.start (a b : List Elem) (i : Int) : TI a b (List.replicate (b.length + 1) 0) i b.length := ⟨by omega, by simp, fun j h1 h2 => by omega⟩
theorem TI.row {a b : List Elem} {o : List Int} {i k : Int} (h : TI a b o i k) (hk : k < 0) : o = rowT a b i.toNat :=
  list_eq (by rw [h.len, rowT_len]) (fun j hj => by rw [rowT_len] at hj; rw [h.at_ j (by omega) (by omega), rowT_at (by omega)])
theorem getD_set {α : Type} [Inhabited α] {l : List α} {i j : Nat} {x : α} (h : i < l.length) : (l.set i x).getD j default = if i = j then x else l.getD j default := by
  by_cases e : i = j
  · subst e; rw [if_pos rfl, getD_set_eq h]
  · rw [if_neg e, getD_set_ne e]
theorem TO.next {a b : List Elem} {L : List (List Int)} {o : List Int} {i k : Int} (h : TO a b L i) (h0 : 0 ≤ i) (g : TI a b o i k) (hk : k < 0) : TO a b (L.set i.toNat o) (i - 1) := by
  obtain ⟨b1, b2⟩ := h.bd
  refine ⟨by omega, by rw [List.length_set]; exact h.len, fun j h1 h2 => ?_⟩
  rw [getD_set (by have := h.len; omega)]
  split
  · rename_i e; rw [g.row hk, e]
  · exact h.at_ j (by omega) h2
theorem TO.done {a b : List Elem} {L : List (List Int)} {i : Int} (h : TO a b L i) (hi : i < 0) : L = tabL a b :=
  list_eq (by rw [h.len, tabL_len]) (fun j hj => by rw [tabL_len] at hj; rw [h.at_ j (by omega) (by omega), tabL_at (by omega)])
theorem TO.below {a b : List Elem} {L : List (List Int)} {i : Int} (h : TO a b L i) (h0 : 0 ≤ i) (h1 : i < a.length) : L.getD (Int.toNat (i + 1)) default = rowT a b (i.toNat + 1) := by
  have := h.at_ (Int.toNat (i + 1)) (by omega) (by omega)
  rw [this, show Int.toNat (i + 1) = i.toNat + 1 by omega]
theorem TI.next {a b : List Elem} {o : List Int} {i k : Int} {v : Int} (h : TI a b o i k) (h0 : 0 ≤ k) (hv : v = tabR a b i.toNat k.toNat) : TI a b (o.set k.toNat v) i (k - 1) := by
  obtain ⟨b1, b2⟩ := h.bd
  refine ⟨by omega, by rw [List.length_set]; exact h.len, fun j h1 h2 => ?_⟩
  rw [getD_set (by have := h.len; omega)]
  split
  · rename_i e; rw [hv, e]
  · exact h.at_ j (by omega) h2
theorem TI.right {a b : List Elem} {o : List Int} {i k : Int} (h : TI a b o i k) (h0 : 0 ≤ k) (h1 : k < b.length) : o.getD (Int.toNat (k + 1)) default = tabR a b i.toNat (k.toNat + 1) := by
  have := h.at_ (Int.toNat (k + 1)) (by omega) (by omega)
  rw [this, show Int.toNat (k + 1) = k.toNat + 1 by omega]
end Go.Ch
end
section
set_option linter.unusedVariables false
set_option linter.unusedSimpArgs false
set_option maxRecDepth 100000
set_option maxHeartbeats 4000000
open Go Go.Proofs Go.Ab
namespace Go.Ch
theorem fc_dKeep0 (o : List DStep) (a : List Elem) (c : Int) (n : Int) (l : List Attr) (h0 : n = 0) : FC Try.prog 103 [.ptr 0 0, VI n, VL 2 attrT l] (app emp [(0, .box [.row 1 o.length, .row 2 a.length, VI c]), (1, OR 4 dstepT o), (2, OR 3 elemT a)]) (.tup []) (app emp [(0, .box [.row 1 o.length, .row 2 a.length, VI c]), (1, OR 4 dstepT o), (2, OR 3 elemT a)]) := by
 refine .go Try.f103 ?_
 refine .len 2 (fun hl2 => ?_)
 refine .br [.r []] (n == 0) (fun h0 => ?_) (fun h0 => ?_)
 ·
  (try simp only [beq_iff_eq, beq_eq_false_iff_ne, ne_eq] at h0)
  exact .fin [] [(0, 0), (1, 1), (2, 2)]
 ·
  (try simp only [beq_iff_eq, beq_eq_false_iff_ne, ne_eq] at h0)
  exfalso
  omega

theorem fc_dDoneE (o : List DStep) (a : List Elem) (c : Int) (ho : o.length ≤ 100000000000) (hc : ¬ checkD (flushD ⟨o, a, c⟩) = 0) (hd : DN 400000000000 (flushD ⟨o, a, c⟩)) : FC Try.prog 105 [.ptr 0 0] (app emp [(0, .box [.row 1 o.length, .row 2 a.length, VI c]), (1, OR 4 dstepT o), (2, OR 3 elemT a)]) (.tup [VL 4 dstepT [], VI 3]) (app emp [(0, .box [.row 1 ((flushD ⟨o, a, c⟩).length), .row 3 0, VI 0]), (1, OR 4 dstepT (flushD ⟨o, a, c⟩)), (2, OF 3 elemT a), (3, OR 3 elemT [])]) := by
 refine .go Try.f105 ?_
 refine .br [.r [], .r [(1, X (Xc3 27 [(0, 0), (1, 1), (2, 2)] (fc_dFlush o a c (by omega)) X0))], .r [(4, X (Xc0 (fc_dCheck (flushD ⟨o, a, c⟩) (by assumption)) (rowC dstepT (flushD ⟨o, a, c⟩) X0)))]] ((checkD (flushD ⟨o, a, c⟩)) != 0) (fun h2 => ?_) (fun h2 => ?_)
 ·
  (try simp only [bne_iff_ne, bne_eq_false_iff_eq, ne_eq] at h2)
  exact .fin [.r [], .le (.nL 2 4)] [(0, 0), (1, 1), (2, 2), (27, 3)]
 ·
  (try simp only [bne_iff_ne, bne_eq_false_iff_eq, ne_eq] at h2)
  exfalso
  omega

theorem fc_dTidy (d : List DStep) (hd : DN 100000000000 d) (hl : d.length ≤ 100000000) (he : elS d ≤ 10000000000) : FC Try.prog 49 [VL 4 dstepT d] (app emp []) (.tup [VL 4 dstepT (tidyL d), VI (tidyE d)]) (app emp []) := by
 refine .go Try.f49 ?_
 refine .len 0 (fun hl0 => ?_)
 have hd4 := hd.mono (n := 400000000000) (by decide)
 refine .loop (α := Nat × Int × (List DStep) × (List Elem)) [.r [], .r [], .le (.nB 16 0 4), .le (.nB 16 1 3), .r [(1, X (Xl dstepT d))]] 50 (fun (i, y, o, x) => ([(4, .ptr 16 0), (8, VL 4 dstepT d), (9, VI (d.length : Int)), (10, VI (i : Int))], [(16, .box [.row 24 o.length, .row 25 x.length, VI y]), (24, OR 4 dstepT o), (25, OR 3 elemT x)])) (fun (i, y, o, x) => i ≤ d.length ∧ tidyG ⟨[], [], 0⟩ d = tidyG ⟨o, x, y⟩ (d.drop i) ∧ TB d i ⟨o, x, y⟩) (fun (i, y, o, x) => d.length - i) (0, 0, [], []) ?_ ?_
 ·
  exact ⟨by omega, rfl, TB.start d⟩
 rintro ⟨i, y, o, x⟩ I3 ih3
 try dsimp only at I3
 have b1 := I3.2.2.out
 have b2 := I3.2.2.add
 have b3 := I3.2.2.cut
 simp only at b1 b2 b3
 refine .br [.r []] (decide ((i : Int) < (d.length : Int))) (fun h3 => ?_) (fun h3 => ?_)
 ·
  (try simp only [decide_eq_true_eq, decide_eq_false_iff_not, Int.not_lt, Int.not_le] at h3)
  obtain ⟨e1, e2⟩ := elS_take (d := d) (i := i) (by omega)
  have hT := tidyG_at (d := d) (i := i) (by omega) ⟨o, x, y⟩
  obtain ⟨d1, d2, d3⟩ := hd4 _ (getD_mem' (l := d) (k := i) (by omega))
  obtain ⟨f1, f2⟩ := I3.2.2.flush (by omega) (by omega) (by omega)
  refine .br [.r [(0, X (Xi dstepT d (i : Int)))], .r [(1, X (Xc0 (fc_step ((d.getD i default))) X0))], .r [(5, Xv 1 ((((d.getD i default)).kind) == 1) X0), (6, Xv 1 ((((d.getD i default)).kind) == 1) (Xl elemT (((d.getD i default)).elems))), (7, Xv 1 ((((d.getD i default)).kind) == 1) X0), (8, X (Xk ((((d.getD i default)).kind) == 1))), (11, Xv 1 (((((d.getD i default)).kind) == 1) && (((((d.getD i default)).elems).length : Int) == 0)) X0), (12, X (Xk (((((d.getD i default)).kind) == 1) && (((((d.getD i default)).elems).length : Int) == 0)))), (15, Xv 1 (!((((((d.getD i default)).kind) == 1) && (((((d.getD i default)).elems).length : Int) == 0)) && ((stepD ((d.getD i default))) == 11))) X0), (16, Xv 1 (!((((((d.getD i default)).kind) == 1) && (((((d.getD i default)).elems).length : Int) == 0)) && ((stepD ((d.getD i default))) == 11))) X0), (17, Xv 1 (!((((((d.getD i default)).kind) == 1) && (((((d.getD i default)).elems).length : Int) == 0)) && ((stepD ((d.getD i default))) == 11))) X0), (19, Xv 1 ((!((((((d.getD i default)).kind) == 1) && (((((d.getD i default)).elems).length : Int) == 0)) && ((stepD ((d.getD i default))) == 11))) && ((((d.getD i default)).kind) != 1)) X0), (20, Xv 1 ((!((((((d.getD i default)).kind) == 1) && (((((d.getD i default)).elems).length : Int) == 0)) && ((stepD ((d.getD i default))) == 11))) && ((((d.getD i default)).kind) != 1)) X0), (21, Xka (!((((((d.getD i default)).kind) == 1) && (((((d.getD i default)).elems).length : Int) == 0)) && ((stepD ((d.getD i default))) == 11))) ((((d.getD i default)).kind) != 1)), (22, Xv 1 (!((((((d.getD i default)).kind) == 1) && (((((d.getD i default)).elems).length : Int) == 0)) && ((stepD ((d.getD i default))) == 11))) X0), (24, Xv 1 ((!((((((d.getD i default)).kind) == 1) && (((((d.getD i default)).elems).length : Int) == 0)) && ((stepD ((d.getD i default))) == 11))) && (((((d.getD i default)).kind) != 1) && ((((d.getD i default)).n) == 0))) X0), (25, Xka (!((((((d.getD i default)).kind) == 1) && (((((d.getD i default)).elems).length : Int) == 0)) && ((stepD ((d.getD i default))) == 11))) (((((d.getD i default)).kind) != 1) && ((((d.getD i default)).n) == 0))), (26, X (Xk' ((((((d.getD i default)).kind) == 1) && (((((d.getD i default)).elems).length : Int) == 0)) && ((stepD ((d.getD i default))) == 11))))]] (((((((d.getD i default)).kind) == 1) && (((((d.getD i default)).elems).length : Int) == 0)) && ((stepD ((d.getD i default))) == 11)) || ((((((d.getD i default)).kind) != 1) && ((((d.getD i default)).n) == 0)) && ((stepD ((d.getD i default))) == 2))) (fun h6 => ?_) (fun h6 => ?_)
  ·
   (try simp only [Bool.and_eq_true, Bool.and_eq_false_iff, Bool.not_eq_true', Bool.not_eq_false', Bool.or_eq_true, Bool.or_eq_false_iff, beq_iff_eq, beq_eq_false_iff_ne, ne_eq, bne_iff_ne, bne_eq_false_iff_eq] at h6)
   have hL : lenE (d.getD i default) = (chkA true (((d.getD i default)).attrs) 0) := by unfold lenE; first | rw [if_pos (by omega)] | rw [if_neg (by omega)]
   refine .br [.r [(2, X (Xc0 (fc_acheckChange (((d.getD i default)).attrs)) X0))], .r []] ((chkA true (((d.getD i default)).attrs) 0) != 0) (fun h8 => ?_) (fun h8 => ?_)
   ·
    (try simp only [bne_iff_ne, bne_eq_false_iff_eq, ne_eq] at h8)
    have e1 : ((tidyL d) : List DStep) = [] := by
     unfold tidyL
     rw [I3.2.1, hT, if_pos (by rw [hL]; exact h8)]
    have e2 : ((tidyE d) : Int) = (chkA true (((d.getD i default)).attrs) 0) := by
     unfold tidyE
     rw [I3.2.1, hT, if_pos (by rw [hL]; exact h8)]
     exact hL
    exact .finE [.r [], .le (.nL 2 4)] [] (fun (z0, z1) => (.tup [VL 4 dstepT z0, VI z1], [])) (([] : List DStep), ((chkA true (((d.getD i default)).attrs) 0) : Int)) (((tidyL d) : List DStep), ((tidyE d) : Int)) (pr e1 e2)
   ·
    (try simp only [bne_iff_ne, bne_eq_false_iff_eq, ne_eq] at h8)
    have hL0 : lenE (d.getD i default) = 0 := by rw [hL]; omega
    rw [if_neg (by rw [hL0]; decide)] at hT
    obtain ⟨hk, hn1, hn2⟩ := lenE_ok hL0
    have hN := I3.2.2.next (by omega) hd hL0
    clear h6
    refine .br [.r [], .r []] ((((d.getD i default)).kind) == 0) (fun h14 => ?_) (fun h14 => ?_)
    ·
     (try simp only [beq_iff_eq, beq_eq_false_iff_ne, ne_eq] at h14)
     by_cases hn0 : (d.getD i default).n = 0
     ·
      refine .back [.r [(4, X (Xc3 442 [(0, 16), (1, 24), (2, 25)] (fc_dKeep0 o x y (((d.getD i default)).n) (((d.getD i default)).attrs) (by assumption)) X0))], .r [(0, X (Xn ((i : Int) + 1)))]] [(16, 16), (24, 24), (25, 25)] (ih3 ((i + 1), y, o, x) ?_ ?_)
      ·
       have hW : tdW ⟨o, x, y⟩ (d.getD i default) = ⟨o, x, y⟩ := by unfold tdW; rw [if_pos h14, if_pos hn0]
       have hb : ¬ tdBad ⟨o, x, y⟩ (d.getD i default) := fun h => h.1 h14
       have hN2 := hN hb
       rw [if_neg hb] at hT
       rw [hW] at hT hN2
       exact ⟨by omega, I3.2.1.trans hT, hN2⟩
      ·
       ((try dsimp only); omega)
     ·
      refine .back [.r [(4, X (Xc3 442 [(0, 16), (1, 24), (2, 25)] (fc_dKeep o x y (((d.getD i default)).n) (((d.getD i default)).attrs) (by omega) (by first | omega | simp) (by omega) (by first | assumption | exact kbd (by assumption))) X0))], .r [(0, X (Xn ((i : Int) + 1)))]] [(16, 16), (24, 24), (442, 25)] (ih3 ((i + 1), 0, (keepD (flushD ⟨o, x, y⟩) (((d.getD i default)).n) (((d.getD i default)).attrs)), []) ?_ ?_)
      ·
       have hW : tdW ⟨o, x, y⟩ (d.getD i default) = ⟨keepD (flushD ⟨o, x, y⟩) (d.getD i default).n (d.getD i default).attrs, [], 0⟩ := by unfold tdW; rw [if_pos h14, if_neg hn0]
       have hb : ¬ tdBad ⟨o, x, y⟩ (d.getD i default) := fun h => h.1 h14
       have hN2 := hN hb
       rw [if_neg hb] at hT
       rw [hW] at hT hN2
       exact ⟨by omega, I3.2.1.trans hT, hN2⟩
      ·
       ((try dsimp only); omega)
    ·
     (try simp only [beq_iff_eq, beq_eq_false_iff_ne, ne_eq] at h14)
     refine .br [.r []] ((((d.getD i default)).kind) == 1) (fun h16 => ?_) (fun h16 => ?_)
     ·
      (try simp only [beq_iff_eq, beq_eq_false_iff_ne, ne_eq] at h16)
      have hz : True := trivial
      refine .back [.r [(2, X (Xc3 442 [(0, 16), (1, 24), (2, 25)] (fc_dElems o x y (((d.getD i default)).elems) (by assumption) (by omega)) X0))], .r [(0, X (Xn ((i : Int) + 1)))]] [(16, 16), (24, 24), (25, 25)] (ih3 ((i + 1), y, o, (x ++ (((d.getD i default)).elems))) ?_ ?_)
      ·
       have hW : tdW ⟨o, x, y⟩ (d.getD i default) = ⟨o, x ++ (d.getD i default).elems, y⟩ := by unfold tdW; rw [if_neg h14, if_pos h16]
       have hb : ¬ tdBad ⟨o, x, y⟩ (d.getD i default) := fun h => h.2.1 h16
       have hN2 := hN hb
       rw [if_neg hb] at hT
       rw [hW] at hT hN2
       exact ⟨by omega, I3.2.1.trans hT, hN2⟩
      ·
       ((try dsimp only); omega)
     ·
      (try simp only [beq_iff_eq, beq_eq_false_iff_ne, ne_eq] at h16)
      refine .br [.r [(4, X (Xn (y + (((d.getD i default)).n))))], .r []] (decide ((y + (((d.getD i default)).n)) > 2147483647)) (fun h12 => ?_) (fun h12 => ?_)
      ·
       (try simp only [decide_eq_true_eq, decide_eq_false_iff_not, Int.not_lt, Int.not_le, gt_iff_lt] at h12)
       refine .at 506 [(16, 16), (24, 24), (25, 25)] ([(4, .ptr 16 0), (8, VL 4 dstepT d), (9, VI (d.length : Int)), (10, VI (i : Int)), (59, VB (decide ((y + (((d.getD i default)).n)) > 2147483647)))], [(16, .box [.row 24 o.length, .row 25 x.length, VI (y + (((d.getD i default)).n))]), (24, OR 4 dstepT o), (25, OR 3 elemT x)]) ?_
       have e3 : ((tidyL d) : List DStep) = [] := by
        unfold tidyL
        rw [I3.2.1, hT, if_pos ⟨h14, h16, by simp only; omega⟩]
       have e4 : ((tidyE d) : Int) = 3 := by
        unfold tidyE
        rw [I3.2.1, hT, if_pos ⟨h14, h16, by simp only; omega⟩]
       exact .finE [.r [], .le (.nL 2 4)] [] (fun (z0, z1) => (.tup [VL 4 dstepT z0, VI z1], [])) (([] : List DStep), (3 : Int)) (((tidyL d) : List DStep), ((tidyE d) : Int)) (pr e3 e4)
      ·
       (try simp only [decide_eq_true_eq, decide_eq_false_iff_not, Int.not_lt, Int.not_le, gt_iff_lt] at h12)
       refine .at 506 [(16, 16), (24, 24), (25, 25)] ([(4, .ptr 16 0), (8, VL 4 dstepT d), (9, VI (d.length : Int)), (10, VI (i : Int)), (59, VB (decide ((y + (((d.getD i default)).n)) > 2147483647)))], [(16, .box [.row 24 o.length, .row 25 x.length, VI (y + (((d.getD i default)).n))]), (24, OR 4 dstepT o), (25, OR 3 elemT x)]) ?_
       refine .back [.r [(0, X (Xn ((i : Int) + 1)))]] [(16, 16), (24, 24), (25, 25)] (ih3 ((i + 1), (y + (((d.getD i default)).n)), o, x) ?_ ?_)
       ·
        have hW : tdW ⟨o, x, y⟩ (d.getD i default) = ⟨o, x, y + (d.getD i default).n⟩ := by unfold tdW; rw [if_neg h14, if_neg h16]
        have hb : ¬ tdBad ⟨o, x, y⟩ (d.getD i default) := fun h => by have := h.2.2; simp only at this; omega
        have hN2 := hN hb
        rw [if_neg hb] at hT
        rw [hW] at hT hN2
        exact ⟨by omega, I3.2.1.trans hT, hN2⟩
       ·
        ((try dsimp only); omega)
  ·
   (try simp only [Bool.and_eq_true, Bool.and_eq_false_iff, Bool.not_eq_true', Bool.not_eq_false', Bool.or_eq_true, Bool.or_eq_false_iff, beq_iff_eq, beq_eq_false_iff_ne, ne_eq, bne_iff_ne, bne_eq_false_iff_eq] at h6)
   have hL : lenE (d.getD i default) = (stepD ((d.getD i default))) := by unfold lenE; first | rw [if_pos (by omega)] | rw [if_neg (by omega)]
   refine .br [.r []] ((stepD ((d.getD i default))) != 0) (fun h8 => ?_) (fun h8 => ?_)
   ·
    (try simp only [bne_iff_ne, bne_eq_false_iff_eq, ne_eq] at h8)
    have e5 : ((tidyL d) : List DStep) = [] := by
     unfold tidyL
     rw [I3.2.1, hT, if_pos (by rw [hL]; exact h8)]
    have e6 : ((tidyE d) : Int) = (stepD ((d.getD i default))) := by
     unfold tidyE
     rw [I3.2.1, hT, if_pos (by rw [hL]; exact h8)]
     exact hL
    exact .finE [.r [], .le (.nL 2 4)] [] (fun (z0, z1) => (.tup [VL 4 dstepT z0, VI z1], [])) (([] : List DStep), ((stepD ((d.getD i default))) : Int)) (((tidyL d) : List DStep), ((tidyE d) : Int)) (pr e5 e6)
   ·
    (try simp only [bne_iff_ne, bne_eq_false_iff_eq, ne_eq] at h8)
    have hL0 : lenE (d.getD i default) = 0 := by rw [hL]; omega
    rw [if_neg (by rw [hL0]; decide)] at hT
    obtain ⟨hk, hn1, hn2⟩ := lenE_ok hL0
    have hN := I3.2.2.next (by omega) hd hL0
    clear h6
    refine .br [.r [], .r []] ((((d.getD i default)).kind) == 0) (fun h14 => ?_) (fun h14 => ?_)
    ·
     (try simp only [beq_iff_eq, beq_eq_false_iff_ne, ne_eq] at h14)
     by_cases hn0 : (d.getD i default).n = 0
     ·
      refine .back [.r [(4, X (Xc3 410 [(0, 16), (1, 24), (2, 25)] (fc_dKeep0 o x y (((d.getD i default)).n) (((d.getD i default)).attrs) (by assumption)) X0))], .r [(0, X (Xn ((i : Int) + 1)))]] [(16, 16), (24, 24), (25, 25)] (ih3 ((i + 1), y, o, x) ?_ ?_)
      ·
       have hW : tdW ⟨o, x, y⟩ (d.getD i default) = ⟨o, x, y⟩ := by unfold tdW; rw [if_pos h14, if_pos hn0]
       have hb : ¬ tdBad ⟨o, x, y⟩ (d.getD i default) := fun h => h.1 h14
       have hN2 := hN hb
       rw [if_neg hb] at hT
       rw [hW] at hT hN2
       exact ⟨by omega, I3.2.1.trans hT, hN2⟩
      ·
       ((try dsimp only); omega)
     ·
      refine .back [.r [(4, X (Xc3 410 [(0, 16), (1, 24), (2, 25)] (fc_dKeep o x y (((d.getD i default)).n) (((d.getD i default)).attrs) (by omega) (by first | omega | simp) (by omega) (by first | assumption | exact kbd (by assumption))) X0))], .r [(0, X (Xn ((i : Int) + 1)))]] [(16, 16), (24, 24), (410, 25)] (ih3 ((i + 1), 0, (keepD (flushD ⟨o, x, y⟩) (((d.getD i default)).n) (((d.getD i default)).attrs)), []) ?_ ?_)
      ·
       have hW : tdW ⟨o, x, y⟩ (d.getD i default) = ⟨keepD (flushD ⟨o, x, y⟩) (d.getD i default).n (d.getD i default).attrs, [], 0⟩ := by unfold tdW; rw [if_pos h14, if_neg hn0]
       have hb : ¬ tdBad ⟨o, x, y⟩ (d.getD i default) := fun h => h.1 h14
       have hN2 := hN hb
       rw [if_neg hb] at hT
       rw [hW] at hT hN2
       exact ⟨by omega, I3.2.1.trans hT, hN2⟩
      ·
       ((try dsimp only); omega)
    ·
     (try simp only [beq_iff_eq, beq_eq_false_iff_ne, ne_eq] at h14)
     refine .br [.r []] ((((d.getD i default)).kind) == 1) (fun h16 => ?_) (fun h16 => ?_)
     ·
      (try simp only [beq_iff_eq, beq_eq_false_iff_ne, ne_eq] at h16)
      have hz : True := trivial
      refine .back [.r [(2, X (Xc3 410 [(0, 16), (1, 24), (2, 25)] (fc_dElems o x y (((d.getD i default)).elems) (by assumption) (by omega)) X0))], .r [(0, X (Xn ((i : Int) + 1)))]] [(16, 16), (24, 24), (25, 25)] (ih3 ((i + 1), y, o, (x ++ (((d.getD i default)).elems))) ?_ ?_)
      ·
       have hW : tdW ⟨o, x, y⟩ (d.getD i default) = ⟨o, x ++ (d.getD i default).elems, y⟩ := by unfold tdW; rw [if_neg h14, if_pos h16]
       have hb : ¬ tdBad ⟨o, x, y⟩ (d.getD i default) := fun h => h.2.1 h16
       have hN2 := hN hb
       rw [if_neg hb] at hT
       rw [hW] at hT hN2
       exact ⟨by omega, I3.2.1.trans hT, hN2⟩
      ·
       ((try dsimp only); omega)
     ·
      (try simp only [beq_iff_eq, beq_eq_false_iff_ne, ne_eq] at h16)
      refine .br [.r [(4, X (Xn (y + (((d.getD i default)).n))))], .r []] (decide ((y + (((d.getD i default)).n)) > 2147483647)) (fun h12 => ?_) (fun h12 => ?_)
      ·
       (try simp only [decide_eq_true_eq, decide_eq_false_iff_not, Int.not_lt, Int.not_le, gt_iff_lt] at h12)
       refine .at 474 [(16, 16), (24, 24), (25, 25)] ([(4, .ptr 16 0), (8, VL 4 dstepT d), (9, VI (d.length : Int)), (10, VI (i : Int)), (59, VB (decide ((y + (((d.getD i default)).n)) > 2147483647)))], [(16, .box [.row 24 o.length, .row 25 x.length, VI (y + (((d.getD i default)).n))]), (24, OR 4 dstepT o), (25, OR 3 elemT x)]) ?_
       have e7 : ((tidyL d) : List DStep) = [] := by
        unfold tidyL
        rw [I3.2.1, hT, if_pos ⟨h14, h16, by simp only; omega⟩]
       have e8 : ((tidyE d) : Int) = 3 := by
        unfold tidyE
        rw [I3.2.1, hT, if_pos ⟨h14, h16, by simp only; omega⟩]
       exact .finE [.r [], .le (.nL 2 4)] [] (fun (z0, z1) => (.tup [VL 4 dstepT z0, VI z1], [])) (([] : List DStep), (3 : Int)) (((tidyL d) : List DStep), ((tidyE d) : Int)) (pr e7 e8)
      ·
       (try simp only [decide_eq_true_eq, decide_eq_false_iff_not, Int.not_lt, Int.not_le, gt_iff_lt] at h12)
       refine .at 474 [(16, 16), (24, 24), (25, 25)] ([(4, .ptr 16 0), (8, VL 4 dstepT d), (9, VI (d.length : Int)), (10, VI (i : Int)), (59, VB (decide ((y + (((d.getD i default)).n)) > 2147483647)))], [(16, .box [.row 24 o.length, .row 25 x.length, VI (y + (((d.getD i default)).n))]), (24, OR 4 dstepT o), (25, OR 3 elemT x)]) ?_
       refine .back [.r [(0, X (Xn ((i : Int) + 1)))]] [(16, 16), (24, 24), (25, 25)] (ih3 ((i + 1), (y + (((d.getD i default)).n)), o, x) ?_ ?_)
       ·
        have hW : tdW ⟨o, x, y⟩ (d.getD i default) = ⟨o, x, y + (d.getD i default).n⟩ := by unfold tdW; rw [if_neg h14, if_neg h16]
        have hb : ¬ tdBad ⟨o, x, y⟩ (d.getD i default) := fun h => by have := h.2.2; simp only at this; omega
        have hN2 := hN hb
        rw [if_neg hb] at hT
        rw [hW] at hT hN2
        exact ⟨by omega, I3.2.1.trans hT, hN2⟩
       ·
        ((try dsimp only); omega)
 ·
  (try simp only [decide_eq_true_eq, decide_eq_false_iff_not, Int.not_lt, Int.not_le] at h3)
  by_cases hck : checkD (flushD ⟨o, x, y⟩) = 0
  ·
   have hTe := tidyG_end (d := d) (i := i) (by omega) ⟨o, x, y⟩
   obtain ⟨f1, f2⟩ := I3.2.2.flush (by omega) (by omega) (by rw [List.take_of_length_le (by omega)]; omega)
   have e9 : ((tidyL d) : List DStep) = (flushD ⟨o, x, y⟩) := by
    unfold tidyL
    rw [I3.2.1, hTe, if_pos hck]
   have e10 : ((tidyE d) : Int) = 0 := by
    unfold tidyE
    rw [I3.2.1, hTe, if_pos hck]
   exact .finE [.r [(0, X (Xc3 58 [(0, 16), (1, 24), (2, 25)] (fc_dDone o x y (by omega) (by assumption) (by assumption)) X0))], .le (.fr 2 [(((flushD ⟨o, x, y⟩).length) : Nat) = (List.map dstepT (flushD ⟨o, x, y⟩)).length] ⟨lm, trivial⟩)] [] (fun (z0, z1) => (.tup [VL 4 dstepT z0, VI z1], [])) (((flushD ⟨o, x, y⟩) : List DStep), (0 : Int)) (((tidyL d) : List DStep), ((tidyE d) : Int)) (pr e9 e10)
  ·
   have hTe := tidyG_end (d := d) (i := i) (by omega) ⟨o, x, y⟩
   obtain ⟨f1, f2⟩ := I3.2.2.flush (by omega) (by omega) (by rw [List.take_of_length_le (by omega)]; omega)
   have e11 : ((tidyL d) : List DStep) = [] := by
    unfold tidyL
    rw [I3.2.1, hTe, if_neg hck]
   have e12 : ((tidyE d) : Int) = 3 := by
    unfold tidyE
    rw [I3.2.1, hTe, if_neg hck]
   exact .finE [.r [(0, X (Xc3 58 [(0, 16), (1, 24), (2, 25)] (fc_dDoneE o x y (by omega) (by assumption) (by assumption)) X0))]] [] (fun (z0, z1) => (.tup [VL 4 dstepT z0, VI z1], [])) (([] : List DStep), (3 : Int)) (((tidyL d) : List DStep), ((tidyE d) : Int)) (pr e11 e12)
end Go.Ch
end
section
set_option linter.unusedVariables false
set_option linter.unusedSimpArgs false
set_option maxRecDepth 100000
set_option maxHeartbeats 4000000
open Go Go.Proofs Go.Ab
namespace Go.Ch
theorem fc_deltas  : FC Try.prog 46 [] (app emp []) (VB true) (app emp []) := by
 refine .go Try.f46 ?_
 obtain ⟨p1, p2, p3, p4⟩ := probe_facts
 have p5 := probe_dn
 have p6 := ltr_an { data := #[97, 98] } 400000000000
 unfold probeD at *
 have e1 : ((true && (sameF (rawD (lettersL ({ data := #[97, 98] })) [({ kind := 1, n := 0, attrs := [], elems := (lettersL ({ data := #[120] })) } : DStep), ({ kind := 2, n := 1, attrs := [], elems := [] } : DStep), ({ kind := 0, n := 1, attrs := [], elems := [] } : DStep)]) (lettersL ({ data := #[120, 98] })))) : Bool) = true := by
  rw [p4]; simp
 exact .finE [.r [], .r [(0, X (Xc1 8 (fc_letters ({ data := #[97, 98] }) (by decide)) X0)), (1, X (Xc1 16 (fc_letters ({ data := #[120] }) (by decide)) X0)), (2, X (Xf [(2, 2)])), (3, X (Xf [(2, 2), (3, 3)])), (4, X (Xf [(2, 2), (3, 3)])), (6, X (Xc1 56 (fc_dApply (lettersL ({ data := #[97, 98] })) [({ kind := 1, n := 0, attrs := [], elems := (lettersL ({ data := #[120] })) } : DStep), ({ kind := 2, n := 1, attrs := [], elems := [] } : DStep), ({ kind := 0, n := 1, attrs := [], elems := [] } : DStep)] (by assumption) (by assumption) (by assumption) (by assumption) (by omega)) (rowC dstepT [({ kind := 1, n := 0, attrs := [], elems := (lettersL ({ data := #[120] })) } : DStep), ({ kind := 2, n := 1, attrs := [], elems := [] } : DStep), ({ kind := 0, n := 1, attrs := [], elems := [] } : DStep)] X0)))], .r [(4, Xg true (Xc1 136 (fc_letters ({ data := #[120, 98] }) (by decide)) X0)), (5, Xv 2 true (Xc0 (fc_sameFlow (rawD (lettersL ({ data := #[97, 98] })) [({ kind := 1, n := 0, attrs := [], elems := (lettersL ({ data := #[120] })) } : DStep), ({ kind := 2, n := 1, attrs := [], elems := [] } : DStep), ({ kind := 0, n := 1, attrs := [], elems := [] } : DStep)]) (lettersL ({ data := #[120, 98] }))) X0)), (6, X (Xk true))]] [] (fun z0 => (VB z0, [])) ((true && (sameF (rawD (lettersL ({ data := #[97, 98] })) [({ kind := 1, n := 0, attrs := [], elems := (lettersL ({ data := #[120] })) } : DStep), ({ kind := 2, n := 1, attrs := [], elems := [] } : DStep), ({ kind := 0, n := 1, attrs := [], elems := [] } : DStep)]) (lettersL ({ data := #[120, 98] })))) : Bool) (true : Bool) e1.symm

end Go.Ch
end
section
set_option linter.unusedVariables false
set_option linter.unusedSimpArgs false
set_option maxRecDepth 100000
set_option maxHeartbeats 4000000
open Go Go.Proofs Go.Ab
namespace Go.Ch
end Go.Ch
end
section
set_option linter.unusedVariables false
set_option linter.unusedSimpArgs false
set_option maxRecDepth 100000
set_option maxHeartbeats 4000000
open Go Go.Proofs Go.Ab
namespace Go.Ch
end Go.Ch
end
section
set_option linter.unusedVariables false
set_option linter.unusedSimpArgs false
set_option maxRecDepth 100000
set_option maxHeartbeats 4000000
open Go Go.Proofs Go.Ab
namespace Go.Ch
end Go.Ch
end
section
set_option linter.unusedVariables false
set_option linter.unusedSimpArgs false
set_option maxRecDepth 100000
set_option maxHeartbeats 4000000
open Go Go.Proofs Go.Ab
namespace Go.Ch
theorem fc_alike (x y : Elem) : FC Try.prog 140 [.t (elemT x), .t (elemT y)] (app emp []) (VB (alikeB x y)) (app emp []) := by
 refine .go Try.f140 ?_
 have e1 : ((alikeB x y) : Bool) = ((x.char == y.char) && (x.ref == y.ref)) := by
  rfl
 exact .finE [.r [], .r [(7, Xv 1 (x.char == y.char) X0), (9, Xv 1 (x.char == y.char) X0), (10, Xv 2 (x.char == y.char) X0), (11, X (Xk (x.char == y.char)))]] [] (fun z0 => (VB z0, [])) (((x.char == y.char) && (x.ref == y.ref)) : Bool) ((alikeB x y) : Bool) e1

theorem fc_price (x y : Elem) : FC Try.prog 141 [.t (elemT x), .t (elemT y)] (app emp []) (VI (priceI x y)) (app emp []) := by
 refine .go Try.f141 ?_
 refine .br [.r [], .r [(4, X (Xc0 (fc_attrSame x.attrs y.attrs) X0))]] (sameL x.attrs y.attrs) (fun h1 => ?_) (fun h1 => ?_)
 ·
  have e1 : ((priceI x y) : Int) = 0 := by
   unfold priceI; ((repeat' split) <;> first | rfl | omega | (simp_all; done) | (simp_all; omega))
  exact .finE [.r []] [] (fun z0 => (VI z0, [])) (0 : Int) ((priceI x y) : Int) e1
 ·
  have e2 : ((priceI x y) : Int) = 1 := by
   unfold priceI; ((repeat' split) <;> first | rfl | omega | (simp_all; done) | (simp_all; omega))
  exact .finE [.r []] [] (fun z0 => (VI z0, [])) (1 : Int) ((priceI x y) : Int) e2

theorem fc_table (a b : List Elem) (ha : a.length ≤ 1000000) (hb : b.length ≤ 1000000) : FC Try.prog 139 [VL 3 elemT a, VL 3 elemT b] (app emp []) (VL 1 intsT (tabL a b)) (app emp []) := by
 refine .go Try.f139 ?_
 refine .len 0 (fun hl0 => ?_)
 refine .len 1 (fun hl1 => ?_)
 refine .loop (α := Int × (List (List Int))) [.r [], .r [(1, X (Xl elemT a)), (2, X (Xn ((a.length : Int) + 1))), (3, X (Xmm intsT 32 ((a.length : Int) + 1) ((a.length : Int) + 1) ([] : (List Int)) [TN] ⟨tw_nil (by decide), trivial⟩))], .r [(1, X (Xl elemT a))]] 72 (fun (i, L) => ([(0, VL 3 elemT a), (1, VL 3 elemT b), (5, .mat 32), (6, VI i)], [(32, .mat false (List.map intsT L) none)])) (fun (i, L) => TO a b L i) (fun (i, L) => (i + 1).toNat) ((a.length : Int), (List.replicate (a.length + 1) ([] : (List Int)))) ?_ ?_
 ·
  exact TO.start a b
 rintro ⟨i, L⟩ I3 ih3
 replace I3 : TO a b L i := I3
 obtain ⟨i1, i2⟩ := I3.bd
 have Ll := I3.len
 refine .br [.r []] (decide (i ≥ 0)) (fun h3 => ?_) (fun h3 => ?_)
 ·
  (try simp only [decide_eq_true_eq, decide_eq_false_iff_not, Int.not_lt, Int.not_le, ge_iff_le] at h3)
  refine .loop (α := Int × (List Int)) [.r [(3, X (Xl elemT b)), (4, X (Xn ((b.length : Int) + 1))), (5, X (Xmk 1 intT 128 ((b.length : Int) + 1) ((b.length : Int) + 1) 0)), (6, X (Xmi intsT L i)), (7, X (Xms intsT L (Int.toNat i)))], .r [(1, X (Xl elemT b))]] 176 (fun (k, o) => ([(0, VL 3 elemT a), (1, VL 3 elemT b), (5, .mat 32), (6, VI i), (7, VI k)], [(32, .mat false (List.map intsT L) (some ((Int.toNat i), 128, (b.length + 1)))), (128, OR 1 intT o)])) (fun (k, o) => TI a b o i k) (fun (k, o) => (k + 1).toNat) ((b.length : Int), (List.replicate (b.length + 1) 0)) ?_ ?_
  ·
   exact TI.start a b i
  rintro ⟨k, o⟩ I7 ih7
  replace I7 : TI a b o i k := I7
  obtain ⟨k1, k2⟩ := I7.bd
  have ol := I7.len
  refine .br [.r []] (decide (k ≥ 0)) (fun h7 => ?_) (fun h7 => ?_)
  ·
   (try simp only [decide_eq_true_eq, decide_eq_false_iff_not, Int.not_lt, Int.not_le, ge_iff_le] at h7)
   refine .br [.r [(2, X (Xl elemT a))]] (i == (a.length : Int)) (fun h12 => ?_) (fun h12 => ?_)
   ·
    (try simp only [beq_iff_eq, beq_eq_false_iff_ne, ne_eq] at h12)
    refine .back [.r [(2, X (Xmi intsT L i)), (3, X (Xmh intsT L (Int.toNat i) (Int.toNat i))), (6, X (Xl elemT b)), (8, X (Xn ((b.length : Int) - k))), (9, X (Xpn (b.length + 1) intT o k)), (10, X (Xsn (b.length + 1) 1 intT 128 o (Int.toNat k) ((b.length : Int) - k)))], .r [(1, X (Xn (k - 1)))]] [(32, 32), (128, 128)] (ih7 ((k - 1), (o.set (Int.toNat k) ((b.length : Int) - k))) ?_ ?_)
    ·
     exact I7.next (by omega) (by rw [tabR, if_neg (by omega)]; omega)
    ·
     ((try dsimp only); omega)
   ·
    (try simp only [beq_iff_eq, beq_eq_false_iff_ne, ne_eq] at h12)
    refine .br [.r [(2, X (Xl elemT b))]] (k == (b.length : Int)) (fun h14 => ?_) (fun h14 => ?_)
    ·
     (try simp only [beq_iff_eq, beq_eq_false_iff_ne, ne_eq] at h14)
     refine .back [.r [(2, X (Xmi intsT L i)), (3, X (Xmh intsT L (Int.toNat i) (Int.toNat i))), (6, X (Xl elemT a)), (8, X (Xn ((a.length : Int) - i))), (9, X (Xpn (b.length + 1) intT o k)), (10, X (Xsn (b.length + 1) 1 intT 128 o (Int.toNat k) ((a.length : Int) - i)))], .r [(1, X (Xn (k - 1)))]] [(32, 32), (128, 128)] (ih7 ((k - 1), (o.set (Int.toNat k) ((a.length : Int) - i))) ?_ ?_)
     ·
      exact I7.next (by omega) (by rw [tabR, if_pos (by omega), if_neg (by omega)]; omega)
     ·
      ((try dsimp only); omega)
    ·
     (try simp only [beq_iff_eq, beq_eq_false_iff_ne, ne_eq] at h14)
     have hA := I3.below (by omega) (by omega)
     have hlA : (L.getD (Int.toNat (i + 1)) default).length = b.length + 1 := by rw [hA, rowT_len]
     have qA : ((L.getD (Int.toNat (i + 1)) default).getD (Int.toNat k) default) = tabR a b (i.toNat + 1) k.toNat := by rw [hA, rowT_at (by omega)]
     have qB := I7.right (by omega) (by omega)
     have qC : ((L.getD (Int.toNat (i + 1)) default).getD (Int.toNat (k + 1)) default) = tabR a b (i.toNat + 1) (k.toNat + 1) := by rw [hA, show Int.toNat (k + 1) = k.toNat + 1 by omega, rowT_at (by omega)]
     have dA := tab_bd' (a := a) (b := b) (i := i.toNat + 1) (k := k.toNat) (by omega) (by omega)
     have dB := tab_bd' (a := a) (b := b) (i := i.toNat) (k := k.toNat + 1) (by omega) (by omega)
     have dC := tab_bd' (a := a) (b := b) (i := i.toNat + 1) (k := k.toNat + 1) (by omega) (by omega)
     have dP := price_bd (a.getD i.toNat default) (b.getD k.toNat default)
     refine .br [.r [(2, X (Xmi intsT L i)), (3, X (Xmh intsT L (Int.toNat i) (Int.toNat i))), (7, X (Xn (i + 1))), (8, X (Xmi intsT L (i + 1))), (9, X (Xml' intsT L (Int.toNat (i + 1)) (Int.toNat i) 128 (b.length + 1))), (11, X (Xi intT (L.getD (Int.toNat (i + 1)) default) k)), (15, X (Xmi intsT L i)), (16, X (Xmh intsT L (Int.toNat i) (Int.toNat i))), (18, X (Xn (k + 1))), (19, X (Xpn (b.length + 1) intT o (k + 1))), (20, X (Xen (b.length + 1) intT o (Int.toNat (k + 1)))), (21, X (Xmin ((L.getD (Int.toNat (i + 1)) default).getD (Int.toNat k) default) (o.getD (Int.toNat (k + 1)) default))), (22, X (Xn (1 + (min ((L.getD (Int.toNat (i + 1)) default).getD (Int.toNat k) default) (o.getD (Int.toNat (k + 1)) default))))), (23, X (Xpn (b.length + 1) intT o k)), (24, X (Xsn (b.length + 1) 1 intT 128 o (Int.toNat k) (1 + (min ((L.getD (Int.toNat (i + 1)) default).getD (Int.toNat k) default) (o.getD (Int.toNat (k + 1)) default)))))], .r [(2, X (Xi elemT a i)), (6, X (Xi elemT b k)), (8, X (Xc0 (fc_alike ((a.getD (Int.toNat i) default)) ((b.getD (Int.toNat k) default))) X0))]] (alikeB ((a.getD (Int.toNat i) default)) ((b.getD (Int.toNat k) default))) (fun h10 => ?_) (fun h10 => ?_)
     ·
      have hS : ((o.set (Int.toNat k) (1 + (min ((L.getD (Int.toNat (i + 1)) default).getD (Int.toNat k) default) (o.getD (Int.toNat (k + 1)) default)))).getD (Int.toNat k) default) = (1 + (min ((L.getD (Int.toNat (i + 1)) default).getD (Int.toNat k) default) (o.getD (Int.toNat (k + 1)) default))) := getD_set_eq (by omega)
      refine .back [.r [(2, X (Xmi intsT L i)), (3, X (Xmh intsT L (Int.toNat i) (Int.toNat i))), (7, X (Xmi intsT L i)), (8, X (Xmh intsT L (Int.toNat i) (Int.toNat i))), (10, X (Xpn (b.length + 1) intT (o.set (Int.toNat k) (1 + (min ((L.getD (Int.toNat (i + 1)) default).getD (Int.toNat k) default) (o.getD (Int.toNat (k + 1)) default)))) k)), (11, X (Xen (b.length + 1) intT (o.set (Int.toNat k) (1 + (min ((L.getD (Int.toNat (i + 1)) default).getD (Int.toNat k) default) (o.getD (Int.toNat (k + 1)) default)))) (Int.toNat k))), (14, X (Xn (i + 1))), (15, X (Xmi intsT L (i + 1))), (16, X (Xml' intsT L (Int.toNat (i + 1)) (Int.toNat i) 128 (b.length + 1))), (18, X (Xn (k + 1))), (19, X (Xi intT (L.getD (Int.toNat (i + 1)) default) (k + 1))), (23, X (Xi elemT a i)), (27, X (Xi elemT b k)), (29, X (Xc0 (fc_price ((a.getD (Int.toNat i) default)) ((b.getD (Int.toNat k) default))) X0)), (30, X (Xn (((L.getD (Int.toNat (i + 1)) default).getD (Int.toNat (k + 1)) default) + (priceI ((a.getD (Int.toNat i) default)) ((b.getD (Int.toNat k) default)))))), (31, X (Xmin ((o.set (Int.toNat k) (1 + (min ((L.getD (Int.toNat (i + 1)) default).getD (Int.toNat k) default) (o.getD (Int.toNat (k + 1)) default)))).getD (Int.toNat k) default) (((L.getD (Int.toNat (i + 1)) default).getD (Int.toNat (k + 1)) default) + (priceI ((a.getD (Int.toNat i) default)) ((b.getD (Int.toNat k) default)))))), (32, X (Xpn (b.length + 1) intT (o.set (Int.toNat k) (1 + (min ((L.getD (Int.toNat (i + 1)) default).getD (Int.toNat k) default) (o.getD (Int.toNat (k + 1)) default)))) k)), (33, X (Xsn (b.length + 1) 1 intT 128 (o.set (Int.toNat k) (1 + (min ((L.getD (Int.toNat (i + 1)) default).getD (Int.toNat k) default) (o.getD (Int.toNat (k + 1)) default)))) (Int.toNat k) (min ((o.set (Int.toNat k) (1 + (min ((L.getD (Int.toNat (i + 1)) default).getD (Int.toNat k) default) (o.getD (Int.toNat (k + 1)) default)))).getD (Int.toNat k) default) (((L.getD (Int.toNat (i + 1)) default).getD (Int.toNat (k + 1)) default) + (priceI ((a.getD (Int.toNat i) default)) ((b.getD (Int.toNat k) default)))))))], .r [(1, X (Xn (k - 1)))]] [(32, 32), (128, 128)] (ih7 ((k - 1), ((o.set (Int.toNat k) (1 + (min ((L.getD (Int.toNat (i + 1)) default).getD (Int.toNat k) default) (o.getD (Int.toNat (k + 1)) default)))).set (Int.toNat k) (min ((o.set (Int.toNat k) (1 + (min ((L.getD (Int.toNat (i + 1)) default).getD (Int.toNat k) default) (o.getD (Int.toNat (k + 1)) default)))).getD (Int.toNat k) default) (((L.getD (Int.toNat (i + 1)) default).getD (Int.toNat (k + 1)) default) + (priceI ((a.getD (Int.toNat i) default)) ((b.getD (Int.toNat k) default))))))) ?_ ?_)
      ·
       rw [List.set_set]
       refine I7.next (by omega) ?_
       rw [hS, qA, qB, qC]
       conv => rhs; rw [tabR]
       rw [if_pos (by omega), if_pos (by omega), if_pos h10]
      ·
       ((try dsimp only); omega)
     ·
      refine .back [.r [(1, X (Xn (k - 1)))]] [(32, 32), (128, 128)] (ih7 ((k - 1), (o.set (Int.toNat k) (1 + (min ((L.getD (Int.toNat (i + 1)) default).getD (Int.toNat k) default) (o.getD (Int.toNat (k + 1)) default))))) ?_ ?_)
      ·
       refine I7.next (by omega) ?_
       rw [qA, qB]
       conv => rhs; rw [tabR]
       rw [if_pos (by omega), if_pos (by omega), if_neg (by rw [h10]; decide)]
      ·
       ((try dsimp only); omega)
  ·
   (try simp only [decide_eq_true_eq, decide_eq_false_iff_not, Int.not_lt, Int.not_le, ge_iff_le] at h7)
   refine .back [.le (.mc 32 (List.map intsT (L.set (Int.toNat i) o)) _ (mc_ok (f := intsT) (g := intT) (l := L) (x := o) (o := o) (q := (b.length + 1)) (i := (Int.toNat i)) (k := 1) (by first | rfl | omega) rfl)), .r [(1, X (Xn (i - 1)))]] [(32, 32)] (ih3 ((i - 1), (L.set (Int.toNat i) o)) ?_ ?_)
   ·
    exact I3.next (by omega) I7 (by omega)
   ·
    ((try dsimp only); omega)
 ·
  (try simp only [decide_eq_true_eq, decide_eq_false_iff_not, Int.not_lt, Int.not_le, ge_iff_le] at h3)
  have hL := I3.done (by omega)
  have e1 : ((tabL a b) : List (List Int)) = L := by
   rw [hL]
  exact .finE [.r [], .le (.mf 4)] [] (fun z0 => (VL 1 intsT z0, [])) (L : List (List Int)) ((tabL a b) : List (List Int)) e1
end Go.Ch
end
section
set_option linter.unusedVariables false
set_option linter.unusedSimpArgs false
namespace Go.Ch
open Go Go.Ab

def chgU (x y : Elem) : List Attr := fm chgG x.attrs y.attrs
def KeepP (a b : List Elem) (i k : Nat) : Prop := (i < a.length ∧ k < b.length) ∧ alikeB (a.getD i default) (b.getD k default) = true ∧ tabR a b i k = tabR a b (i + 1) (k + 1) + priceI (a.getD i default) (b.getD k default)
instance (a b : List Elem) (i k : Nat) : Decidable (KeepP a b i k) := by unfold KeepP; infer_instance
def CutP (a b : List Elem) (i k : Nat) : Prop := i < a.length ∧ (k = b.length ∨ tabR a b i k = 1 + tabR a b (i + 1) k)
instance (a b : List Elem) (i k : Nat) : Decidable (CutP a b i k) := by unfold CutP; infer_instance
def pathU (a b : List Elem) (i k : Nat) : List DU :=
  if h1 : KeepP a b i k then .K (chgU (a.getD i default) (b.getD k default)) :: pathU a b (i + 1) (k + 1)
  else if h2 : CutP a b i k then .C :: pathU a b (i + 1) k
  else if k < b.length then .A (b.getD k default) :: pathU a b i (k + 1)
  else []
termination_by (a.length - i) + (b.length - k)
decreasing_by
  · have := h1.1; omega
  · have := h2.1; omega
  · omega
theorem path_keep {a b : List Elem} {i k : Nat} (h : KeepP a b i k) : pathU a b i k = .K (chgU (a.getD i default) (b.getD k default)) :: pathU a b (i + 1) (k + 1) := by rw [pathU, dif_pos h]
theorem path_cut {a b : List Elem} {i k : Nat} (h : ¬ KeepP a b i k) (h2 : CutP a b i k) : pathU a b i k = .C :: pathU a b (i + 1) k := by rw [pathU, dif_neg h, dif_pos h2]
theorem path_add {a b : List Elem} {i k : Nat} (h : ¬ KeepP a b i k) (h2 : ¬ CutP a b i k) (h3 : k < b.length) : pathU a b i k = .A (b.getD k default) :: pathU a b i (k + 1) := by rw [pathU, dif_neg h, dif_neg h2, if_pos h3]
theorem path_end {a b : List Elem} {i k : Nat} (h : a.length ≤ i) (h3 : b.length ≤ k) : pathU a b i k = [] := by
  rw [pathU, dif_neg (fun q => by have := q.1; omega), dif_neg (fun q => by have := q.1; omega), if_neg (by omega)]
theorem ends_or {a b : List Elem} {i k : Nat} (hi : i ≤ a.length) (hk : k ≤ b.length) (h2 : ¬ CutP a b i k) (h : i < a.length ∨ k < b.length) : k < b.length := by
  refine Classical.byContradiction fun q => h2 ⟨by omega, .inl (by omega)⟩
def costU : List DU → Int
  | [] => 0
  | .K c :: u => (if 0 < c.length then 1 else 0) + costU u
  | .A _ :: u => 1 + costU u
  | .C :: u => 1 + costU u
theorem costU_app (u v : List DU) : costU (u ++ v) = costU u + costU v := by
  induction u with
  | nil => simp [costU]
  | cons x u ih => cases x <;> simp only [List.cons_append, costU, ih] <;> omega
theorem costU_sw {u v : List DU} (h : DSw u v) : costU u = costU v := by
  induction h with
  | refl u => rfl
  | cons x _ ih => cases x <;> simp only [costU, ih]
  | swap e u => simp only [costU]
  | symm _ ih => exact ih.symm
  | trans _ _ a b => exact a.trans b
/-! ### Keeping an element as another one -/
theorem chg_nil {x y : List Attr} (hx : VG false x) (hy : VG false y) : (0 < (fm chgG x y).length) ↔ sameL x y = false := by
  constructor
  · intro h
    cases hs : sameL x y with
    | false => rfl
    | true =>
      have := sameL_eq.1 hs
      subst this
      obtain ⟨z, hz⟩ : ∃ z, z ∈ fm chgG x x := List.exists_mem_of_length_pos h
      exact absurd rfl (between_differs np_mt vp_mt hx hx hz)
  · intro h
    refine Classical.byContradiction fun q => ?_
    have e : fm chgG x y = [] := List.length_eq_zero_iff.1 (by omega)
    have := between_leads np_mt vp_mt hx hy
    rw [e, raw_nil] at this
    rw [this, sameL_self] at h; cases h
theorem price_chg {x y : Elem} (hx : VG false x.attrs) (hy : VG false y.attrs) : (if 0 < (chgU x y).length then (1 : Int) else 0) = priceI x y := by
  unfold priceI chgU
  cases hs : sameL x.attrs y.attrs with
  | true => rw [if_neg (fun h => by have := (chg_nil hx hy).1 h; rw [hs] at this; cases this), if_pos rfl]
  | false => rw [if_pos ((chg_nil hx hy).2 hs), if_neg (by decide)]
theorem chg_as {x y : Elem} (ha : alikeB x y = true) (hx : VG false x.attrs) (hy : VG false y.attrs) : chgE (chgU x y) x = y := by
  unfold alikeB at ha
  simp only [Bool.and_eq_true, beq_iff_eq] at ha
  obtain ⟨xc, xr, xa⟩ := x
  obtain ⟨yc, yr, ya⟩ := y
  simp only at ha hx hy
  unfold chgE chgU
  simp only
  rw [between_leads np_mt vp_mt hx hy, ha.1, ha.2]
/-! ### The way -/
theorem tab_ends {a b : List Elem} {i : Nat} (hi : i ≤ a.length) : tabR a b i b.length = (a.length : Int) - i := by
  rw [tabR]
  by_cases h : i < a.length
  · rw [if_pos h, if_neg (by omega)]
  · rw [if_neg h]; omega
theorem tab_ende {a b : List Elem} {k : Nat} (hk : k ≤ b.length) : tabR a b a.length k = (b.length : Int) - k := by
  rw [tabR, if_neg (by omega)]
def AV (l : List Elem) : Prop := ∀ x ∈ l, VG false x.attrs
theorem AV.at_ {l : List Elem} (h : AV l) {i : Nat} (hi : i < l.length) : VG false (l.getD i default).attrs := h _ (getD_mem' hi)
theorem path_cost {a b : List Elem} (ha : AV a) (hb : AV b) : ∀ (n i k : Nat), (a.length - i) + (b.length - k) = n → i ≤ a.length → k ≤ b.length → costU (pathU a b i k) = tabR a b i k := by
  intro n
  induction n using Nat.strongRecOn with
  | _ n ih =>
    intro i k hn hi hk
    by_cases h1 : KeepP a b i k
    · rw [path_keep h1, costU, price_chg (ha.at_ h1.1.1) (hb.at_ h1.1.2), ih _ (by have := h1.1; omega) (i + 1) (k + 1) rfl (by have := h1.1; omega) (by have := h1.1; omega), h1.2.2]; omega
    · by_cases h2 : CutP a b i k
      · rw [path_cut h1 h2, costU, ih _ (by have := h2.1; omega) (i + 1) k rfl (by have := h2.1; omega) hk]
        rcases h2.2 with q | q
        · subst q
          rw [tab_ends (by have := h2.1; omega), tab_ends hi]; omega
        · exact q.symm
      · by_cases h3 : i < a.length ∨ k < b.length
        · have hk2 := ends_or hi hk h2 h3
          rw [path_add h1 h2 hk2, costU, ih _ (by omega) i (k + 1) rfl hi (by omega)]
          by_cases h4 : i < a.length
          · have hc : ¬ tabR a b i k = 1 + tabR a b (i + 1) k := fun q => h2 ⟨h4, .inr q⟩
            have e := tabR.eq_1 a b i k
            rw [if_pos h4, if_pos hk2] at e
            by_cases h5 : alikeB (a.getD i default) (b.getD k default) = true
            · rw [if_pos h5] at e
              have hq : ¬ tabR a b i k = tabR a b (i + 1) (k + 1) + priceI (a.getD i default) (b.getD k default) := fun q => h1 ⟨⟨h4, hk2⟩, h5, q⟩
              omega
            · rw [if_neg h5] at e; omega
          · have hi2 : i = a.length := by omega
            subst hi2
            rw [tab_ende (by omega), tab_ende hk]; omega
        · rw [path_end (by omega) (by omega), show k = b.length by omega, tab_ends hi]
          simp only [costU]; omega
theorem path_apply {a b : List Elem} (ha : AV a) (hb : AV b) : ∀ (n i k : Nat), (a.length - i) + (b.length - k) = n → i ≤ a.length → k ≤ b.length → applyU (pathU a b i k) (a.drop i) = b.drop k := by
  intro n
  induction n using Nat.strongRecOn with
  | _ n ih =>
    intro i k hn hi hk
    by_cases h1 : KeepP a b i k
    · rw [path_keep h1, dropD (l := a) h1.1.1, applyU, ih _ (by have := h1.1; omega) (i + 1) (k + 1) rfl (by have := h1.1; omega) (by have := h1.1; omega), dropD (l := b) h1.1.2, chg_as h1.2.1 (ha.at_ h1.1.1) (hb.at_ h1.1.2)]
    · by_cases h2 : CutP a b i k
      · rw [path_cut h1 h2, dropD (l := a) h2.1, applyU, ih _ (by have := h2.1; omega) (i + 1) k rfl (by have := h2.1; omega) hk]
      · by_cases h3 : i < a.length ∨ k < b.length
        · have hk2 := ends_or hi hk h2 h3
          rw [path_add h1 h2 hk2, applyU, ih _ (by omega) i (k + 1) rfl hi (by omega), dropD (l := b) hk2]
        · rw [path_end (by omega) (by omega), applyU, List.drop_eq_nil_of_le (by omega)]
theorem path_len {a b : List Elem} : ∀ (n i k : Nat), (a.length - i) + (b.length - k) = n → i ≤ a.length → k ≤ b.length → (pathU a b i k).length ≤ n := by
  intro n
  induction n using Nat.strongRecOn with
  | _ n ih =>
    intro i k hn hi hk
    by_cases h1 : KeepP a b i k
    · rw [path_keep h1]
      have := ih ((a.length - (i + 1)) + (b.length - (k + 1))) (by have := h1.1; omega) (i + 1) (k + 1) rfl (by have := h1.1; omega) (by have := h1.1; omega)
      simp only [List.length_cons]; have := h1.1; omega
    · by_cases h2 : CutP a b i k
      · rw [path_cut h1 h2]
        have := ih ((a.length - (i + 1)) + (b.length - k)) (by have := h2.1; omega) (i + 1) k rfl (by have := h2.1; omega) hk
        simp only [List.length_cons]; have := h2.1; omega
      · by_cases h3 : i < a.length ∨ k < b.length
        · have hk2 := ends_or hi hk h2 h3
          rw [path_add h1 h2 hk2]
          have := ih ((a.length - i) + (b.length - (k + 1))) (by omega) i (k + 1) rfl hi (by omega)
          simp only [List.length_cons]; omega
        · rw [path_end (by omega) (by omega)]; simp
theorem path_all {a b : List Elem} {Q : DU → Prop} (hK : ∀ i k, i < a.length → k < b.length → Q (.K (chgU (a.getD i default) (b.getD k default)))) (hA : ∀ k, k < b.length → Q (.A (b.getD k default))) (hC : Q .C) :
    ∀ (n i k : Nat), (a.length - i) + (b.length - k) = n → i ≤ a.length → k ≤ b.length → ∀ u ∈ pathU a b i k, Q u := by
  intro n
  induction n using Nat.strongRecOn with
  | _ n ih =>
    intro i k hn hi hk u hu
    by_cases h1 : KeepP a b i k
    · rw [path_keep h1] at hu
      rcases List.mem_cons.1 hu with rfl | hu
      · exact hK i k h1.1.1 h1.1.2
      · exact ih _ (by have := h1.1; omega) (i + 1) (k + 1) rfl (by have := h1.1; omega) (by have := h1.1; omega) u hu
    · by_cases h2 : CutP a b i k
      · rw [path_cut h1 h2] at hu
        rcases List.mem_cons.1 hu with rfl | hu
        · exact hC
        · exact ih _ (by have := h2.1; omega) (i + 1) k rfl (by have := h2.1; omega) hk u hu
      · by_cases h3 : i < a.length ∨ k < b.length
        · have hk2 := ends_or hi hk h2 h3
          rw [path_add h1 h2 hk2] at hu
          rcases List.mem_cons.1 hu with rfl | hu
          · exact hA k hk2
          · exact ih _ (by omega) i (k + 1) rfl hi (by omega) u hu
        · rw [path_end (by omega) (by omega)] at hu; cases hu
theorem alike_sym (x y : Elem) : alikeB x y = alikeB y x := by
  unfold alikeB
  rw [Bool.eq_iff_iff]; simp only [Bool.and_eq_true, beq_iff_eq]
  exact ⟨fun h => ⟨h.1.symm, h.2.symm⟩, fun h => ⟨h.1.symm, h.2.symm⟩⟩
theorem price_sym (x y : Elem) : priceI x y = priceI y x := by
  unfold priceI
  have : sameL x.attrs y.attrs = true ↔ sameL y.attrs x.attrs = true := by rw [sameL_eq, sameL_eq]; exact eq_comm
  by_cases h : sameL x.attrs y.attrs = true
  · rw [if_pos h, if_pos (this.1 h)]
  · rw [if_neg h, if_neg (fun q => h (this.2 q))]
theorem tab_sym (a b : List Elem) : ∀ (n i k : Nat), (a.length - i) + (b.length - k) = n → i ≤ a.length → k ≤ b.length → tabR a b i k = tabR b a k i := by
  intro n
  induction n using Nat.strongRecOn with
  | _ n ih =>
    intro i k hn hi hk
    by_cases h1 : i < a.length
    · by_cases h2 : k < b.length
      · rw [tabR, tabR.eq_1 b a k i, if_pos h1, if_pos h2, if_pos h2, if_pos h1, ih _ (by omega) (i + 1) k rfl (by omega) hk, ih _ (by omega) i (k + 1) rfl hi (by omega), ih _ (by omega) (i + 1) (k + 1) rfl (by omega) (by omega), alike_sym, price_sym]
        split <;> omega
      · rw [tabR, tabR.eq_1 b a k i, if_pos h1, if_neg h2, if_neg h2]
    · rw [tabR, tabR.eq_1 b a k i, if_neg h1]
      by_cases h2 : k < b.length
      · rw [if_pos h2, if_neg h1]
      · rw [if_neg h2]; omega
/-! ### With the ends tied -/
def TiedP (a b : List Elem) : Prop := ((0 < a.length ∧ 0 < b.length) ∧ (a.getD (a.length - 1) default).char = 10) ∧ (b.getD (b.length - 1) default).char = 10
instance (a b : List Elem) : Decidable (TiedP a b) := by unfold TiedP; infer_instance
def ini (a : List Elem) : List Elem := a.take (a.length - 1)
def lst (a : List Elem) : Elem := a.getD (a.length - 1) default
def diffU (a b : List Elem) : List DU := if TiedP a b then pathU (ini a) (ini b) 0 0 ++ [.K (chgU (lst a) (lst b))] else pathU a b 0 0
def costT (a b : List Elem) : Int := if TiedP a b then tabR (ini a) (ini b) 0 0 + priceI (lst a) (lst b) else tabR a b 0 0
theorem ini_lst {a : List Elem} (h : 0 < a.length) : a = ini a ++ [lst a] := by
  unfold ini lst
  conv => lhs; rw [← List.take_append_drop (a.length - 1) a]
  rw [dropD (show a.length - 1 < a.length by omega), List.drop_eq_nil_of_le (by omega)]
theorem ini_len {a : List Elem} : (ini a).length = a.length - 1 := by simp [ini]
theorem AV.ini {a : List Elem} (h : AV a) : AV (ini a) := fun x hx => h x (List.mem_of_mem_take hx)
theorem AV.lst {a : List Elem} (h : AV a) (hp : 0 < a.length) : VG false (lst a).attrs := h _ (getD_mem' (by omega))
theorem applyU_split : ∀ (u v : List DU) (l r : List Elem), oldN u = l.length → applyU (u ++ v) (l ++ r) = applyU u l ++ applyU v r
  | [], v, [], r, h => rfl
  | [], v, _ :: _, r, h => by simp [oldN] at h
  | .A e :: u, v, l, r, h => by simp only [List.cons_append, applyU]; rw [applyU_split u v l r (by simpa [oldN] using h)]
  | .K c :: u, v, [], r, h => by simp [oldN] at h
  | .C :: u, v, [], r, h => by simp [oldN] at h
  | .K c :: u, v, x :: l, r, h => by simp only [List.cons_append, applyU]; rw [applyU_split u v l r (by simpa [oldN] using h)]
  | .C :: u, v, x :: l, r, h => by simp only [List.cons_append, applyU]; rw [applyU_split u v l r (by simpa [oldN] using h)]
theorem path_old {a b : List Elem} : ∀ (n i k : Nat), (a.length - i) + (b.length - k) = n → i ≤ a.length → k ≤ b.length → oldN (pathU a b i k) = a.length - i := by
  intro n
  induction n using Nat.strongRecOn with
  | _ n ih =>
    intro i k hn hi hk
    by_cases h1 : KeepP a b i k
    · rw [path_keep h1, oldN, ih _ (by have := h1.1; omega) (i + 1) (k + 1) rfl (by have := h1.1; omega) (by have := h1.1; omega)]; have := h1.1; omega
      intro e h; cases h
    · by_cases h2 : CutP a b i k
      · rw [path_cut h1 h2, oldN, ih _ (by have := h2.1; omega) (i + 1) k rfl (by have := h2.1; omega) hk]; have := h2.1; omega
        intro e h; cases h
      · by_cases h3 : i < a.length ∨ k < b.length
        · have hk2 := ends_or hi hk h2 h3
          rw [path_add h1 h2 hk2, oldN, ih _ (by omega) i (k + 1) rfl hi (by omega)]
        · rw [path_end (by omega) (by omega), oldN]; omega
def costS (s : DStep) : Int := if s.kind = 1 then (s.elems.length : Int) else if s.kind = 2 ∨ 0 < s.attrs.length then s.n else 0
def costD : List DStep → Int
  | [] => 0
  | s :: l => costS s + costD l
theorem costU_As (e : List Elem) : costU (e.map .A) = e.length := by
  induction e with
  | nil => rfl
  | cons x e ih => simp only [List.map_cons, costU, ih, List.length_cons]; omega
theorem costU_Cs (n : Nat) : costU (List.replicate n .C) = n := by
  induction n with
  | zero => rfl
  | succ n ih => simp only [List.replicate_succ, costU, ih]; omega
theorem costU_Ks (n : Nat) (c : List Attr) : costU (List.replicate n (.K c)) = if 0 < c.length then (n : Int) else 0 := by
  induction n with
  | zero => simp [costU]
  | succ n ih => simp only [List.replicate_succ, costU, ih]; split <;> omega
theorem costS_ex {s : DStep} (h : DOk s) : costS s = costU (exS s) ∧ 0 ≤ costS s := by
  have hz := stepD_sz (step_iff.2 h)
  unfold costS exS
  by_cases k1 : s.kind = 1
  · rw [if_pos k1, if_pos k1, costU_As]; exact ⟨rfl, by omega⟩
  · rw [if_neg k1, if_neg k1]
    by_cases k2 : s.kind = 2
    · rw [if_pos (.inl k2), if_pos k2, costU_Cs]; omega
    · rw [if_neg k2, costU_Ks]
      by_cases h0 : 0 < s.attrs.length
      · rw [if_pos (.inr h0), if_pos h0]; omega
      · rw [if_neg (by rintro (q | q); exact k2 q; exact h0 q), if_neg h0]; omega
theorem costD_ex : ∀ {d : List DStep}, (∀ s ∈ d, DOk s) → costD d = costU (exD d)
  | [], _ => rfl
  | s :: d, h => by
    rw [costD, exD, costU_app, (costS_ex (h s (by simp))).1, costD_ex (d := d) (fun t ht => h t (by simp [ht]))]
theorem costD_step {d : List DStep} {i : Nat} (h : i < d.length) : costD (d.drop i) = costS (d.getD i default) + costD (d.drop (i + 1)) := by rw [dropD h, costD]
theorem costD_nn : ∀ {d : List DStep}, (∀ s ∈ d, DOk s) → 0 ≤ costD d
  | [], _ => Int.le_refl _
  | s :: d, h => by
    have := (costS_ex (h s (by simp))).2
    have := costD_nn (d := d) (fun t ht => h t (by simp [ht]))
    rw [costD]; omega
theorem diff_law {a b : List Elem} (pa : partE a 0 = 0) (pb : partE b 0 = 0) (na : AN 1000000000 a) (nb : AN 1000000000 b) (la : a.length ≤ 2000) (lb : b.length ≤ 2000) :
    tidyL ((diffU a b).map stepU) = doneD (diffU a b) ∧ tidyE ((diffU a b).map stepU) = 0 ∧ ((diffU a b).map stepU).length ≤ 5000 ∧ elS ((diffU a b).map stepU) ≤ 5000 ∧ DN 100000000000 ((diffU a b).map stepU) ∧
    DValid (doneD (diffU a b)) ∧ DN 400000000000 (doneD (diffU a b)) ∧ oldD (doneD (diffU a b)) = a.length ∧ rawD a (doneD (diffU a b)) = b ∧ costD (doneD (diffU a b)) = costT a b ∧ 0 ≤ costT a b ∧ costT a b ≤ (a.length : Int) + b.length ∧ costT a b = costT b a := by
  have va : AV a := fun x hx => elem_ok (part_iff.1 pa x hx)
  have vb : AV b := fun x hx => elem_ok (part_iff.1 pb x hx)
  have eb : ∀ x ∈ b, elemE x = 0 := part_iff.1 pb
  have chgl : ∀ x y : Elem, x.attrs.length ≤ 1000000000 → y.attrs.length ≤ 1000000000 → (chgU x y).length ≤ 4000000000 := fun x y h1 h2 => by
    have := fm_len' chgG x.attrs y.attrs; unfold chgU; omega
  -- the units
  have hu : ∀ u ∈ diffU a b, UnitOk u ∧ DN 100000000000 [stepU u] := by
    have kok : ∀ x y : Elem, VG false x.attrs → VG false y.attrs → x.attrs.length ≤ 1000000000 → y.attrs.length ≤ 1000000000 → UnitOk (.K (chgU x y)) ∧ DN 100000000000 [stepU (.K (chgU x y))] := fun x y h1 h2 h3 h4 => by
      have := chgl x y h3 h4
      refine ⟨⟨chg_V np_mt h1 h2, by omega⟩, fun s hs => ?_⟩
      rw [List.mem_singleton] at hs; subst hs
      exact ⟨by simp [stepU], by simp only [stepU]; omega, fun x hx => by cases hx⟩
    have aok : ∀ x : Elem, elemE x = 0 → x.attrs.length ≤ 1000000000 → UnitOk (.A x) ∧ DN 100000000000 [stepU (.A x)] := fun x h1 h2 => by
      refine ⟨⟨h1, by omega⟩, fun s hs => ?_⟩
      rw [List.mem_singleton] at hs; subst hs
      exact ⟨by simp [stepU], by simp [stepU], fun y hy => by rw [show y = x by simpa [stepU] using hy]; omega⟩
    have cok : UnitOk .C ∧ DN 100000000000 [stepU .C] := ⟨trivial, fun s hs => by
      rw [List.mem_singleton] at hs; subst hs
      exact ⟨by simp [stepU], by simp [stepU], fun y hy => by cases hy⟩⟩
    unfold diffU
    intro u hu
    split at hu
    · rename_i ht
      rcases List.mem_append.1 hu with hu | hu
      · refine path_all (Q := fun u => UnitOk u ∧ DN 100000000000 [stepU u]) (fun i k h1 h2 => kok _ _ (va.ini.at_ h1) (vb.ini.at_ h2) (na _ (List.mem_of_mem_take (getD_mem' h1))) (nb _ (List.mem_of_mem_take (getD_mem' h2)))) (fun k h => aok _ (eb _ (List.mem_of_mem_take (getD_mem' h))) (nb _ (List.mem_of_mem_take (getD_mem' h)))) cok _ 0 0 rfl (Nat.zero_le _) (Nat.zero_le _) u hu
      · rw [List.mem_singleton] at hu; subst hu
        exact kok _ _ (va.lst ht.1.1.1) (vb.lst ht.1.1.2) (na _ (getD_mem' (by have := ht.1.1.1; omega))) (nb _ (getD_mem' (by have := ht.1.1.2; omega)))
    · exact path_all (Q := fun u => UnitOk u ∧ DN 100000000000 [stepU u]) (fun i k h1 h2 => kok _ _ (va.at_ h1) (vb.at_ h2) (na _ (getD_mem' h1)) (nb _ (getD_mem' h2))) (fun k h => aok _ (eb _ (getD_mem' h)) (nb _ (getD_mem' h))) cok _ 0 0 rfl (Nat.zero_le _) (Nat.zero_le _) u hu
  -- lengths
  have hl : (diffU a b).length ≤ 4001 := by
    unfold diffU
    split
    · have := path_len (a := ini a) (b := ini b) _ 0 0 rfl (Nat.zero_le _) (Nat.zero_le _)
      rw [ini_len, ini_len] at this
      rw [List.length_append]; simp only [List.length_singleton]; omega
    · have := path_len (a := a) (b := b) _ 0 0 rfl (Nat.zero_le _) (Nat.zero_le _); omega
  -- what it does
  have hap : applyU (diffU a b) a = b ∧ oldN (diffU a b) = a.length := by
    unfold diffU
    by_cases ht : TiedP a b
    · rw [if_pos ht]
      have e1 := path_apply va.ini vb.ini _ 0 0 rfl (Nat.zero_le _) (Nat.zero_le _)
      have o1 := path_old (a := ini a) (b := ini b) _ 0 0 rfl (Nat.zero_le _) (Nat.zero_le _)
      rw [List.drop_zero, List.drop_zero] at e1
      constructor
      · have key := applyU_split (pathU (ini a) (ini b) 0 0) [.K (chgU (lst a) (lst b))] (ini a) [lst a] (by omega)
        rw [← ini_lst ht.1.1.1] at key
        rw [key, e1]
        have hal : alikeB (lst a) (lst b) = true := by
          have w1 := part_iff.1 pa (lst a) (getD_mem' (by have := ht.1.1.1; omega))
          have w2 := part_iff.1 pb (lst b) (getD_mem' (by have := ht.1.1.2; omega))
          have c1 : (lst a).char = 10 := ht.1.2
          have c2 : (lst b).char = 10 := ht.2
          have r : ∀ x : Elem, elemE x = 0 → x.char = 10 → x.ref = 0 := fun x hx hc => by
            unfold elemE at hx
            split at hx
            · omega
            · rename_i q
              exact Classical.byContradiction fun hr => q ⟨fun e => by omega, fun e => absurd e hr⟩
          unfold alikeB
          rw [c1, c2, r _ w1 c1, r _ w2 c2]; rfl
        simp only [applyU]
        rw [chg_as hal (va.lst ht.1.1.1) (vb.lst ht.1.1.2)]
        exact (ini_lst ht.1.1.2).symm
      · rw [oldN_app, o1, ini_len]; simp only [oldN]; have := ht.1.1.1; omega
    · rw [if_neg ht]
      have e1 := path_apply va vb _ 0 0 rfl (Nat.zero_le _) (Nat.zero_le _)
      have o1 := path_old (a := a) (b := b) _ 0 0 rfl (Nat.zero_le _) (Nat.zero_le _)
      rw [List.drop_zero, List.drop_zero] at e1
      exact ⟨e1, by omega⟩
  -- what it costs
  have hco : costU (diffU a b) = costT a b := by
    unfold diffU costT
    split
    · rename_i ht
      rw [costU_app, path_cost va.ini vb.ini _ 0 0 rfl (Nat.zero_le _) (Nat.zero_le _), costU, price_chg (va.lst ht.1.1.1) (vb.lst ht.1.1.2), costU]; omega
    · rw [path_cost va vb _ 0 0 rfl (Nat.zero_le _) (Nat.zero_le _)]
  have hcb : 0 ≤ costT a b ∧ costT a b ≤ (a.length : Int) + b.length := by
    unfold costT
    split
    · rename_i ht
      have := tab_bd' (a := ini a) (b := ini b) (i := 0) (k := 0) (Nat.zero_le _) (Nat.zero_le _)
      rw [ini_len, ini_len] at this
      have p := price_bd (lst a) (lst b)
      have := ht.1.1; omega
    · exact tab_bd' (Nat.zero_le _) (Nat.zero_le _)
  have hcs : costT a b = costT b a := by
    unfold costT
    by_cases ht : TiedP a b
    · rw [if_pos ht, if_pos ⟨⟨⟨ht.1.1.2, ht.1.1.1⟩, ht.2⟩, ht.1.2⟩, tab_sym _ _ _ 0 0 rfl (Nat.zero_le _) (Nat.zero_le _), price_sym]
    · rw [if_neg ht, if_neg (fun q => ht ⟨⟨⟨q.1.1.2, q.1.1.1⟩, q.2⟩, q.1.2⟩), tab_sym _ _ _ 0 0 rfl (Nat.zero_le _) (Nat.zero_le _)]
  have hok : ∀ u ∈ diffU a b, UnitOk u := fun u h => (hu u h).1
  obtain ⟨t1, t2⟩ := tidy_units hok (by omega)
  have hn : oldN (diffU a b) ≤ (diffU a b).length ∧ newN (diffU a b) ≤ (diffU a b).length := by
    have : ∀ us : List DU, oldN us ≤ us.length ∧ newN us ≤ us.length := by
      intro us
      induction us with
      | nil => exact ⟨Nat.le_refl _, Nat.le_refl _⟩
      | cons u us ih => cases u <;> simp only [oldN, newN, List.length_cons] <;> omega
    exact this _
  obtain ⟨d1, d2, d3, d4⟩ := doneD_ok hok (by omega) (by omega)
  obtain ⟨m1, m2, _⟩ := units_map hok
  have hfl := (DI.start hok (by omega)).all.fl.2
  refine ⟨t1, t2, by omega, by omega, fun s hs => ?_, d1, hfl, by rw [d3, hap.2], ?_, ?_, hcb.1, hcb.2, hcs⟩
  · obtain ⟨u, h, rfl⟩ := List.mem_map.1 hs
    exact (hu u h).2 _ (by simp)
  · unfold rawD; rw [sw_applyU d2]; exact hap.1
  · rw [costD_ex d1.1.all, costU_sw d2, hco]
end Go.Ch
namespace Go.Ch
open Go Go.Ab
theorem tab_at {a b : List Elem} {i k : Nat} (hi : i ≤ a.length) (hk : k ≤ b.length) : ((tabL a b).getD i default).getD k default = tabR a b i k := by rw [tabL_at hi, rowT_at hk]
theorem row_len {a b : List Elem} {i : Nat} (hi : i ≤ a.length) : ((tabL a b).getD i default).length = b.length + 1 := by rw [tabL_at hi, rowT_len]
theorem one_at {l : List Elem} {k : Nat} (h : k < l.length) : (l.take (k + 1)).drop k = [l.getD k default] := by
  rw [List.take_succ_eq_append_getElem h, List.drop_append, List.drop_eq_nil_of_le (by simp; omega)]
  simp [show k - min k l.length = 0 by omega, List.getD, List.getElem?_eq_getElem h]
end Go.Ch
namespace Go.Ch
open Go Go.Ab
theorem ini_mem {a : List Elem} {x : Elem} (h : x ∈ ini a) : x ∈ a := List.mem_of_mem_take h
end Go.Ch
end
section
set_option linter.unusedVariables false
set_option linter.unusedSimpArgs false
set_option maxRecDepth 100000
set_option maxHeartbeats 4000000
open Go Go.Proofs Go.Ab
namespace Go.Ch
theorem fc_cost (d : List DStep) (hv : DValid d) (hd : DN 400000000000 d) (hc : costD d ≤ 1000000000000) : FC Try.prog 62 [VL 4 dstepT d] (app emp []) (.tup [VI (costD d), VI 0]) (app emp []) := by
 refine .go Try.f62 ?_
 refine .len 0 (fun hl0 => ?_)
 have ck := checkD_iff.2 hv
 refine .br [.r [], .r [(1, X (Xc0 (fc_dCheck d (by assumption)) X0))], .r []] ((checkD d) != 0) (fun h2 => ?_) (fun h2 => ?_)
 ·
  (try simp only [bne_iff_ne, bne_eq_false_iff_eq, ne_eq] at h2)
  exfalso
  omega
 ·
  (try simp only [bne_iff_ne, bne_eq_false_iff_eq, ne_eq] at h2)
  refine .loop (α := Int × Nat) [.r [], .r [(1, X (Xl dstepT d))]] 88 (fun (n, i) => ([(5, VI n), (13, VL 4 dstepT d), (14, VI (d.length : Int)), (15, VI (i : Int))], [])) (fun (n, i) => i ≤ d.length ∧ 0 ≤ n ∧ n + costD (d.drop i) = costD d) (fun (n, i) => d.length - i) (0, 0) ?_ ?_
  ·
   exact ⟨by omega, by decide, by simp⟩
  rintro ⟨n, i⟩ I6 ih6
  try dsimp only at I6
  refine .br [.r []] (decide ((i : Int) < (d.length : Int))) (fun h6 => ?_) (fun h6 => ?_)
  ·
   (try simp only [decide_eq_true_eq, decide_eq_false_iff_not, Int.not_lt, Int.not_le] at h6)
   have hs := costD_step (d := d) (i := i) (by omega)
   have hok := hv.1.all _ (getD_mem' (l := d) (k := i) (by omega))
   have hcs := (costS_ex hok).2
   have hnn := costD_nn (d := d.drop (i + 1)) (fun s h => hv.1.all s (List.mem_of_mem_drop h))
   refine .br [.r [(0, X (Xi dstepT d (i : Int)))], .r []] ((((d.getD i default)).kind) == 1) (fun h8 => ?_) (fun h8 => ?_)
   ·
    (try simp only [beq_iff_eq, beq_eq_false_iff_ne, ne_eq] at h8)
    have hce : costS (d.getD i default) = (d.getD i default).elems.length := by unfold costS; rw [if_pos h8]
    refine .back [.r [(3, X (Xl elemT (((d.getD i default)).elems))), (4, X (Xn (n + ((((d.getD i default)).elems).length : Int))))], .r [(0, X (Xn ((i : Int) + 1)))]] [] (ih6 ((n + ((((d.getD i default)).elems).length : Int)), (i + 1)) ?_ ?_)
    ·
     exact ⟨by omega, by omega, by omega⟩
    ·
     ((try dsimp only); omega)
   ·
    (try simp only [beq_iff_eq, beq_eq_false_iff_ne, ne_eq] at h8)
    refine .br [.r [(5, Xv 1 (!((((d.getD i default)).kind) == 2)) X0), (6, Xv 1 (!((((d.getD i default)).kind) == 2)) (Xl attrT (((d.getD i default)).attrs))), (7, Xv 1 (!((((d.getD i default)).kind) == 2)) X0), (8, X (Xk' ((((d.getD i default)).kind) == 2)))]] (((((d.getD i default)).kind) == 2) || decide (((((d.getD i default)).attrs).length : Int) > 0)) (fun h10 => ?_) (fun h10 => ?_)
    ·
     (try simp only [decide_eq_true_eq, decide_eq_false_iff_not, Int.not_lt, Int.not_le, gt_iff_lt, Bool.or_eq_true, Bool.or_eq_false_iff, beq_iff_eq, beq_eq_false_iff_ne, ne_eq] at h10)
     have hce : costS (d.getD i default) = (d.getD i default).n := by unfold costS; rw [if_neg h8, if_pos (by omega)]
     refine .back [.r [(3, X (Xn (n + (((d.getD i default)).n))))], .r [(0, X (Xn ((i : Int) + 1)))]] [] (ih6 ((n + (((d.getD i default)).n)), (i + 1)) ?_ ?_)
     ·
      exact ⟨by omega, by omega, by omega⟩
     ·
      ((try dsimp only); omega)
    ·
     (try simp only [decide_eq_true_eq, decide_eq_false_iff_not, Int.not_lt, Int.not_le, gt_iff_lt, Bool.or_eq_true, Bool.or_eq_false_iff, beq_iff_eq, beq_eq_false_iff_ne, ne_eq] at h10)
     refine .back [.r [(0, X (Xn ((i : Int) + 1)))]] [] (ih6 (n, (i + 1)) ?_ ?_)
     ·
      have hce : costS (d.getD i default) = 0 := by unfold costS; rw [if_neg h8, if_neg (by omega)]
      exact ⟨by omega, by omega, by omega⟩
     ·
      ((try dsimp only); omega)
  ·
   (try simp only [decide_eq_true_eq, decide_eq_false_iff_not, Int.not_lt, Int.not_le] at h6)
   have hE := I6.2.2
   rw [List.drop_eq_nil_of_le (by omega)] at hE
   simp only [costD] at hE
   have e1 : ((costD d) : Int) = n := by
    omega
   exact .finE [.r []] [] (fun z0 => (.tup [VI z0, VI 0], [])) (n : Int) ((costD d) : Int) e1

theorem fc_diffRaw (a b : List Elem) (pa : partE a 0 = 0) (pb : partE b 0 = 0) (na : AN 1000000000 a) (nb : AN 1000000000 b) (la : a.length ≤ 2000) (lb : b.length ≤ 2000) : FC Try.prog 116 [VL 3 elemT a, VL 3 elemT b] (app emp []) (VL 4 dstepT (doneD (diffU a b))) (app emp []) := by
 refine .go Try.f116 ?_
 refine .len 0 (fun hl0 => ?_)
 refine .len 1 (fun hl1 => ?_)
 obtain ⟨t1, t2, t3, t4, t5, _⟩ := diff_law pa pb na nb la lb
 refine .br [.r [], .r [(1, X (Xl elemT a)), (5, Xv 1 (decide ((a.length : Int) > 0)) (Xl elemT b)), (6, Xv 1 (decide ((a.length : Int) > 0)) X0), (7, X (Xk (decide ((a.length : Int) > 0)))), (11, Xv 1 (decide ((a.length : Int) > 0) && decide ((b.length : Int) > 0)) (Xl elemT a)), (12, Xv 1 (decide ((a.length : Int) > 0) && decide ((b.length : Int) > 0)) (Xn ((a.length : Int) - 1))), (13, Xv 2 (decide ((a.length : Int) > 0) && decide ((b.length : Int) > 0)) (Xi' elemT a ((a.length : Int) - 1) (a.length - 1)) (fun hg => by (try simp only [decide_eq_true_eq, decide_eq_false_iff_not, Int.not_lt, Int.not_le, gt_iff_lt, Bool.and_eq_true, Bool.and_eq_false_iff, Bool.not_eq_true', Bool.not_eq_false'] at hg); exact ⟨(by omega), (by omega)⟩)), (14, Xv 1 (decide ((a.length : Int) > 0) && decide ((b.length : Int) > 0)) X0), (15, Xv 1 (decide ((a.length : Int) > 0) && decide ((b.length : Int) > 0)) X0), (16, Xv 1 (decide ((a.length : Int) > 0) && decide ((b.length : Int) > 0)) X0), (17, X (Xk (decide ((a.length : Int) > 0) && decide ((b.length : Int) > 0)))), (21, Xv 1 ((decide ((a.length : Int) > 0) && decide ((b.length : Int) > 0)) && ((((a.getD (a.length - 1) default)).char) == 10)) (Xl elemT b)), (22, Xv 1 ((decide ((a.length : Int) > 0) && decide ((b.length : Int) > 0)) && ((((a.getD (a.length - 1) default)).char) == 10)) (Xn ((b.length : Int) - 1))), (23, Xv 2 ((decide ((a.length : Int) > 0) && decide ((b.length : Int) > 0)) && ((((a.getD (a.length - 1) default)).char) == 10)) (Xi' elemT b ((b.length : Int) - 1) (b.length - 1)) (fun hg => by (try simp only [decide_eq_true_eq, decide_eq_false_iff_not, Int.not_lt, Int.not_le, gt_iff_lt, Bool.and_eq_true, Bool.and_eq_false_iff, Bool.not_eq_true', Bool.not_eq_false', beq_iff_eq, beq_eq_false_iff_ne, ne_eq] at hg); exact ⟨(by omega), (by omega)⟩)), (24, Xv 1 ((decide ((a.length : Int) > 0) && decide ((b.length : Int) > 0)) && ((((a.getD (a.length - 1) default)).char) == 10)) X0), (25, Xv 1 ((decide ((a.length : Int) > 0) && decide ((b.length : Int) > 0)) && ((((a.getD (a.length - 1) default)).char) == 10)) X0), (26, Xv 1 ((decide ((a.length : Int) > 0) && decide ((b.length : Int) > 0)) && ((((a.getD (a.length - 1) default)).char) == 10)) X0), (27, X (Xk ((decide ((a.length : Int) > 0) && decide ((b.length : Int) > 0)) && ((((a.getD (a.length - 1) default)).char) == 10))))], .r [], .r []] (((decide ((a.length : Int) > 0) && decide ((b.length : Int) > 0)) && ((((a.getD (a.length - 1) default)).char) == 10)) && ((((b.getD (b.length - 1) default)).char) == 10)) (fun h3 => ?_) (fun h3 => ?_)
 ·
  (try simp only [decide_eq_true_eq, decide_eq_false_iff_not, Int.not_lt, Int.not_le, gt_iff_lt, Bool.and_eq_true, Bool.and_eq_false_iff, Bool.not_eq_true', Bool.not_eq_false', beq_iff_eq, beq_eq_false_iff_ne, ne_eq] at h3)
  have na1 := na _ (getD_mem' (l := a) (k := a.length - 1) (by omega))
  have nb1 := nb _ (getD_mem' (l := b) (k := b.length - 1) (by omega))
  have il := ini_len (a := a)
  have jl := ini_len (a := b)
  have hD : diffU a b = (if TiedP a b then pathU (ini a) (ini b) 0 0 ++ [.K (chgU (lst a) (lst b))] else pathU a b 0 0) := rfl
  first
  | rw [if_pos ⟨⟨⟨by omega, by omega⟩, h3.1.2⟩, h3.2⟩] at hD
  | rw [if_neg (by rintro ⟨⟨⟨q1, q2⟩, q3⟩, q4⟩; rcases h3 with ((h | h) | h) | h; (omega); (omega); (exact h q3); (exact h q4))] at hD
  have lT := tabL_len (ini a) (ini b)
  refine .loop (α := Nat × Nat × (List DStep)) [.r [(2, X (Xl elemT a)), (3, X (Xn ((a.length : Int) - 1))), (4, X (Xi' elemT a ((a.length : Int) - 1) (a.length - 1))), (8, X (Xl elemT b)), (9, X (Xn ((b.length : Int) - 1))), (10, X (Xi' elemT b ((b.length : Int) - 1) (b.length - 1)))], .r [(4, X (Xc1 416 (fc_change (((a.getD (a.length - 1) default)).attrs) (((b.getD (b.length - 1) default)).attrs) (by omega)) X0)), (5, X (Xf [(3, 3)]))], .r [(2, X (Xl elemT a)), (3, X (Xn ((a.length : Int) - 1))), (4, X (Xst elemT 3 a ((a.length : Int) - 1))), (7, X (Xl elemT b)), (8, X (Xn ((b.length : Int) - 1))), (9, X (Xst elemT 3 b ((b.length : Int) - 1)))], .le (.eq 0 (VL 3 elemT (a.take (Int.toNat ((a.length : Int) - 1)))) (VL 3 elemT (ini a)) (.of_eq (by unfold ini; rw [show Int.toNat ((a.length : Int) - 1) = a.length - 1 by omega]))), .le (.eq 1 (VL 3 elemT (b.take (Int.toNat ((b.length : Int) - 1)))) (VL 3 elemT (ini b)) (.of_eq (by unfold ini; rw [show Int.toNat ((b.length : Int) - 1) = b.length - 1 by omega]))), .r [(2, X (Xc1 560 (fc_table (ini a) (ini b) (by omega) (by omega)) X0))], .r [], .r [], .le (.nR 10 4)] 601 (fun (i, k, o) => ([(0, VL 3 elemT (ini a)), (1, VL 3 elemT (ini b)), (6, .row 432 1), (9, VL 1 intsT (tabL (ini a) (ini b))), (10, .row 600 o.length), (11, VI (i : Int)), (12, VI (k : Int))], [(432, OR 4 dstepT [({ kind := 0, n := 1, attrs := (fm chgG (((a.getD (a.length - 1) default)).attrs) (((b.getD (b.length - 1) default)).attrs)), elems := [] } : DStep)]), (600, OR 4 dstepT o)])) (fun (i, k, o) => (i ≤ ((ini a)).length ∧ k ≤ ((ini b)).length) ∧ o ++ (pathU (ini a) (ini b) i k).map stepU = (pathU (ini a) (ini b) 0 0).map stepU ∧ o.length ≤ i + k) (fun (i, k, o) => (((ini a)).length - i) + (((ini b)).length - k)) (0, 0, []) ?_ ?_
  ·
   exact ⟨⟨by omega, by omega⟩, rfl, by simp⟩
  rintro ⟨i, k, o⟩ I10 ih10
  try dsimp only at I10
  refine .br [.r [(2, X (Xl elemT (ini a))), (7, Xv 1 (!(decide ((i : Int) < ((ini a).length : Int)))) (Xl elemT (ini b))), (8, Xv 2 (!(decide ((i : Int) < ((ini a).length : Int)))) X0), (9, X (Xk' (decide ((i : Int) < ((ini a).length : Int)))))]] (decide ((i : Int) < ((ini a).length : Int)) || decide ((k : Int) < ((ini b).length : Int))) (fun h10 => ?_) (fun h10 => ?_)
  ·
   (try simp only [decide_eq_true_eq, decide_eq_false_iff_not, Int.not_lt, Int.not_le, Bool.or_eq_true, Bool.or_eq_false_iff] at h10)
   have r0 := row_len (a := (ini a)) (b := (ini b)) (i := i) I10.1.1
   have r1 := fun h : i + 1 ≤ ((ini a)).length => row_len (a := (ini a)) (b := (ini b)) (i := i + 1) h
   have v0 := tab_at (a := (ini a)) (b := (ini b)) (i := i) (k := k) I10.1.1 I10.1.2
   have v1 := fun (h : i + 1 ≤ ((ini a)).length) (g : k + 1 ≤ ((ini b)).length) => tab_at (a := (ini a)) (b := (ini b)) (i := i + 1) (k := k + 1) h g
   have v2 := fun h : i + 1 ≤ ((ini a)).length => tab_at (a := (ini a)) (b := (ini b)) (i := i + 1) (k := k) h I10.1.2
   have d1 := fun (h : i + 1 ≤ ((ini a)).length) (g : k + 1 ≤ ((ini b)).length) => tab_bd' (a := (ini a)) (b := (ini b)) (i := i + 1) (k := k + 1) h g
   have d2 := fun h : i + 1 ≤ ((ini a)).length => tab_bd' (a := (ini a)) (b := (ini b)) (i := i + 1) (k := k) h I10.1.2
   have dP := price_bd (((ini a)).getD i default) (((ini b)).getD k default)
   refine .br [.r [(2, X (Xl elemT (ini a))), (7, Xv 1 (decide ((i : Int) < ((ini a).length : Int))) (Xl elemT (ini b))), (8, Xv 2 (decide ((i : Int) < ((ini a).length : Int))) X0), (9, X (Xk (decide ((i : Int) < ((ini a).length : Int))))), (13, Xv 2 (decide ((i : Int) < ((ini a).length : Int)) && decide ((k : Int) < ((ini b).length : Int))) (Xi elemT (ini a) (i : Int)) (fun hg => by (try simp only [decide_eq_true_eq, decide_eq_false_iff_not, Int.not_lt, Int.not_le, Bool.and_eq_true, Bool.and_eq_false_iff, Bool.not_eq_true', Bool.not_eq_false'] at hg); exact ⟨(by omega), (by omega)⟩)), (14, Xv 1 (decide ((i : Int) < ((ini a).length : Int)) && decide ((k : Int) < ((ini b).length : Int))) X0), (17, Xv 2 (decide ((i : Int) < ((ini a).length : Int)) && decide ((k : Int) < ((ini b).length : Int))) (Xi elemT (ini b) (k : Int)) (fun hg => by (try simp only [decide_eq_true_eq, decide_eq_false_iff_not, Int.not_lt, Int.not_le, Bool.and_eq_true, Bool.and_eq_false_iff, Bool.not_eq_true', Bool.not_eq_false'] at hg); exact ⟨(by omega), (by omega)⟩)), (18, Xv 1 (decide ((i : Int) < ((ini a).length : Int)) && decide ((k : Int) < ((ini b).length : Int))) X0), (19, Xv 2 (decide ((i : Int) < ((ini a).length : Int)) && decide ((k : Int) < ((ini b).length : Int))) (Xc0 (fc_alike (((ini a).getD i default)) (((ini b).getD k default))) X0)), (20, X (Xk (decide ((i : Int) < ((ini a).length : Int)) && decide ((k : Int) < ((ini b).length : Int))))), (24, Xv 2 ((decide ((i : Int) < ((ini a).length : Int)) && decide ((k : Int) < ((ini b).length : Int))) && (alikeB (((ini a).getD i default)) (((ini b).getD k default)))) (Xi intsT (tabL (ini a) (ini b)) (i : Int)) (fun hg => by (try simp only [decide_eq_true_eq, decide_eq_false_iff_not, Int.not_lt, Int.not_le, Bool.and_eq_true, Bool.and_eq_false_iff, Bool.not_eq_true', Bool.not_eq_false'] at hg); exact ⟨(by omega), (by omega)⟩)), (25, Xv 1 ((decide ((i : Int) < ((ini a).length : Int)) && decide ((k : Int) < ((ini b).length : Int))) && (alikeB (((ini a).getD i default)) (((ini b).getD k default)))) X0), (27, Xv 2 ((decide ((i : Int) < ((ini a).length : Int)) && decide ((k : Int) < ((ini b).length : Int))) && (alikeB (((ini a).getD i default)) (((ini b).getD k default)))) (Xi intT ((tabL (ini a) (ini b)).getD i default) (k : Int)) (fun hg => by (try simp only [decide_eq_true_eq, decide_eq_false_iff_not, Int.not_lt, Int.not_le, Bool.and_eq_true, Bool.and_eq_false_iff, Bool.not_eq_true', Bool.not_eq_false'] at hg); exact ⟨(by omega), (by omega)⟩)), (28, Xv 1 ((decide ((i : Int) < ((ini a).length : Int)) && decide ((k : Int) < ((ini b).length : Int))) && (alikeB (((ini a).getD i default)) (((ini b).getD k default)))) X0), (31, Xv 1 ((decide ((i : Int) < ((ini a).length : Int)) && decide ((k : Int) < ((ini b).length : Int))) && (alikeB (((ini a).getD i default)) (((ini b).getD k default)))) (Xn ((i : Int) + 1))), (32, Xv 2 ((decide ((i : Int) < ((ini a).length : Int)) && decide ((k : Int) < ((ini b).length : Int))) && (alikeB (((ini a).getD i default)) (((ini b).getD k default)))) (Xi intsT (tabL (ini a) (ini b)) ((i : Int) + 1)) (fun hg => by (try simp only [decide_eq_true_eq, decide_eq_false_iff_not, Int.not_lt, Int.not_le, Bool.and_eq_true, Bool.and_eq_false_iff, Bool.not_eq_true', Bool.not_eq_false'] at hg); exact ⟨(by omega), (by omega)⟩)), (33, Xv 1 ((decide ((i : Int) < ((ini a).length : Int)) && decide ((k : Int) < ((ini b).length : Int))) && (alikeB (((ini a).getD i default)) (((ini b).getD k default)))) X0), (35, Xv 1 ((decide ((i : Int) < ((ini a).length : Int)) && decide ((k : Int) < ((ini b).length : Int))) && (alikeB (((ini a).getD i default)) (((ini b).getD k default)))) (Xn ((k : Int) + 1))), (36, Xv 2 ((decide ((i : Int) < ((ini a).length : Int)) && decide ((k : Int) < ((ini b).length : Int))) && (alikeB (((ini a).getD i default)) (((ini b).getD k default)))) (Xi intT ((tabL (ini a) (ini b)).getD (i + 1) default) ((k : Int) + 1)) (fun hg => by (try simp only [decide_eq_true_eq, decide_eq_false_iff_not, Int.not_lt, Int.not_le, Bool.and_eq_true, Bool.and_eq_false_iff, Bool.not_eq_true', Bool.not_eq_false'] at hg); exact ⟨(by omega), (by omega)⟩)), (37, Xv 1 ((decide ((i : Int) < ((ini a).length : Int)) && decide ((k : Int) < ((ini b).length : Int))) && (alikeB (((ini a).getD i default)) (((ini b).getD k default)))) X0), (40, Xv 2 ((decide ((i : Int) < ((ini a).length : Int)) && decide ((k : Int) < ((ini b).length : Int))) && (alikeB (((ini a).getD i default)) (((ini b).getD k default)))) (Xi elemT (ini a) (i : Int)) (fun hg => by (try simp only [decide_eq_true_eq, decide_eq_false_iff_not, Int.not_lt, Int.not_le, Bool.and_eq_true, Bool.and_eq_false_iff, Bool.not_eq_true', Bool.not_eq_false'] at hg); exact ⟨(by omega), (by omega)⟩)), (41, Xv 1 ((decide ((i : Int) < ((ini a).length : Int)) && decide ((k : Int) < ((ini b).length : Int))) && (alikeB (((ini a).getD i default)) (((ini b).getD k default)))) X0), (44, Xv 2 ((decide ((i : Int) < ((ini a).length : Int)) && decide ((k : Int) < ((ini b).length : Int))) && (alikeB (((ini a).getD i default)) (((ini b).getD k default)))) (Xi elemT (ini b) (k : Int)) (fun hg => by (try simp only [decide_eq_true_eq, decide_eq_false_iff_not, Int.not_lt, Int.not_le, Bool.and_eq_true, Bool.and_eq_false_iff, Bool.not_eq_true', Bool.not_eq_false'] at hg); exact ⟨(by omega), (by omega)⟩)), (45, Xv 1 ((decide ((i : Int) < ((ini a).length : Int)) && decide ((k : Int) < ((ini b).length : Int))) && (alikeB (((ini a).getD i default)) (((ini b).getD k default)))) X0), (46, Xv 2 ((decide ((i : Int) < ((ini a).length : Int)) && decide ((k : Int) < ((ini b).length : Int))) && (alikeB (((ini a).getD i default)) (((ini b).getD k default)))) (Xc0 (fc_price (((ini a).getD i default)) (((ini b).getD k default))) X0)), (47, Xv 2 ((decide ((i : Int) < ((ini a).length : Int)) && decide ((k : Int) < ((ini b).length : Int))) && (alikeB (((ini a).getD i default)) (((ini b).getD k default)))) (Xn ((((tabL (ini a) (ini b)).getD (i + 1) default).getD (k + 1) default) + (priceI (((ini a).getD i default)) (((ini b).getD k default))))) (fun hg => by (try simp only [decide_eq_true_eq, decide_eq_false_iff_not, Int.not_lt, Int.not_le, Bool.and_eq_true, Bool.and_eq_false_iff, Bool.not_eq_true', Bool.not_eq_false'] at hg); exact (by omega))), (48, Xv 2 ((decide ((i : Int) < ((ini a).length : Int)) && decide ((k : Int) < ((ini b).length : Int))) && (alikeB (((ini a).getD i default)) (((ini b).getD k default)))) X0), (49, X (Xk ((decide ((i : Int) < ((ini a).length : Int)) && decide ((k : Int) < ((ini b).length : Int))) && (alikeB (((ini a).getD i default)) (((ini b).getD k default))))))]] (((decide ((i : Int) < ((ini a).length : Int)) && decide ((k : Int) < ((ini b).length : Int))) && (alikeB (((ini a).getD i default)) (((ini b).getD k default)))) && ((((tabL (ini a) (ini b)).getD i default).getD k default) == ((((tabL (ini a) (ini b)).getD (i + 1) default).getD (k + 1) default) + (priceI (((ini a).getD i default)) (((ini b).getD k default)))))) (fun h13 => ?_) (fun h13 => ?_)
   ·
    (try simp only [decide_eq_true_eq, decide_eq_false_iff_not, Int.not_lt, Int.not_le, Bool.and_eq_true, Bool.and_eq_false_iff, Bool.not_eq_true', Bool.not_eq_false', beq_iff_eq, beq_eq_false_iff_ne, ne_eq] at h13)
    have hK : KeepP (ini a) (ini b) i k := ⟨⟨by omega, by omega⟩, h13.1.2, by rw [← v0, ← v1 (by omega) (by omega)]; exact h13.2⟩
    have hP := I10.2.1
    rw [path_keep hK, List.map_cons] at hP
    have na2 : (((ini a)).getD i default).attrs.length ≤ 1000000000 := by first | exact na _ (getD_mem' (by omega)) | exact na _ (ini_mem (getD_mem' (by omega)))
    have nb2 : (((ini b)).getD k default).attrs.length ≤ 1000000000 := by first | exact nb _ (getD_mem' (by omega)) | exact nb _ (ini_mem (getD_mem' (by omega)))
    refine .back [.r [(3, X (Xi elemT (ini a) (i : Int))), (8, X (Xi elemT (ini b) (k : Int))), (11, X (Xc1 1177 (fc_change ((((ini a).getD i default)).attrs) ((((ini b).getD k default)).attrs) (by omega)) X0)), (12, X (Xf [(3, 3)])), (14, X (rowC dstepT [({ kind := 0, n := 1, attrs := (fm chgG ((((ini a).getD i default)).attrs) ((((ini b).getD k default)).attrs)), elems := [] } : DStep)] (Xap 4 dstepT 600 o [({ kind := 0, n := 1, attrs := (fm chgG ((((ini a).getD i default)).attrs) ((((ini b).getD k default)).attrs)), elems := [] } : DStep)])))], .r [(1, X (Xn ((i : Int) + 1))), (3, X (Xn ((k : Int) + 1)))]] [(432, 432), (600, 600)] (ih10 ((i + 1), (k + 1), (o ++ [({ kind := 0, n := 1, attrs := (fm chgG ((((ini a).getD i default)).attrs) ((((ini b).getD k default)).attrs)), elems := [] } : DStep)])) ?_ ?_)
    ·
     refine ⟨⟨by omega, by omega⟩, ?_, by simp only [List.length_append, List.length_cons, List.length_nil]; omega⟩
     rw [List.append_assoc]; exact hP
    ·
     (try dsimp only); omega
   ·
    (try simp only [decide_eq_true_eq, decide_eq_false_iff_not, Int.not_lt, Int.not_le, Bool.and_eq_true, Bool.and_eq_false_iff, Bool.not_eq_true', Bool.not_eq_false', beq_iff_eq, beq_eq_false_iff_ne, ne_eq] at h13)
    have hK : ¬ KeepP (ini a) (ini b) i k := fun q => by
      rcases h13 with ((h | h) | h) | h
      · have := q.1; omega
      · have := q.1; omega
      · exact absurd (q.2.1.symm.trans h) (by decide)
      · exact h (by rw [v0, v1 q.1.1 q.1.2]; exact q.2.2)
    refine .br [.r [(2, X (Xl elemT (ini a))), (7, Xv 1 (decide ((i : Int) < ((ini a).length : Int))) (Xl elemT (ini b))), (8, Xv 2 (decide ((i : Int) < ((ini a).length : Int))) X0), (9, Xv 1 (decide ((i : Int) < ((ini a).length : Int))) X0), (12, Xv 2 ((decide ((i : Int) < ((ini a).length : Int))) && !((k : Int) == ((ini b).length : Int))) (Xi intsT (tabL (ini a) (ini b)) (i : Int)) (fun hg => by (try simp only [decide_eq_true_eq, decide_eq_false_iff_not, Int.not_lt, Int.not_le, Bool.not_eq_true', Bool.not_eq_false', Bool.and_eq_true, Bool.and_eq_false_iff, beq_iff_eq, beq_eq_false_iff_ne, ne_eq] at hg); exact ⟨(by omega), (by omega)⟩)), (13, Xv 1 ((decide ((i : Int) < ((ini a).length : Int))) && !((k : Int) == ((ini b).length : Int))) X0), (15, Xv 2 ((decide ((i : Int) < ((ini a).length : Int))) && !((k : Int) == ((ini b).length : Int))) (Xi intT ((tabL (ini a) (ini b)).getD i default) (k : Int)) (fun hg => by (try simp only [decide_eq_true_eq, decide_eq_false_iff_not, Int.not_lt, Int.not_le, Bool.not_eq_true', Bool.not_eq_false', Bool.and_eq_true, Bool.and_eq_false_iff, beq_iff_eq, beq_eq_false_iff_ne, ne_eq] at hg); exact ⟨(by omega), (by omega)⟩)), (16, Xv 1 ((decide ((i : Int) < ((ini a).length : Int))) && !((k : Int) == ((ini b).length : Int))) X0), (19, Xv 1 ((decide ((i : Int) < ((ini a).length : Int))) && !((k : Int) == ((ini b).length : Int))) (Xn ((i : Int) + 1))), (20, Xv 2 ((decide ((i : Int) < ((ini a).length : Int))) && !((k : Int) == ((ini b).length : Int))) (Xi intsT (tabL (ini a) (ini b)) ((i : Int) + 1)) (fun hg => by (try simp only [decide_eq_true_eq, decide_eq_false_iff_not, Int.not_lt, Int.not_le, Bool.not_eq_true', Bool.not_eq_false', Bool.and_eq_true, Bool.and_eq_false_iff, beq_iff_eq, beq_eq_false_iff_ne, ne_eq] at hg); exact ⟨(by omega), (by omega)⟩)), (21, Xv 1 ((decide ((i : Int) < ((ini a).length : Int))) && !((k : Int) == ((ini b).length : Int))) X0), (23, Xv 2 ((decide ((i : Int) < ((ini a).length : Int))) && !((k : Int) == ((ini b).length : Int))) (Xi intT ((tabL (ini a) (ini b)).getD (i + 1) default) (k : Int)) (fun hg => by (try simp only [decide_eq_true_eq, decide_eq_false_iff_not, Int.not_lt, Int.not_le, Bool.not_eq_true', Bool.not_eq_false', Bool.and_eq_true, Bool.and_eq_false_iff, beq_iff_eq, beq_eq_false_iff_ne, ne_eq] at hg); exact ⟨(by omega), (by omega)⟩)), (24, Xv 1 ((decide ((i : Int) < ((ini a).length : Int))) && !((k : Int) == ((ini b).length : Int))) X0), (25, Xv 1 ((decide ((i : Int) < ((ini a).length : Int))) && !((k : Int) == ((ini b).length : Int))) (Xn (1 + (((tabL (ini a) (ini b)).getD (i + 1) default).getD k default))) (fun hg => by (try simp only [decide_eq_true_eq, decide_eq_false_iff_not, Int.not_lt, Int.not_le, Bool.not_eq_true', Bool.not_eq_false', Bool.and_eq_true, Bool.and_eq_false_iff, beq_iff_eq, beq_eq_false_iff_ne, ne_eq] at hg); exact (by omega))), (26, Xv 2 ((decide ((i : Int) < ((ini a).length : Int))) && !((k : Int) == ((ini b).length : Int))) X0), (27, Xko (decide ((i : Int) < ((ini a).length : Int))) ((k : Int) == ((ini b).length : Int))), (28, X (Xk (decide ((i : Int) < ((ini a).length : Int)))))]] (decide ((i : Int) < ((ini a).length : Int)) && (((k : Int) == ((ini b).length : Int)) || ((((tabL (ini a) (ini b)).getD i default).getD k default) == (1 + (((tabL (ini a) (ini b)).getD (i + 1) default).getD k default))))) (fun h16 => ?_) (fun h16 => ?_)
    ·
     (try simp only [decide_eq_true_eq, decide_eq_false_iff_not, Int.not_lt, Int.not_le, Bool.and_eq_true, Bool.and_eq_false_iff, Bool.not_eq_true', Bool.not_eq_false', Bool.or_eq_true, Bool.or_eq_false_iff, beq_iff_eq, beq_eq_false_iff_ne, ne_eq] at h16)
     have hC : CutP (ini a) (ini b) i k := ⟨by omega, by
       rcases h16.2 with h | h
       · exact .inl (by omega)
       · exact .inr (by rw [← v0, ← v2 (by omega)]; exact h)⟩
     have hP := I10.2.1
     rw [path_cut hK hC, List.map_cons] at hP
     refine .back [.r [(1, X (Xf [(2, 2), (3, 3)])), (3, X (rowC dstepT [({ kind := 2, n := 1, attrs := [], elems := [] } : DStep)] (Xap 4 dstepT 600 o [({ kind := 2, n := 1, attrs := [], elems := [] } : DStep)])))], .r [(1, X (Xn ((i : Int) + 1)))]] [(432, 432), (600, 600)] (ih10 ((i + 1), k, (o ++ [({ kind := 2, n := 1, attrs := [], elems := [] } : DStep)])) ?_ ?_)
     ·
      refine ⟨⟨by omega, by omega⟩, ?_, by simp only [List.length_append, List.length_cons, List.length_nil]; omega⟩
      rw [List.append_assoc]; exact hP
     ·
      (try dsimp only); omega
    ·
     (try simp only [decide_eq_true_eq, decide_eq_false_iff_not, Int.not_lt, Int.not_le, Bool.and_eq_true, Bool.and_eq_false_iff, Bool.not_eq_true', Bool.not_eq_false', Bool.or_eq_true, Bool.or_eq_false_iff, beq_iff_eq, beq_eq_false_iff_ne, ne_eq] at h16)
     have hC : ¬ CutP (ini a) (ini b) i k := fun q => by
       rcases h16 with h | h
       · have := q.1; omega
       · rcases q.2 with q2 | q2
         · exact h.1 (by omega)
         · exact h.2 (by rw [v0, v2 q.1]; exact q2)
     have hk3 := ends_or I10.1.1 I10.1.2 hC (by omega)
     have hP := I10.2.1
     rw [path_add hK hC hk3, List.map_cons] at hP
     have e1 := one_at hk3
     refine .back [.r [(4, X (Xn ((k : Int) + 1))), (5, X (Xsb elemT 3 (ini b) (k : Int) ((k : Int) + 1))), (6, X (Xf [(2, 2)])), (8, X (rowC dstepT [({ kind := 1, n := 0, attrs := [], elems := (((ini b).take (k + 1)).drop k) } : DStep)] (Xap 4 dstepT 600 o [({ kind := 1, n := 0, attrs := [], elems := (((ini b).take (k + 1)).drop k) } : DStep)])))], .r [(1, X (Xn ((k : Int) + 1)))]] [(432, 432), (600, 600)] (ih10 (i, (k + 1), (o ++ [({ kind := 1, n := 0, attrs := [], elems := (((ini b).take (k + 1)).drop k) } : DStep)])) ?_ ?_)
     ·
      refine ⟨⟨by omega, by omega⟩, ?_, by simp only [List.length_append, List.length_cons, List.length_nil]; omega⟩
      rw [List.append_assoc, e1]; exact hP
     ·
      (try dsimp only); omega
  ·
   (try simp only [decide_eq_true_eq, decide_eq_false_iff_not, Int.not_lt, Int.not_le, Bool.or_eq_true, Bool.or_eq_false_iff] at h10)
   have hE := I10.2.1
   rw [path_end (by omega) (by omega), List.map_nil, List.append_nil] at hE
   first
   | (have hf : o ++ [({ kind := 0, n := 1, attrs := (fm chgG (((a.getD (a.length - 1) default)).attrs) (((b.getD (b.length - 1) default)).attrs)), elems := [] } : DStep)] = (diffU a b).map stepU := by rw [hD, List.map_append, ← hE]; rfl
      rw [← hf] at t1 t3 t4 t5)
   | (have hf : (o ++ [] : List DStep) = (diffU a b).map stepU := by rw [List.append_nil, hE, hD]
      rw [← hf] at t1 t3 t4 t5)
   have e1 : ((doneD (diffU a b)) : List DStep) = (tidyL (o ++ [({ kind := 0, n := 1, attrs := (fm chgG (((a.getD (a.length - 1) default)).attrs) (((b.getD (b.length - 1) default)).attrs)), elems := [] } : DStep)])) := by
    rw [t1]
   exact .finE [.r [(2, X (rowC dstepT [({ kind := 0, n := 1, attrs := (fm chgG (((a.getD (a.length - 1) default)).attrs) (((b.getD (b.length - 1) default)).attrs)), elems := [] } : DStep)] (Xap 4 dstepT 600 o [({ kind := 0, n := 1, attrs := (fm chgG (((a.getD (a.length - 1) default)).attrs) (((b.getD (b.length - 1) default)).attrs)), elems := [] } : DStep)]))), (3, X (Xc1 705 (fc_dTidy (o ++ [({ kind := 0, n := 1, attrs := (fm chgG (((a.getD (a.length - 1) default)).attrs) (((b.getD (b.length - 1) default)).attrs)), elems := [] } : DStep)]) (by assumption) (by omega) (by omega)) (rowC dstepT (o ++ [({ kind := 0, n := 1, attrs := (fm chgG (((a.getD (a.length - 1) default)).attrs) (((b.getD (b.length - 1) default)).attrs)), elems := [] } : DStep)]) X0)))], .r []] [] (fun z0 => (VL 4 dstepT z0, [])) ((tidyL (o ++ [({ kind := 0, n := 1, attrs := (fm chgG (((a.getD (a.length - 1) default)).attrs) (((b.getD (b.length - 1) default)).attrs)), elems := [] } : DStep)])) : List DStep) ((doneD (diffU a b)) : List DStep) e1
 ·
  (try simp only [decide_eq_true_eq, decide_eq_false_iff_not, Int.not_lt, Int.not_le, gt_iff_lt, Bool.and_eq_true, Bool.and_eq_false_iff, Bool.not_eq_true', Bool.not_eq_false', beq_iff_eq, beq_eq_false_iff_ne, ne_eq] at h3)
  have il := ini_len (a := a)
  have jl := ini_len (a := b)
  have hD : diffU a b = (if TiedP a b then pathU (ini a) (ini b) 0 0 ++ [.K (chgU (lst a) (lst b))] else pathU a b 0 0) := rfl
  first
  | rw [if_pos ⟨⟨⟨by omega, by omega⟩, h3.1.2⟩, h3.2⟩] at hD
  | rw [if_neg (by rintro ⟨⟨⟨q1, q2⟩, q3⟩, q4⟩; rcases h3 with ((h | h) | h) | h; (omega); (omega); (exact h q3); (exact h q4))] at hD
  have lT := tabL_len a b
  refine .loop (α := Nat × Nat × (List DStep)) [.r [(2, X (Xc1 272 (fc_table a b (by omega) (by omega)) X0))], .r [], .r [], .le (.nR 10 4)] 313 (fun (i, k, o) => ([(0, VL 3 elemT a), (1, VL 3 elemT b), (6, VN), (9, VL 1 intsT (tabL a b)), (10, .row 312 o.length), (11, VI (i : Int)), (12, VI (k : Int))], [(312, OR 4 dstepT o)])) (fun (i, k, o) => (i ≤ (a).length ∧ k ≤ (b).length) ∧ o ++ (pathU a b i k).map stepU = (pathU a b 0 0).map stepU ∧ o.length ≤ i + k) (fun (i, k, o) => ((a).length - i) + ((b).length - k)) (0, 0, []) ?_ ?_
  ·
   exact ⟨⟨by omega, by omega⟩, rfl, by simp⟩
  rintro ⟨i, k, o⟩ I10 ih10
  try dsimp only at I10
  refine .br [.r [(2, X (Xl elemT a)), (7, Xv 1 (!(decide ((i : Int) < (a.length : Int)))) (Xl elemT b)), (8, Xv 2 (!(decide ((i : Int) < (a.length : Int)))) X0), (9, X (Xk' (decide ((i : Int) < (a.length : Int)))))]] (decide ((i : Int) < (a.length : Int)) || decide ((k : Int) < (b.length : Int))) (fun h10 => ?_) (fun h10 => ?_)
  ·
   (try simp only [decide_eq_true_eq, decide_eq_false_iff_not, Int.not_lt, Int.not_le, Bool.or_eq_true, Bool.or_eq_false_iff] at h10)
   have r0 := row_len (a := a) (b := b) (i := i) I10.1.1
   have r1 := fun h : i + 1 ≤ (a).length => row_len (a := a) (b := b) (i := i + 1) h
   have v0 := tab_at (a := a) (b := b) (i := i) (k := k) I10.1.1 I10.1.2
   have v1 := fun (h : i + 1 ≤ (a).length) (g : k + 1 ≤ (b).length) => tab_at (a := a) (b := b) (i := i + 1) (k := k + 1) h g
   have v2 := fun h : i + 1 ≤ (a).length => tab_at (a := a) (b := b) (i := i + 1) (k := k) h I10.1.2
   have d1 := fun (h : i + 1 ≤ (a).length) (g : k + 1 ≤ (b).length) => tab_bd' (a := a) (b := b) (i := i + 1) (k := k + 1) h g
   have d2 := fun h : i + 1 ≤ (a).length => tab_bd' (a := a) (b := b) (i := i + 1) (k := k) h I10.1.2
   have dP := price_bd ((a).getD i default) ((b).getD k default)
   refine .br [.r [(2, X (Xl elemT a)), (7, Xv 1 (decide ((i : Int) < (a.length : Int))) (Xl elemT b)), (8, Xv 2 (decide ((i : Int) < (a.length : Int))) X0), (9, X (Xk (decide ((i : Int) < (a.length : Int))))), (13, Xv 2 (decide ((i : Int) < (a.length : Int)) && decide ((k : Int) < (b.length : Int))) (Xi elemT a (i : Int)) (fun hg => by (try simp only [decide_eq_true_eq, decide_eq_false_iff_not, Int.not_lt, Int.not_le, Bool.and_eq_true, Bool.and_eq_false_iff, Bool.not_eq_true', Bool.not_eq_false'] at hg); exact ⟨(by omega), (by omega)⟩)), (14, Xv 1 (decide ((i : Int) < (a.length : Int)) && decide ((k : Int) < (b.length : Int))) X0), (17, Xv 2 (decide ((i : Int) < (a.length : Int)) && decide ((k : Int) < (b.length : Int))) (Xi elemT b (k : Int)) (fun hg => by (try simp only [decide_eq_true_eq, decide_eq_false_iff_not, Int.not_lt, Int.not_le, Bool.and_eq_true, Bool.and_eq_false_iff, Bool.not_eq_true', Bool.not_eq_false'] at hg); exact ⟨(by omega), (by omega)⟩)), (18, Xv 1 (decide ((i : Int) < (a.length : Int)) && decide ((k : Int) < (b.length : Int))) X0), (19, Xv 2 (decide ((i : Int) < (a.length : Int)) && decide ((k : Int) < (b.length : Int))) (Xc0 (fc_alike ((a.getD i default)) ((b.getD k default))) X0)), (20, X (Xk (decide ((i : Int) < (a.length : Int)) && decide ((k : Int) < (b.length : Int))))), (24, Xv 2 ((decide ((i : Int) < (a.length : Int)) && decide ((k : Int) < (b.length : Int))) && (alikeB ((a.getD i default)) ((b.getD k default)))) (Xi intsT (tabL a b) (i : Int)) (fun hg => by (try simp only [decide_eq_true_eq, decide_eq_false_iff_not, Int.not_lt, Int.not_le, Bool.and_eq_true, Bool.and_eq_false_iff, Bool.not_eq_true', Bool.not_eq_false'] at hg); exact ⟨(by omega), (by omega)⟩)), (25, Xv 1 ((decide ((i : Int) < (a.length : Int)) && decide ((k : Int) < (b.length : Int))) && (alikeB ((a.getD i default)) ((b.getD k default)))) X0), (27, Xv 2 ((decide ((i : Int) < (a.length : Int)) && decide ((k : Int) < (b.length : Int))) && (alikeB ((a.getD i default)) ((b.getD k default)))) (Xi intT ((tabL a b).getD i default) (k : Int)) (fun hg => by (try simp only [decide_eq_true_eq, decide_eq_false_iff_not, Int.not_lt, Int.not_le, Bool.and_eq_true, Bool.and_eq_false_iff, Bool.not_eq_true', Bool.not_eq_false'] at hg); exact ⟨(by omega), (by omega)⟩)), (28, Xv 1 ((decide ((i : Int) < (a.length : Int)) && decide ((k : Int) < (b.length : Int))) && (alikeB ((a.getD i default)) ((b.getD k default)))) X0), (31, Xv 1 ((decide ((i : Int) < (a.length : Int)) && decide ((k : Int) < (b.length : Int))) && (alikeB ((a.getD i default)) ((b.getD k default)))) (Xn ((i : Int) + 1))), (32, Xv 2 ((decide ((i : Int) < (a.length : Int)) && decide ((k : Int) < (b.length : Int))) && (alikeB ((a.getD i default)) ((b.getD k default)))) (Xi intsT (tabL a b) ((i : Int) + 1)) (fun hg => by (try simp only [decide_eq_true_eq, decide_eq_false_iff_not, Int.not_lt, Int.not_le, Bool.and_eq_true, Bool.and_eq_false_iff, Bool.not_eq_true', Bool.not_eq_false'] at hg); exact ⟨(by omega), (by omega)⟩)), (33, Xv 1 ((decide ((i : Int) < (a.length : Int)) && decide ((k : Int) < (b.length : Int))) && (alikeB ((a.getD i default)) ((b.getD k default)))) X0), (35, Xv 1 ((decide ((i : Int) < (a.length : Int)) && decide ((k : Int) < (b.length : Int))) && (alikeB ((a.getD i default)) ((b.getD k default)))) (Xn ((k : Int) + 1))), (36, Xv 2 ((decide ((i : Int) < (a.length : Int)) && decide ((k : Int) < (b.length : Int))) && (alikeB ((a.getD i default)) ((b.getD k default)))) (Xi intT ((tabL a b).getD (i + 1) default) ((k : Int) + 1)) (fun hg => by (try simp only [decide_eq_true_eq, decide_eq_false_iff_not, Int.not_lt, Int.not_le, Bool.and_eq_true, Bool.and_eq_false_iff, Bool.not_eq_true', Bool.not_eq_false'] at hg); exact ⟨(by omega), (by omega)⟩)), (37, Xv 1 ((decide ((i : Int) < (a.length : Int)) && decide ((k : Int) < (b.length : Int))) && (alikeB ((a.getD i default)) ((b.getD k default)))) X0), (40, Xv 2 ((decide ((i : Int) < (a.length : Int)) && decide ((k : Int) < (b.length : Int))) && (alikeB ((a.getD i default)) ((b.getD k default)))) (Xi elemT a (i : Int)) (fun hg => by (try simp only [decide_eq_true_eq, decide_eq_false_iff_not, Int.not_lt, Int.not_le, Bool.and_eq_true, Bool.and_eq_false_iff, Bool.not_eq_true', Bool.not_eq_false'] at hg); exact ⟨(by omega), (by omega)⟩)), (41, Xv 1 ((decide ((i : Int) < (a.length : Int)) && decide ((k : Int) < (b.length : Int))) && (alikeB ((a.getD i default)) ((b.getD k default)))) X0), (44, Xv 2 ((decide ((i : Int) < (a.length : Int)) && decide ((k : Int) < (b.length : Int))) && (alikeB ((a.getD i default)) ((b.getD k default)))) (Xi elemT b (k : Int)) (fun hg => by (try simp only [decide_eq_true_eq, decide_eq_false_iff_not, Int.not_lt, Int.not_le, Bool.and_eq_true, Bool.and_eq_false_iff, Bool.not_eq_true', Bool.not_eq_false'] at hg); exact ⟨(by omega), (by omega)⟩)), (45, Xv 1 ((decide ((i : Int) < (a.length : Int)) && decide ((k : Int) < (b.length : Int))) && (alikeB ((a.getD i default)) ((b.getD k default)))) X0), (46, Xv 2 ((decide ((i : Int) < (a.length : Int)) && decide ((k : Int) < (b.length : Int))) && (alikeB ((a.getD i default)) ((b.getD k default)))) (Xc0 (fc_price ((a.getD i default)) ((b.getD k default))) X0)), (47, Xv 2 ((decide ((i : Int) < (a.length : Int)) && decide ((k : Int) < (b.length : Int))) && (alikeB ((a.getD i default)) ((b.getD k default)))) (Xn ((((tabL a b).getD (i + 1) default).getD (k + 1) default) + (priceI ((a.getD i default)) ((b.getD k default))))) (fun hg => by (try simp only [decide_eq_true_eq, decide_eq_false_iff_not, Int.not_lt, Int.not_le, Bool.and_eq_true, Bool.and_eq_false_iff, Bool.not_eq_true', Bool.not_eq_false'] at hg); exact (by omega))), (48, Xv 2 ((decide ((i : Int) < (a.length : Int)) && decide ((k : Int) < (b.length : Int))) && (alikeB ((a.getD i default)) ((b.getD k default)))) X0), (49, X (Xk ((decide ((i : Int) < (a.length : Int)) && decide ((k : Int) < (b.length : Int))) && (alikeB ((a.getD i default)) ((b.getD k default))))))]] (((decide ((i : Int) < (a.length : Int)) && decide ((k : Int) < (b.length : Int))) && (alikeB ((a.getD i default)) ((b.getD k default)))) && ((((tabL a b).getD i default).getD k default) == ((((tabL a b).getD (i + 1) default).getD (k + 1) default) + (priceI ((a.getD i default)) ((b.getD k default)))))) (fun h13 => ?_) (fun h13 => ?_)
   ·
    (try simp only [decide_eq_true_eq, decide_eq_false_iff_not, Int.not_lt, Int.not_le, Bool.and_eq_true, Bool.and_eq_false_iff, Bool.not_eq_true', Bool.not_eq_false', beq_iff_eq, beq_eq_false_iff_ne, ne_eq] at h13)
    have hK : KeepP a b i k := ⟨⟨by omega, by omega⟩, h13.1.2, by rw [← v0, ← v1 (by omega) (by omega)]; exact h13.2⟩
    have hP := I10.2.1
    rw [path_keep hK, List.map_cons] at hP
    have na2 : ((a).getD i default).attrs.length ≤ 1000000000 := by first | exact na _ (getD_mem' (by omega)) | exact na _ (ini_mem (getD_mem' (by omega)))
    have nb2 : ((b).getD k default).attrs.length ≤ 1000000000 := by first | exact nb _ (getD_mem' (by omega)) | exact nb _ (ini_mem (getD_mem' (by omega)))
    refine .back [.r [(3, X (Xi elemT a (i : Int))), (8, X (Xi elemT b (k : Int))), (11, X (Xc1 889 (fc_change (((a.getD i default)).attrs) (((b.getD k default)).attrs) (by omega)) X0)), (12, X (Xf [(3, 3)])), (14, X (rowC dstepT [({ kind := 0, n := 1, attrs := (fm chgG (((a.getD i default)).attrs) (((b.getD k default)).attrs)), elems := [] } : DStep)] (Xap 4 dstepT 312 o [({ kind := 0, n := 1, attrs := (fm chgG (((a.getD i default)).attrs) (((b.getD k default)).attrs)), elems := [] } : DStep)])))], .r [(1, X (Xn ((i : Int) + 1))), (3, X (Xn ((k : Int) + 1)))]] [(312, 312)] (ih10 ((i + 1), (k + 1), (o ++ [({ kind := 0, n := 1, attrs := (fm chgG (((a.getD i default)).attrs) (((b.getD k default)).attrs)), elems := [] } : DStep)])) ?_ ?_)
    ·
     refine ⟨⟨by omega, by omega⟩, ?_, by simp only [List.length_append, List.length_cons, List.length_nil]; omega⟩
     rw [List.append_assoc]; exact hP
    ·
     (try dsimp only); omega
   ·
    (try simp only [decide_eq_true_eq, decide_eq_false_iff_not, Int.not_lt, Int.not_le, Bool.and_eq_true, Bool.and_eq_false_iff, Bool.not_eq_true', Bool.not_eq_false', beq_iff_eq, beq_eq_false_iff_ne, ne_eq] at h13)
    have hK : ¬ KeepP a b i k := fun q => by
      rcases h13 with ((h | h) | h) | h
      · have := q.1; omega
      · have := q.1; omega
      · exact absurd (q.2.1.symm.trans h) (by decide)
      · exact h (by rw [v0, v1 q.1.1 q.1.2]; exact q.2.2)
    refine .br [.r [(2, X (Xl elemT a)), (7, Xv 1 (decide ((i : Int) < (a.length : Int))) (Xl elemT b)), (8, Xv 2 (decide ((i : Int) < (a.length : Int))) X0), (9, Xv 1 (decide ((i : Int) < (a.length : Int))) X0), (12, Xv 2 ((decide ((i : Int) < (a.length : Int))) && !((k : Int) == (b.length : Int))) (Xi intsT (tabL a b) (i : Int)) (fun hg => by (try simp only [decide_eq_true_eq, decide_eq_false_iff_not, Int.not_lt, Int.not_le, Bool.not_eq_true', Bool.not_eq_false', Bool.and_eq_true, Bool.and_eq_false_iff, beq_iff_eq, beq_eq_false_iff_ne, ne_eq] at hg); exact ⟨(by omega), (by omega)⟩)), (13, Xv 1 ((decide ((i : Int) < (a.length : Int))) && !((k : Int) == (b.length : Int))) X0), (15, Xv 2 ((decide ((i : Int) < (a.length : Int))) && !((k : Int) == (b.length : Int))) (Xi intT ((tabL a b).getD i default) (k : Int)) (fun hg => by (try simp only [decide_eq_true_eq, decide_eq_false_iff_not, Int.not_lt, Int.not_le, Bool.not_eq_true', Bool.not_eq_false', Bool.and_eq_true, Bool.and_eq_false_iff, beq_iff_eq, beq_eq_false_iff_ne, ne_eq] at hg); exact ⟨(by omega), (by omega)⟩)), (16, Xv 1 ((decide ((i : Int) < (a.length : Int))) && !((k : Int) == (b.length : Int))) X0), (19, Xv 1 ((decide ((i : Int) < (a.length : Int))) && !((k : Int) == (b.length : Int))) (Xn ((i : Int) + 1))), (20, Xv 2 ((decide ((i : Int) < (a.length : Int))) && !((k : Int) == (b.length : Int))) (Xi intsT (tabL a b) ((i : Int) + 1)) (fun hg => by (try simp only [decide_eq_true_eq, decide_eq_false_iff_not, Int.not_lt, Int.not_le, Bool.not_eq_true', Bool.not_eq_false', Bool.and_eq_true, Bool.and_eq_false_iff, beq_iff_eq, beq_eq_false_iff_ne, ne_eq] at hg); exact ⟨(by omega), (by omega)⟩)), (21, Xv 1 ((decide ((i : Int) < (a.length : Int))) && !((k : Int) == (b.length : Int))) X0), (23, Xv 2 ((decide ((i : Int) < (a.length : Int))) && !((k : Int) == (b.length : Int))) (Xi intT ((tabL a b).getD (i + 1) default) (k : Int)) (fun hg => by (try simp only [decide_eq_true_eq, decide_eq_false_iff_not, Int.not_lt, Int.not_le, Bool.not_eq_true', Bool.not_eq_false', Bool.and_eq_true, Bool.and_eq_false_iff, beq_iff_eq, beq_eq_false_iff_ne, ne_eq] at hg); exact ⟨(by omega), (by omega)⟩)), (24, Xv 1 ((decide ((i : Int) < (a.length : Int))) && !((k : Int) == (b.length : Int))) X0), (25, Xv 1 ((decide ((i : Int) < (a.length : Int))) && !((k : Int) == (b.length : Int))) (Xn (1 + (((tabL a b).getD (i + 1) default).getD k default))) (fun hg => by (try simp only [decide_eq_true_eq, decide_eq_false_iff_not, Int.not_lt, Int.not_le, Bool.not_eq_true', Bool.not_eq_false', Bool.and_eq_true, Bool.and_eq_false_iff, beq_iff_eq, beq_eq_false_iff_ne, ne_eq] at hg); exact (by omega))), (26, Xv 2 ((decide ((i : Int) < (a.length : Int))) && !((k : Int) == (b.length : Int))) X0), (27, Xko (decide ((i : Int) < (a.length : Int))) ((k : Int) == (b.length : Int))), (28, X (Xk (decide ((i : Int) < (a.length : Int)))))]] (decide ((i : Int) < (a.length : Int)) && (((k : Int) == (b.length : Int)) || ((((tabL a b).getD i default).getD k default) == (1 + (((tabL a b).getD (i + 1) default).getD k default))))) (fun h16 => ?_) (fun h16 => ?_)
    ·
     (try simp only [decide_eq_true_eq, decide_eq_false_iff_not, Int.not_lt, Int.not_le, Bool.and_eq_true, Bool.and_eq_false_iff, Bool.not_eq_true', Bool.not_eq_false', Bool.or_eq_true, Bool.or_eq_false_iff, beq_iff_eq, beq_eq_false_iff_ne, ne_eq] at h16)
     have hC : CutP a b i k := ⟨by omega, by
       rcases h16.2 with h | h
       · exact .inl (by omega)
       · exact .inr (by rw [← v0, ← v2 (by omega)]; exact h)⟩
     have hP := I10.2.1
     rw [path_cut hK hC, List.map_cons] at hP
     refine .back [.r [(1, X (Xf [(2, 2), (3, 3)])), (3, X (rowC dstepT [({ kind := 2, n := 1, attrs := [], elems := [] } : DStep)] (Xap 4 dstepT 312 o [({ kind := 2, n := 1, attrs := [], elems := [] } : DStep)])))], .r [(1, X (Xn ((i : Int) + 1)))]] [(312, 312)] (ih10 ((i + 1), k, (o ++ [({ kind := 2, n := 1, attrs := [], elems := [] } : DStep)])) ?_ ?_)
     ·
      refine ⟨⟨by omega, by omega⟩, ?_, by simp only [List.length_append, List.length_cons, List.length_nil]; omega⟩
      rw [List.append_assoc]; exact hP
     ·
      (try dsimp only); omega
    ·
     (try simp only [decide_eq_true_eq, decide_eq_false_iff_not, Int.not_lt, Int.not_le, Bool.and_eq_true, Bool.and_eq_false_iff, Bool.not_eq_true', Bool.not_eq_false', Bool.or_eq_true, Bool.or_eq_false_iff, beq_iff_eq, beq_eq_false_iff_ne, ne_eq] at h16)
     have hC : ¬ CutP a b i k := fun q => by
       rcases h16 with h | h
       · have := q.1; omega
       · rcases q.2 with q2 | q2
         · exact h.1 (by omega)
         · exact h.2 (by rw [v0, v2 q.1]; exact q2)
     have hk3 := ends_or I10.1.1 I10.1.2 hC (by omega)
     have hP := I10.2.1
     rw [path_add hK hC hk3, List.map_cons] at hP
     have e1 := one_at hk3
     refine .back [.r [(4, X (Xn ((k : Int) + 1))), (5, X (Xsb elemT 3 b (k : Int) ((k : Int) + 1))), (6, X (Xf [(2, 2)])), (8, X (rowC dstepT [({ kind := 1, n := 0, attrs := [], elems := ((b.take (k + 1)).drop k) } : DStep)] (Xap 4 dstepT 312 o [({ kind := 1, n := 0, attrs := [], elems := ((b.take (k + 1)).drop k) } : DStep)])))], .r [(1, X (Xn ((k : Int) + 1)))]] [(312, 312)] (ih10 (i, (k + 1), (o ++ [({ kind := 1, n := 0, attrs := [], elems := ((b.take (k + 1)).drop k) } : DStep)])) ?_ ?_)
     ·
      refine ⟨⟨by omega, by omega⟩, ?_, by simp only [List.length_append, List.length_cons, List.length_nil]; omega⟩
      rw [List.append_assoc, e1]; exact hP
     ·
      (try dsimp only); omega
  ·
   (try simp only [decide_eq_true_eq, decide_eq_false_iff_not, Int.not_lt, Int.not_le, Bool.or_eq_true, Bool.or_eq_false_iff] at h10)
   have hE := I10.2.1
   rw [path_end (by omega) (by omega), List.map_nil, List.append_nil] at hE
   first
   | (have hf : o ++ [({ kind := 0, n := 1, attrs := (fm chgG (((a.getD (a.length - 1) default)).attrs) (((b.getD (b.length - 1) default)).attrs)), elems := [] } : DStep)] = (diffU a b).map stepU := by rw [hD, List.map_append, ← hE]; rfl
      rw [← hf] at t1 t3 t4 t5)
   | (have hf : (o ++ [] : List DStep) = (diffU a b).map stepU := by rw [List.append_nil, hE, hD]
      rw [← hf] at t1 t3 t4 t5)
   have e2 : ((doneD (diffU a b)) : List DStep) = (tidyL (o ++ [])) := by
    rw [t1]
   exact .finE [.r [(2, X (Xap 4 dstepT 312 o [])), (3, X (Xc1 417 (fc_dTidy (o ++ []) (by assumption) (by omega) (by omega)) (rowC dstepT (o ++ []) X0)))], .r []] [] (fun z0 => (VL 4 dstepT z0, [])) ((tidyL (o ++ [])) : List DStep) ((doneD (diffU a b)) : List DStep) e2
end Go.Ch
end
