/- From the arguments that a statement quantifies over to trees, and from a contract to what the statement asks. -/
import Derived.Test.YtbdbibmbfmlobaaAbMore
import Derived.ChangeArms
import Derived.ChangeOld
import Derived.WideShapes
import Derived.DataReads
import Derived.DataElems
import Derived.Below
set_option linter.unusedVariables false
namespace Go.Ab
variable {P : Program} {W : World}

/-- Cells that stand for trees. -/
def CellsR (W : World) (Ts : List Tree) (cs : List Value) : Prop :=
  cs.length = Ts.length ∧ ∀ (j : Nat) (T : Tree) (u : Value), Ts[j]? = some T → cs[j]? = some u → TRep W (fun b => b < W.heap.size) T u
/-- What is read at type t is the form f of some a. -/
def Rd (P : Program) (t : TypeId) (k : Nat) {α : Type} (f : α → Tree) : Prop :=
  (∀ a, Elt k (f a)) ∧ P.cellsOf t = k ∧ ∀ (H : Type) (enc : TypeId × Value → H) (W : World) (fuel : Nat) (cs : List Value) (x : DataW H × List MemPlace),
    DataW.trod enc P W 0 (fun _ => true) true fuel t cs = some x → ∃ a : α, CellsR W (f a).cells cs

theorem cells1 {W : World} {T : Tree} {v : Value} (hT : T.cells = [T]) (h : TRep W (fun b => b < W.heap.size) T v) : CellsR W T.cells [v] := by
  rw [hT]
  refine ⟨rfl, fun j T' u h1 h2 => ?_⟩
  cases j with
  | zero => simp at h1 h2; subst h1; subst h2; exact h
  | succ j => simp at h1

theorem elt1 {v : Value} : Elt 1 (.sc v) := ⟨rfl, fun T hT => by simp [Tree.cells] at hT; subst hT; rfl⟩

theorem Rd.int {t : TypeId} {k : IntKind} (ht : P.underlying t = some (.int k)) (hc : P.cellsOf t = 1) : Rd P t 1 (fun z : Int => .sc (.int k z)) := by
  refine ⟨fun _ => elt1, hc, fun H enc W fuel cs x h => ?_⟩
  obtain ⟨n, rfl, _, _⟩ := DataW.trod_int ht h
  exact ⟨n, cells1 rfl (.sc _ rfl)⟩
theorem Rd.bool {t : TypeId} (ht : P.underlying t = some .bool) (hc : P.cellsOf t = 1) : Rd P t 1 (fun b : Bool => .sc (.bool b)) := by
  refine ⟨fun _ => elt1, hc, fun H enc W fuel cs x h => ?_⟩
  obtain ⟨n, rfl, _⟩ := DataW.trod_bool ht h
  exact ⟨n, cells1 rfl (.sc _ rfl)⟩
theorem Rd.str {t : TypeId} (ht : P.underlying t = some .string) (hc : P.cellsOf t = 1) : Rd P t 1 (fun s : ByteArray => .sc (.string s)) := by
  refine ⟨fun _ => elt1, hc, fun H enc W fuel cs x h => ?_⟩
  obtain ⟨n, rfl, _, _⟩ := DataW.trod_string ht h
  exact ⟨n, cells1 rfl (.sc _ rfl)⟩

theorem list_of {α : Type} (n : Nat) (p : Nat → α → Prop) (h : ∀ i, i < n → ∃ a, p i a) : ∃ l : List α, l.length = n ∧ ∀ i a, l[i]? = some a → p i a := by
  induction n with
  | zero => exact ⟨[], rfl, fun i a h => by simp at h⟩
  | succ n ih =>
    obtain ⟨l, hl, hp⟩ := ih (fun i hi => h i (by omega))
    obtain ⟨a, ha⟩ := h n (by omega)
    refine ⟨l ++ [a], by simp [hl], fun i b hb => ?_⟩
    by_cases hi : i < l.length
    · rw [List.getElem?_append_left hi] at hb; exact hp i b hb
    · rw [List.getElem?_append_right (by omega)] at hb
      by_cases e : i = n
      · subst e; rw [hl] at hb; simp at hb; subst hb; exact ha
      · have : ([a] : List α)[i - l.length]? = none := by simp; omega
        rw [this] at hb; cases hb

theorem Rd.slice {t e : TypeId} {k : Nat} {α : Type} {f : α → Tree} (ht : P.underlying t = some (.slice e)) (hk : 0 < k) (hc : P.cellsOf t = 1) (he : Rd P e k f) : Rd P t 1 (fun l : List α => .lst k (l.map f)) := by
  obtain ⟨h1, h2, h3⟩ := he
  refine ⟨fun l => ⟨rfl, fun T hT => by simp [Tree.cells] at hT; subst hT; rfl⟩, hc, fun H enc W fuel cs x h => ?_⟩
  have hx : ∀ l : List α, ∀ x ∈ l.map f, Elt k x := fun l x hx => by
    obtain ⟨a, _, rfl⟩ := List.mem_map.1 hx
    exact h1 a
  rcases DataW.trod_slice ht h with ⟨rfl, _⟩ | ⟨a, len, cap, elems, rest, n, _, rfl, _, hb, hl, hm, hlen, hel, _, _⟩
  · refine ⟨[], cells1 rfl (.lst k [] none 0 [] hk (fun x hx => by simp at hx) (Nat.le_refl _) (by simp [maxLen]) (fun h => absurd rfl h) (by simp) (fun j T u hT => by simp [flat] at hT))⟩
  · have key : ∀ i, i < len → ∃ y : α, ∃ cs', cs'.length = k ∧ (∀ r, r < k → W.cell? (a.add (i * k + r)) = cs'[r]?) ∧ CellsR W (f y).cells cs' := by
      intro i hi
      have h4 := hel i hi
      have h5 : elems[i]? = some elems[i] := by rw [List.getElem?_eq_getElem (by omega)]
      rw [h5, h2] at h4
      obtain ⟨cs', h6, h7⟩ := Option.bind_eq_some_iff.1 h4
      obtain ⟨q1, q2, q3⟩ := World.cells?_some h6
      obtain ⟨y, hy⟩ := h3 H enc W n cs' _ h7
      refine ⟨y, cs', q2, fun r hr => ?_, hy⟩
      rw [← q3 r hr]
      rw [Addr.add_add]
    obtain ⟨l, hl1, hl2⟩ := list_of len _ key
    have hspot : l ≠ [] → ∃ u, W.cell? a = some u := by
      intro hne
      have h0 : 0 < len := by rw [← hl1]; exact List.length_pos_iff.2 hne
      obtain ⟨cs', c1, c2, c3⟩ := hl2 0 l[0] (by rw [List.getElem?_eq_getElem (by omega)])
      have := c2 0 hk
      simp only [Nat.zero_mul, Nat.add_zero] at this
      rw [List.getElem?_eq_getElem (by omega)] at this
      have e : a.add 0 = a := by simp [Addr.add]
      rw [e] at this
      exact ⟨_, this⟩
    refine ⟨l, cells1 rfl ?_⟩
    have hget : ∀ j, j < len * k → ∃ u, W.cell? (a.add j) = some u ∧ ∀ T, (flat (l.map f))[j]? = some T → TRep W (fun b => b < W.heap.size) T u := by
      intro j hj
      have hi : j / k < len := Nat.div_lt_of_lt_mul (by rw [Nat.mul_comm]; exact hj)
      have hr : j % k < k := Nat.mod_lt _ hk
      have hji : j = j / k * k + j % k := by rw [Nat.mul_comm]; exact (Nat.div_add_mod j k).symm
      obtain ⟨cs', c1, c2, c3⟩ := hl2 (j / k) l[j / k] (by rw [List.getElem?_eq_getElem (by omega)])
      have c4 := c2 (j % k) hr
      rw [← hji, List.getElem?_eq_getElem (by omega)] at c4
      refine ⟨_, c4, fun T hT => ?_⟩
      rw [hji, flat_get (hx l) (i := j / k) (X := f l[j / k]) (by simp [List.getElem?_eq_getElem (show j / k < l.length by omega)]) hr] at hT
      exact c3.2 (j % k) T _ hT (by rw [List.getElem?_eq_getElem (by omega)])
    obtain ⟨us, hu1, hu2⟩ := list_of (len * k) _ hget
    have hlm : (l.map f).length = len := by simp [hl1]
    have := TRep.lst (w := W) (ok := fun b => b < W.heap.size) k (l.map f) (some a) cap us hk (hx l) (by omega) hm (fun hne => ?_) (by rw [hlm]; exact hu1) (fun j T u hT hu => (hu2 j u hu).2 T hT)
    · rw [hlm] at this; exact this
    · obtain ⟨u, hu⟩ := hspot (fun e => hne (by rw [e]; rfl))
      have hs := World.cell?_spot hu
      obtain ⟨b, o, sp⟩ := a
      simp only at hs
      subst hs
      refine ⟨b, o, rfl, ?_, fun j u hj => ?_⟩
      · simp only [World.cell?] at hu
        by_cases hb : b < W.heap.size
        · exact hb
        · rw [Array.getElem?_eq_none (by omega)] at hu; simp at hu
      · have := (hu2 j u hj).1
        rw [add_lit'] at this
        exact this

theorem Rd.map {t : TypeId} {k : Nat} {α β : Type} {f : α → Tree} {f' : β → Tree} (h : Rd P t k f) (g : α → β) (hf : ∀ a, f' (g a) = f a) (he : ∀ b, Elt k (f' b)) : Rd P t k f' := by
  obtain ⟨h1, h2, h3⟩ := h
  refine ⟨he, h2, fun H enc W fuel cs x hx => ?_⟩
  obtain ⟨a, ha⟩ := h3 H enc W fuel cs x hx
  exact ⟨g a, by rw [hf]; exact ha⟩

/-- The fields of a struct, from a cell on. -/
def RdF (P : Program) (off : Nat) (fs : List Field) (k : Nat) {β : Type} (g : β → List Tree) : Prop :=
  (∀ b, (g b).length = k ∧ ∀ T ∈ g b, T.isCell = true) ∧ ∀ (H : Type) (enc : TypeId × Value → H) (W : World) (n : Nat) (cs : List Value) (ys : List (DataW H × List MemPlace)),
    ys.length = fs.length → (∀ (i : Nat) (f : Field), fs[i]? = some f → DataW.trod enc P W 0 (fun _ => true) true n f.type ((cs.drop f.offset).take (P.cellsOf f.type)) = ys[i]?) →
    ∃ b : β, ∀ (j : Nat) (T : Tree) (u : Value), (g b)[j]? = some T → cs[off + j]? = some u → TRep W (fun b => b < W.heap.size) T u
theorem RdF.nil {off : Nat} : RdF P off [] 0 (fun _ : Unit => []) :=
  ⟨fun _ => ⟨rfl, fun T hT => by simp at hT⟩, fun H enc W n cs ys h1 h2 => ⟨(), fun j T u hT => by simp at hT⟩⟩
theorem RdF.cons {off : Nat} {f : Field} {fs : List Field} {k1 k2 : Nat} {α β : Type} {f1 : α → Tree} {g2 : β → List Tree} (ho : f.offset = off) (h : Rd P f.type k1 f1) (hs : RdF P (off + k1) fs k2 g2) : RdF P off (f :: fs) (k1 + k2) (fun p : α × β => (f1 p.1).cells ++ g2 p.2) := by
  obtain ⟨h1, h2, h3⟩ := h
  obtain ⟨s1, s2⟩ := hs
  refine ⟨fun p => ⟨by rw [List.length_append, (h1 p.1).1, (s1 p.2).1], fun T hT => ?_⟩, fun H enc W n cs ys hl hy => ?_⟩
  · rcases List.mem_append.1 hT with hT | hT
    · exact (h1 p.1).2 T hT
    · exact (s1 p.2).2 T hT
  · cases ys with
    | nil => simp at hl
    | cons y ys =>
      have e0 := hy 0 f rfl
      simp only [List.getElem?_cons_zero, ho, h2] at e0
      obtain ⟨a, ha1, ha2⟩ := h3 H enc W n _ _ e0
      obtain ⟨b, hb⟩ := s2 H enc W n cs ys (by simpa using hl) (fun i f' hf => by simpa using hy (i + 1) f' (by simpa using hf))
      refine ⟨(a, b), fun j T u hT hu => ?_⟩
      by_cases hj : j < (f1 a).cells.length
      · rw [List.getElem?_append_left hj] at hT
        have hk : j < k1 := by rw [(h1 a).1] at hj; exact hj
        refine ha2 j T u hT ?_
        rw [List.getElem?_take, if_pos hk, List.getElem?_drop]
        exact hu
      · rw [List.getElem?_append_right (by show (f1 a).cells.length ≤ j; omega)] at hT
        rw [(h1 a).1] at hj hT
        refine hb (j - k1) T u hT ?_
        rw [← hu]; congr 1; omega
theorem Rd.struct {t : TypeId} {fs : Array Field} {k : Nat} {β : Type} {g : β → List Tree} (ht : P.underlying t = some (.struct fs)) (hc : P.cellsOf t = k) (h : RdF P 0 fs.toList k g) : Rd P t k (fun b => .agg (g b)) := by
  obtain ⟨s1, s2⟩ := h
  refine ⟨fun b => s1 b, hc, fun H enc W fuel cs x hx => ?_⟩
  obtain ⟨xs, n, _, _, hl, hlen, hf⟩ := DataW.trod_struct ht hx
  obtain ⟨b, hb⟩ := s2 H enc W n cs xs (by simpa using hlen) (fun i f hi => hf i f (by simpa using hi))
  refine ⟨b, by rw [hl, hc]; exact (s1 b).1.symm, fun j T u hT hu => hb j T u hT (by simpa using hu)⟩

/-- A one-cell argument. -/
theorem Rd.arg {t : TypeId} {α : Type} {f : α → Tree} (h : Rd P t 1 f) (h1 : ∀ a, (f a).isCell = true) {H : Type} {enc : TypeId × Value → H} {v : Value} {d : DataW H} {ps : List MemPlace} (hd : DataW.Trod enc P W 0 (fun _ => true) true t v d ps) (hv : v.cells.toList = [v]) :
    ∃ a, TRep W (fun b => b < W.heap.size) (f a) v := by
  obtain ⟨fuel, hf⟩ := hd
  obtain ⟨a, c1, c2⟩ := h.2.2 H enc W fuel _ _ hf
  refine ⟨a, c2 0 _ _ ?_ (by rw [hv]; rfl)⟩
  cases hfa : f a with
  | agg cs => have := h1 a; rw [hfa] at this; cases this
  | sc v => rfl
  | lst k xs => rfl

/-- From a contract to what a statement asks. -/
theorem FC.law {f : FuncId} {args : List AVal} {v : Value} {us : List Value} (h : FC P f args emp (.t (.sc v)) emp) (hl : us.length = args.length)
    (hv : ∀ (i : Nat) (a : AVal) (u : Value), args[i]? = some a → us[i]? = some u → ∃ T, a = .t T ∧ TRep W (fun b => b < W.heap.size) T u) :
    Calls P f us.toArray W fun e w' => e = .returned v ∧ RowKit.Below W.heap.size W w' := by
  have hS : SRel (fun _ => False) emp (fun _ => (none, 0)) W := ⟨fun id o h => (by cases h), fun i j oi oj b h => (by cases h), fun id o b h => (by cases h), fun b h => h.elim⟩
  refine (h (fun _ => False) _ W us hS hl (fun i a u ha hu => ?_)).mono ?_
  · obtain ⟨T, rfl, hT⟩ := hv i a u ha hu
    exact .t T u (hT.mono (fun b hb => ⟨hb, fun h => h, fun id o h => by cases h⟩) (fun _ _ _ _ h => h))
  · rintro e w' ⟨u, m', rfl, k1, k2, k3⟩
    have := VRel.sc_inv k3
    subst this
    exact ⟨rfl, k2.os, k2.tape, k2.output, k2.size, fun b hb => k2.block b hb (.inr fun id o h => by cases h)⟩
end Go.Ab
