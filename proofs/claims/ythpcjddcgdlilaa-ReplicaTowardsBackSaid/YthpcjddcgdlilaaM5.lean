/- The oracles of the operations, each with the one thing that is asked. -/
import Derived.Test.YthpcjddcgdlilaaM1
import Derived.Test.YthpcjddcgdlilaaM2
import Derived.Test.YthpcjddcgdlilaaM3
import Derived.Test.YthpcjddcgdlilaaM4
import Derived.Test.YthpcjddcgdlilaaProg
import Derived.Maps.RangeRun
section
set_option linter.unusedVariables false
namespace Go.Ab
open Go
variable {P : Program}

structure Px (p : Prop) where
  o : Orc
  cs : List Prop
  h : p → All cs
def gdC (e : Bool) : List Prop → List Prop
  | [] => []
  | p :: l => (e = true → p) :: gdC e l
theorem gdC_all {e : Bool} : ∀ {l : List Prop}, (e = true → All l) → All (gdC e l)
  | [], _ => trivial
  | p :: l, h => ⟨fun he => (h he).1, gdC_all fun he => (h he).2⟩
/-- As it stands; behind a guard; behind a guard, with a write. -/
def X {p : Prop} (x : Px p) (h : p := by first | with_reducible exact True.intro | omega | (and_intros <;> first | omega | with_reducible rfl | with_reducible assumption | with_reducible exact True.intro | (simp only [List.length_map]; omega) | (simp; omega) | (simp; done))) : Ox := ⟨x.o, x.cs, x.h h⟩
def Xg {p : Prop} (e : Bool) (x : Px p) (h : e = true → p := by first | (intro _; with_reducible exact True.intro) | (intro hg; (try simp [-List.getD_eq_getElem?_getD] at hg); first | omega | (and_intros <;> first | omega | with_reducible rfl | with_reducible assumption | with_reducible exact True.intro | (simp only [List.length_map]; omega) | (simp; omega) | (simp [hg]; done)))) : Ox := ⟨x.o, gdC e x.cs, gdC_all fun he => x.h (h he)⟩
def Xw {p : Prop} (e : Bool) (x : Px p) (h : e = true) (hp : p) : Ox := ⟨x.o, gdC e x.cs ++ [e = true], All_app.2 ⟨gdC_all fun _ => x.h hp, h, trivial⟩⟩
def oV (v : AVal) : Orc := ⟨some v, none, none, none, []⟩
def oE (x : Tree) : Orc := ⟨none, none, some x, none, []⟩

/-- A guarded value is read: its guard. -/
def Xq {p : Prop} (e : Bool) (x : Px p) : Px (e = true ∧ p) := ⟨x.o, (e = true) :: x.cs, fun h => ⟨h.1, x.h h.2⟩⟩
/-- Conditions alone. -/
def Xc (p : Prop) : Px p := ⟨Orc.no, [p], fun h => ⟨h, trivial⟩⟩
def X0 : Px True := ⟨Orc.no, [], fun _ => trivial⟩
def Xa {p q : Prop} (x : Px p) (y : Px q) : Px (p ∧ q) := ⟨y.o, x.cs ++ y.cs, fun h => All_app.2 ⟨x.h h.1, y.h h.2⟩⟩
/-- No overflow. -/
def Xn (a : Int) : Px (-9223372036854775808 ≤ a ∧ a ≤ 9223372036854775807) := ⟨oV (VI a), [Weak (VI (IntKind.i64.wrap a)) (VI a)], fun h => ⟨Weak.of_eq (nw h), trivial⟩⟩
def Xquo (a b : Int) : Px (0 ≤ a ∧ 0 < b ∧ a ≤ 9223372036854775807) := ⟨oV (VI (a / b)), [b ≠ 0, Weak (VI (IntKind.i64.wrap (a.tdiv b))) (VI (a / b))], fun h => ⟨by omega, Weak.of_eq (quo_nn h), trivial⟩⟩
def Xrem (a b : Int) : Px (0 ≤ a ∧ 0 < b) := ⟨oV (VI (a % b)), [b ≠ 0, Weak (VI (a.tmod b)) (VI (a % b))], fun h => ⟨by omega, Weak.of_eq (rem_nn h.1), trivial⟩⟩
def Xmax (a b : Int) : Px True := ⟨oV (VI (max a b)), [Weak (VI (if b > a then b else a)) (VI (max a b))], fun _ => ⟨Weak.of_eq max_if, trivial⟩⟩
def Xmin (a b : Int) : Px True := ⟨oV (VI (min a b)), [Weak (VI (if b < a then b else a)) (VI (min a b))], fun _ => ⟨Weak.of_eq min_if, trivial⟩⟩
/-- The length of a list. -/
def Xl {α : Type} (f : α → Tree) (l : List α) : Px True := ⟨oV (VI (l.length : Int)), [Weak (VI ((l.map f).length : Int)) (VI (l.length : Int))], fun _ => ⟨Weak.of_eq len_map, trivial⟩⟩
/-- An element of a list; its number written otherwise. -/
def Xi {α : Type} [Inhabited α] (f : α → Tree) (l : List α) (j : Int) : Px (0 ≤ j ∧ j < (l.length : Int)) :=
  ⟨oE (f (l.getD j.toNat default)), [0 ≤ j, (l.map f)[j.toNat]? = some (f (l.getD j.toNat default))], fun h => ⟨h.1, elt_map h.1 h.2, trivial⟩⟩
def Xi' {α : Type} [Inhabited α] (f : α → Tree) (l : List α) (j : Int) (k : Nat) : Px (j = (k : Int) ∧ k < l.length) :=
  ⟨oE (f (l.getD k default)), [0 ≤ j, (l.map f)[j.toNat]? = some (f (l.getD k default))], fun h => ⟨by omega, elt_map' h.1 h.2, trivial⟩⟩
/-- An owned row is read whole. -/
def Xr {α : Type} (f : α → Tree) (o : List α) : Px True := ⟨Orc.no, [o.length = (o.map f).length], fun _ => ⟨List.length_map _ |>.symm, trivial⟩⟩
/-- An element of a row: its place; what is there; what is written there. -/
def Xp {α : Type} (f : α → Tree) (o : List α) (j : Int) : Px (0 ≤ j ∧ j < (o.length : Int)) :=
  ⟨Orc.no, [o.length = (o.map f).length, 0 ≤ j, j < (o.length : Int)], fun h => ⟨List.length_map _ |>.symm, h.1, h.2, trivial⟩⟩
def Xp' {α : Type} (f : α → Tree) (id : Nat) (o : List α) (j : Int) (k : Nat) : Px (j = (k : Int) ∧ k < o.length) :=
  ⟨oV (.eptr id o.length k 0), [o.length = (o.map f).length, 0 ≤ j, j < (o.length : Int), Weak (.eptr id o.length j.toNat 0) (.eptr id o.length k 0)],
    fun h => ⟨List.length_map _ |>.symm, by omega, by omega, Weak.of_eq (eptr_eq (by omega)), trivial⟩⟩
def Xe {α : Type} [Inhabited α] (f : α → Tree) (o : List α) (i : Nat) : Px (i < o.length) :=
  ⟨oE (f (o.getD i default)), [o.length = (o.map f).length, (o.map f)[i]? = some (f (o.getD i default))], fun h => ⟨List.length_map _ |>.symm, elt_nat h, trivial⟩⟩
def Xs {α : Type} [Inhabited α] (k : Nat) (f : α → Tree) (id : Nat) (o : List α) (i : Nat) (x : α) (g : List (Nat × Ob) := []) : Px (i < o.length) :=
  ⟨⟨none, some (g ++ [(id, .row k false ((o.set i x).map f))]), some (f (o.getD i default)), none, []⟩,
    [o.length = (o.map f).length, (o.map f)[i]? = some (f (o.getD i default)), g ++ [(id, Ob.row k false ((o.set i x).map f))] = g ++ [(id, Ob.row k false ((o.map f).set i (f x)))]],
    fun h => ⟨List.length_map _ |>.symm, elt_nat h, by rw [row_set rfl], trivial⟩⟩
/-- Parts of a list. -/
def Xst {α : Type} (f : α → Tree) (k : Nat) (l : List α) (hi : Int) : Px (0 ≤ hi ∧ hi ≤ (l.length : Int)) :=
  ⟨oV (VL k f (l.take hi.toNat)), [0 ≤ hi, hi ≤ (((l.map f).length : Nat) : Int), Weak (.t (.lst k ((l.map f).take hi.toNat))) (VL k f (l.take hi.toNat))], fun h => ⟨h.1, by rw [List.length_map]; exact h.2, Weak.of_eq sl_take, trivial⟩⟩
def Xsd {α : Type} (f : α → Tree) (k : Nat) (l : List α) (lo : Int) : Px (0 ≤ lo ∧ lo ≤ (l.length : Int)) :=
  ⟨oV (VL k f (l.drop lo.toNat)), [0 ≤ lo, lo ≤ (((l.map f).length : Nat) : Int), Weak (.t (.lst k ((l.map f).drop lo.toNat))) (VL k f (l.drop lo.toNat))], fun h => ⟨h.1, by rw [List.length_map]; exact h.2, Weak.of_eq sl_drop, trivial⟩⟩
def Xsb {α : Type} (f : α → Tree) (k : Nat) (l : List α) (lo hi : Int) : Px (0 ≤ lo ∧ lo ≤ hi ∧ hi ≤ (l.length : Int)) :=
  ⟨oV (VL k f ((l.take hi.toNat).drop lo.toNat)), [0 ≤ lo, lo ≤ hi, hi ≤ (((l.map f).length : Nat) : Int), Weak (.t (.lst k (((l.map f).take hi.toNat).drop lo.toNat))) (VL k f ((l.take hi.toNat).drop lo.toNat))],
    fun h => ⟨h.1, h.2.1, by rw [List.length_map]; exact h.2.2, Weak.of_eq sl_both, trivial⟩⟩
/-- The same, of an owned row. -/
def rowC {p : Prop} {α : Type} (f : α → Tree) (o : List α) (x : Px p) : Px p := ⟨x.o, (o.length = (o.map f).length) :: x.cs, fun h => ⟨List.length_map _ |>.symm, x.h h⟩⟩
theorem lm {α : Type} {n : Nat} {f : α → Tree} {o : List α} (h : n = o.length := by first | with_reducible rfl | omega | (simp; done) | (simp; omega)) : n = (o.map f).length := by rw [List.length_map]; exact h
def rowX {p : Prop} {α : Type} (n : Nat) (f : α → Tree) (o : List α) (x : Px p) (h : n = o.length := by first | omega | (simp; done) | (simp; omega)) : Px p := ⟨x.o, (n = (o.map f).length) :: x.cs, fun hp => ⟨by rw [List.length_map]; exact h, x.h hp⟩⟩
/-- The row's number is said otherwise. -/
def Xen {α : Type} [Inhabited α] (n : Nat) (f : α → Tree) (o : List α) (i : Nat) : Px (n = o.length ∧ i < o.length) :=
  ⟨oE (f (o.getD i default)), [n = (o.map f).length, (o.map f)[i]? = some (f (o.getD i default))], fun h => ⟨by rw [List.length_map]; exact h.1, elt_nat h.2, trivial⟩⟩
def Xpn {α : Type} (n : Nat) (f : α → Tree) (o : List α) (j : Int) : Px (n = o.length ∧ 0 ≤ j ∧ j < (n : Int)) :=
  ⟨Orc.no, [n = (o.map f).length, 0 ≤ j, j < (n : Int)], fun h => ⟨by rw [List.length_map]; exact h.1, h.2.1, h.2.2, trivial⟩⟩
def Xsn {α : Type} [Inhabited α] (n k : Nat) (f : α → Tree) (id : Nat) (o : List α) (i : Nat) (x : α) (g : List (Nat × Ob) := []) : Px (n = o.length ∧ i < o.length) :=
  ⟨⟨none, some (g ++ [(id, .row k false ((o.set i x).map f))]), some (f (o.getD i default)), none, []⟩,
    [n = (o.map f).length, (o.map f)[i]? = some (f (o.getD i default)), g ++ [(id, Ob.row k false ((o.set i x).map f))] = g ++ [(id, Ob.row k false ((o.map f).set i (f x)))]],
    fun h => ⟨by rw [List.length_map]; exact h.1, elt_nat h.2, by rw [row_set rfl], trivial⟩⟩
def Xapn {α : Type} (n k : Nat) (f : α → Tree) (id : Nat) (o ys : List α) : Px (n = o.length ∧ o.length + ys.length ≤ 1099511627776) :=
  ⟨⟨some (.row id (o ++ ys).length), some [(id, .row k false ((o ++ ys).map f))], none, none, []⟩,
    [n = (o.map f).length, n + (ys.map f).length ≤ 1099511627776, Weak (.row id (n + (ys.map f).length)) (.row id (o ++ ys).length), [(id, Ob.row k false ((o ++ ys).map f))] = [(id, Ob.row k false (o.map f ++ ys.map f))]],
    fun h => ⟨by rw [List.length_map]; exact h.1, by rw [List.length_map]; omega, Weak.of_eq (by rw [h.1]; simp), row_append rfl, trivial⟩⟩
/-- A byte of a string. -/
def Xb (s : ByteArray) (j : Int) : Px (0 ≤ j ∧ j < (s.size : Int)) := ⟨Orc.no, [0 ≤ j, j < (s.size : Int)], fun h => ⟨h.1, h.2, trivial⟩⟩
/-- A cell of an array in a box, its number known. -/
def Xlit (id off z len : Nat) (j : Int) (i : Nat) : Px (j = (i : Int) ∧ i < len) :=
  ⟨oV (.ptr id (off + i * z)), [0 ≤ j, j < (len : Int), Weak (.ptr id (off + j.toNat * z)) (.ptr id (off + i * z))], fun h => ⟨by omega, by omega, Weak.of_eq (by rw [show j.toNat = i by omega]), trivial⟩⟩
/-- append to nil, to a row. -/
def Xan {α : Type} (f : α → Tree) (id : Nat) (ys : List α) : Px (ys.length ≤ 1099511627776) :=
  ⟨oV (.row id ys.length), [(ys.map f).length ≤ 1099511627776, Weak (.row id (ys.map f).length) (.row id ys.length)], fun h => ⟨by rw [List.length_map]; exact h, Weak.of_eq (by rw [List.length_map]), trivial⟩⟩
def Xap {α : Type} (k : Nat) (f : α → Tree) (id : Nat) (o ys : List α) : Px (o.length + ys.length ≤ 1099511627776) :=
  ⟨⟨some (.row id (o ++ ys).length), some [(id, .row k false ((o ++ ys).map f))], none, none, []⟩,
    [o.length = (o.map f).length, o.length + (ys.map f).length ≤ 1099511627776, Weak (.row id (o.length + (ys.map f).length)) (.row id (o ++ ys).length), [(id, Ob.row k false ((o ++ ys).map f))] = [(id, Ob.row k false (o.map f ++ ys.map f))]],
    fun h => ⟨List.length_map _ |>.symm, by rw [List.length_map]; exact h, Weak.of_eq (by simp), row_append rfl, trivial⟩⟩
/-- make -/
def Xmk {α : Type} (k : Nat) (f : α → Tree) (id : Nat) (n m : Int) (z : α) : Px (0 ≤ n ∧ n ≤ m ∧ m ≤ 1099511627776) :=
  ⟨⟨none, some [(id, .row k false ((List.replicate n.toNat z).map f))], none, none, []⟩, [0 ≤ n, n ≤ m, m ≤ 1099511627776, [(id, Ob.row k false ((List.replicate n.toNat z).map f))] = [(id, Ob.row k false (List.replicate n.toNat (f z)))]],
    fun h => ⟨h.1, h.2.1, h.2.2, by rw [List.map_replicate], trivial⟩⟩
def Xmz {α : Type} (k : Nat) (f : α → Tree) (id : Nat) (n m : Int) (z : α) (zs : List Tree) (hz : TWs zs (f z).cells) : Px (0 ≤ n ∧ n ≤ m ∧ m ≤ 1099511627776) :=
  ⟨⟨none, some [(id, .row k false ((List.replicate n.toNat z).map f))], some (f z), none, []⟩, [0 ≤ n, n ≤ m, m ≤ 1099511627776, TWs zs (f z).cells, [(id, Ob.row k false ((List.replicate n.toNat z).map f))] = [(id, Ob.row k false (List.replicate n.toNat (f z)))]],
    fun h => ⟨h.1, h.2.1, h.2.2, hz, by rw [List.map_replicate], trivial⟩⟩
/-- Nil cells of a struct. -/
def Xf (l : List (Nat × Nat)) : Px True := ⟨⟨none, none, none, none, l⟩, [], fun _ => trivial⟩
def Xw' (d v : AVal) : Px (Weak d v) := ⟨oV v, [Weak d v], fun h => ⟨h, trivial⟩⟩
/-- Whatever an operation asks, given whole. -/
def Xx (o : Orc) (cs : List Prop) : Px (All cs) := ⟨o, cs, id⟩

/-! ### Rows that end earlier, tails, strings gone through -/
def Xtl {α : Type} (f : α → Tree) (n : Nat) (o : List α) (l : Int) : Px (n = o.length ∧ 0 ≤ l ∧ l ≤ (n : Int)) :=
  ⟨⟨none, none, none, none, [(0, 0)]⟩, [n = (o.map f).length, 0 ≤ l, l ≤ (n : Int)], fun h => ⟨by rw [List.length_map]; exact h.1, h.2.1, h.2.2, trivial⟩⟩
def Xclr {α : Type} (f : α → Tree) (n i : Nat) (o : List α) : Px (n = o.length ∧ i ≤ n) := ⟨Orc.no, [n = (o.map f).length, i ≤ n], fun h => ⟨by rw [List.length_map]; exact h.1, h.2, trivial⟩⟩
/-- A row that ends earlier; one whose rest was cleared. -/
def Xcut {α : Type} (f : α → Tree) (k id nid n : Nat) (o : List α) (h : Int) : Px (n = o.length ∧ 0 ≤ h ∧ h ≤ (n : Int)) :=
  ⟨⟨some (.row nid (o.take h.toNat).length), some [(id, .gone), (nid, .row k false ((o.take h.toNat).map f))], none, none, [(0, 0)]⟩,
    [n = (o.map f).length, 0 ≤ h, h ≤ (n : Int), Weak (.row nid h.toNat) (.row nid (o.take h.toNat).length), [(id, Ob.gone), (nid, .row k false ((o.take h.toNat).map f))] = [(id, Ob.gone), (nid, .row k false ((o.map f).take h.toNat))]],
    fun p => ⟨by rw [List.length_map]; exact p.1, p.2.1, p.2.2, Weak.of_eq (by rw [List.length_take]; congr 1; omega), by rw [List.map_take], trivial⟩⟩
theorem cut_eq {α : Type} {f : α → Tree} {n i : Nat} {o : List α} {X : Tree} {h : Int} (e1 : h.toNat = i) (e2 : i ≤ o.length) : ((o.map f).take i ++ List.replicate (n - i) X).take h.toNat = (o.take i).map f := by
  rw [e1, List.take_append_of_le_length (by simp; omega), List.take_take, Nat.min_self, List.map_take]
def Xcut' {α : Type} (f : α → Tree) (k id nid n i : Nat) (o : List α) (X : Tree) (h : Int) : Px (n = o.length ∧ 0 ≤ h ∧ h ≤ (n : Int) ∧ h.toNat = i ∧ i ≤ n) :=
  ⟨⟨some (.row nid (o.take i).length), some [(id, .gone), (nid, .row k false ((o.take i).map f))], none, none, [(0, 0)]⟩,
    [n = ((o.map f).take i ++ List.replicate (n - i) X).length, 0 ≤ h, h ≤ (n : Int), Weak (.row nid h.toNat) (.row nid (o.take i).length), [(id, Ob.gone), (nid, .row k false ((o.take i).map f))] = [(id, Ob.gone), (nid, .row k false (((o.map f).take i ++ List.replicate (n - i) X).take h.toNat))]],
    fun p => ⟨by simp; omega, p.2.1, p.2.2.1, Weak.of_eq (by rw [List.length_take]; congr 1; omega), by rw [cut_eq p.2.2.2.1 (by omega)], trivial⟩⟩
def Xnn {α : Type} (f : α → Tree) (l : List α) : Px (l ≠ []) := ⟨⟨none, none, none, none, [(0, 0)]⟩, [(l.map f).length ≠ 0], fun h => ⟨fun e => h (List.length_eq_zero_iff.1 (by rwa [List.length_map] at e)), trivial⟩⟩
def Xnx (s : ByteArray) (p : Nat) : Px (p < s.size) := ⟨Orc.no, [p < s.size], fun h => ⟨h, trivial⟩⟩
def Xov (s : ByteArray) (p : Nat) : Px (s.size ≤ p) := ⟨⟨none, none, none, none, [(0, 0)]⟩, [s.size ≤ p], fun h => ⟨h, trivial⟩⟩

/-- Under a guard, guarded values are read (k of them, by the same guard). -/
def rpC (e : Bool) : Nat → List Prop → List Prop
  | 0, l => l
  | k + 1, l => (e = true) :: rpC e k l
theorem rpC_all {e : Bool} (he : e = true) {l : List Prop} (h : All l) : ∀ k, All (rpC e k l)
  | 0 => h
  | k + 1 => ⟨he, rpC_all he h k⟩
def Xv {p : Prop} (k : Nat) (e : Bool) (x : Px p) (h : e = true → p := by first | (intro _; with_reducible exact True.intro) | (intro hg; (try simp [-List.getD_eq_getElem?_getD] at hg); first | omega | (and_intros <;> first | omega | with_reducible rfl | with_reducible assumption | with_reducible exact True.intro | (simp only [List.length_map]; omega) | (simp; omega) | (simp [hg]; done)))) : Ox :=
  ⟨x.o, gdC e (rpC e k x.cs), gdC_all fun he => rpC_all he (x.h (h he)) k⟩
/-- pick: 'and', 'or'. -/
def Xk (g : Bool) : Px True := ⟨Orc.no, [g = true → g = true], fun _ => ⟨id, trivial⟩⟩
def Xk' (g : Bool) : Px True := ⟨Orc.no, [g = false → (!g) = true], fun _ => ⟨fun h => by simp [h], trivial⟩⟩

def Xka (e g : Bool) : Ox := ⟨Orc.no, [e = true → e = true, e = true → g = true → (e && g) = true], ⟨id, fun h k => by rw [h, k]; rfl, trivial⟩⟩
def Xko (e g : Bool) : Ox := ⟨Orc.no, [e = true → e = true, e = true → g = false → (e && !g) = true], ⟨id, fun h k => by rw [h, k]; rfl, trivial⟩⟩
/-! ### A slice of slices -/
theorem mat_at {α : Type} [Inhabited α] {f : α → Tree} {l : List α} {k : Nat} (h : k < l.length) : (matC (l.map f) none)[k]? = some (.t (f (l.getD k default))) := by
  simp [matC, List.getD, List.getElem?_eq_getElem h]
theorem mat_at' {α : Type} [Inhabited α] {f : α → Tree} {l : List α} {k i r n : Nat} (h : k < l.length) (hk : k ≠ i) : (matC (l.map f) (some (i, r, n)))[k]? = some (.t (f (l.getD k default))) := by
  simp only [matC, List.getElem?_set]
  rw [if_neg (fun e => hk e.symm)]
  simp [List.getD, List.getElem?_eq_getElem h]
def Xmm {α : Type} (f : α → Tree) (id : Nat) (n m : Int) (z : α) (zs : List Tree) (hz : TWs zs (f z).cells) : Px (0 ≤ n ∧ n = m ∧ m ≤ 1099511627776) :=
  ⟨⟨none, some [(id, .mat false ((List.replicate n.toNat z).map f) none)], some (f z), none, [(0, 0)]⟩, [0 ≤ n, n = m, m ≤ 1099511627776, TWs zs (f z).cells, [(id, Ob.mat false ((List.replicate n.toNat z).map f) none)] = [(id, Ob.mat false (List.replicate n.toNat (f z)) none)]],
    fun h => ⟨h.1, h.2.1, h.2.2, hz, by rw [List.map_replicate], trivial⟩⟩
def Xmi {α : Type} (f : α → Tree) (l : List α) (j : Int) : Px (0 ≤ j ∧ j < (l.length : Int)) := ⟨Orc.no, [0 ≤ j, j < ((l.map f).length : Int)], fun h => ⟨h.1, by rw [List.length_map]; exact h.2, trivial⟩⟩
def Xmi' {α : Type} (f : α → Tree) (id : Nat) (l : List α) (j : Int) (k : Nat) : Px (j = (k : Int) ∧ k < l.length) := ⟨oV (.mptr id k), [0 ≤ j, j < ((l.map f).length : Int), Weak (.mptr id j.toNat) (.mptr id k)], fun h => ⟨by omega, by rw [List.length_map]; omega, Weak.of_eq (by rw [show j.toNat = k by omega]), trivial⟩⟩
def Xml {α : Type} [Inhabited α] (f : α → Tree) (l : List α) (k : Nat) : Px (k < l.length) := ⟨⟨none, none, some (f (l.getD k default)), none, []⟩, [(matC (l.map f) none)[k]? = some (.t (f (l.getD k default)))], fun h => ⟨mat_at h, trivial⟩⟩
def Xml' {α : Type} [Inhabited α] (f : α → Tree) (l : List α) (k i r n : Nat) : Px (k < l.length ∧ k ≠ i) := ⟨⟨none, none, some (f (l.getD k default)), none, []⟩, [(matC (l.map f) (some (i, r, n)))[k]? = some (.t (f (l.getD k default)))], fun h => ⟨mat_at' h.1 h.2, trivial⟩⟩
def Xmh {α : Type} (f : α → Tree) (l : List α) (k i : Nat) : Px (k = i ∧ i < l.length) := ⟨Orc.no, [k = i, i < (l.map f).length], fun h => ⟨h.1, by rw [List.length_map]; exact h.2, trivial⟩⟩
def Xms {α : Type} (f : α → Tree) (l : List α) (k : Nat) : Px (k < l.length) := ⟨Orc.no, [k < (l.map f).length], fun h => ⟨by rw [List.length_map]; exact h, trivial⟩⟩
/-! ### Calls -/
theorem FC.nil {f : FuncId} {args : List AVal} {res : AVal} {st st' : Store} (i k : Nat) (h : FC P f args st res st') (hi : args[i]? = some (.t (.lst k [])) := by kernel_rfl) (hk : Nat.blt 0 k = true := by kernel_rfl) : FC P f (args.set i VN) st res st' := by
  intro F m w us hS hl hv
  refine h F m w us hS (by simpa using hl) (fun j v u hj hu => ?_)
  by_cases e : i = j
  · subst e
    rw [hi] at hj
    cases hj
    have hlt := (List.getElem?_eq_some_iff.1 hi).1
    have := hv i VN u (by simp [hlt]) hu
    exact nil_lst (Nat.lt_of_succ_le (Nat.le_of_ble_eq_true hk)) _ _ _ _ _ this
  · exact hv j v u (by rw [List.getElem?_set_ne e]; exact hj) hu
/-- A callee that makes nothing; what its arguments ask ahead. -/
def Xc0 {p : Prop} {f : FuncId} {args : List AVal} {res : AVal} (h : FC P f args emp res emp) (x : Px p) (hc : callable P f = true := by kernel_rfl) : Px p :=
  ⟨⟨none, none, none, some ⟨0, [], res, []⟩, []⟩, (callable P f = true) :: (x.cs ++ [FC P f args emp res emp]), fun hp => ⟨hc, All_app.2 ⟨x.h hp, h, trivial⟩⟩⟩
/-- Behind a guard that the callee's contract leans on. -/
def Xc0g {p : Prop} {e : Bool} {f : FuncId} {args : List AVal} {res : AVal} (h : e = true → FC P f args emp res emp) (x : Px p) (hc : callable P f = true := by kernel_rfl) : Px (e = true ∧ p) :=
  ⟨⟨none, none, none, some ⟨0, [], res, []⟩, []⟩, (callable P f = true) :: (x.cs ++ [FC P f args emp res emp]), fun hp => ⟨hc, All_app.2 ⟨x.h hp.2, h hp.1, trivial⟩⟩⟩
def freshT : Nat → List (Nat × Ob) → List (Nat × Nat) → List (Nat × Nat)
  | _, [], _ => []
  | nid, (i, _) :: l, τ => match lk τ i with
    | some _ => freshT nid l τ
    | none => (i, nid) :: freshT (nid + 1) l τ
def orL {α : Type} (o : Option (List α)) : List α := o.getD []
def orV (o : Option AVal) : AVal := o.getD .junk
def ck1 (τ : List (Nat × Nat)) (res : AVal) (l1 : List (Nat × Ob)) : Bool := nodupB (τ.map (·.1)) && nodupB (τ.map (·.2)) && (renStore τ (app emp l1) τ).isSome && (renV τ res).isSome
theorem renL_nil_inv {args : List AVal} (h : renL [] args = some args) : renL (inv []) args = some args := h
theorem FC.fresh {f : FuncId} {args : List AVal} {res : AVal} {l1 : List (Nat × Ob)} (τ : List (Nat × Nat)) (h : FC P f args emp res (app emp l1)) (ha : renL [] args = some args) (hk : ck1 τ res l1 = true) :
    FC P f args emp (orV (renV τ res)) (app emp (orL (renStore τ (app emp l1) τ))) := by
  simp only [ck1, Bool.and_eq_true] at hk
  obtain ⟨⟨⟨k1, k2⟩, k3⟩, k4⟩ := hk
  obtain ⟨l', e3⟩ := Option.isSome_iff_exists.1 k3
  obtain ⟨r', e4⟩ := Option.isSome_iff_exists.1 k4
  refine FC.ren (l0 := []) (l0' := []) h [] τ (by simp [nodupB, k1, k2]) rfl (renL_nil_inv ha) rfl ?_ ?_
  · rw [e3]; rfl
  · rw [e4]; rfl
/-- A callee that makes objects of its own. -/
def Xc1 {p : Prop} {f : FuncId} {args : List AVal} {res : AVal} {l1 : List (Nat × Ob)} (nid : Nat) (h : FC P f args emp res (app emp l1)) (x : Px p) (ha : renL [] args = some args := by kernel_rfl)
    (hk : ck1 (freshT nid l1 []) res l1 = true := by kernel_rfl) (hc : callable P f = true := by kernel_rfl) : Px p :=
  ⟨⟨none, none, none, some ⟨1, [], orV (renV (freshT nid l1 []) res), orL (renStore (freshT nid l1 []) (app emp l1) (freshT nid l1 []))⟩, []⟩,
    (callable P f = true) :: (x.cs ++ [FC P f args emp (orV (renV (freshT nid l1 []) res)) (app emp (orL (renStore (freshT nid l1 []) (app emp l1) (freshT nid l1 []))))]),
    fun hp => ⟨hc, All_app.2 ⟨x.h hp, FC.fresh _ h ha hk, trivial⟩⟩⟩
def sndL : List (Nat × Nat) → List Nat
  | [] => []
  | (_, j) :: l => j :: sndL l
def ck3 (τ0 τ : List (Nat × Nat)) (args : List AVal) (l0 : List (Nat × Ob)) (res : AVal) (l1 : List (Nat × Ob)) : Bool :=
  (nodupB (τ0.map (·.1)) && nodupB (τ0.map (·.2)) && nodupB (τ.map (·.1)) && nodupB (τ.map (·.2)) && τ0.all (fun p => match lk τ p.1 with | some j => Nat.beq j p.2 | none => false)) &&
    (orL (renStore τ0 (app emp l0) τ0)).all (fun x => hasId (τ0.map (·.2)) x.1) && (renStore τ (app emp l1) τ).isSome && (renV τ res).isSome &&
    (orL (renStore τ0 (app emp l0) τ0)).all (fun x => hasId ((orL (renStore τ (app emp l1) τ)).map (·.1)) x.1)
theorem app_over {a b : List (Nat × Ob)} (h : ∀ x ∈ a, x.1 ∈ b.map (·.1)) : app (app emp a) b = app emp b := by
  funext i
  by_cases hi : i ∈ b.map (·.1)
  · exact app_at (.inl hi)
  · rw [app_not hi, app_not hi]
    refine app_not (fun hm => ?_)
    obtain ⟨x, hx, rfl⟩ := List.mem_map.1 hm
    exact hi (h x hx)
theorem FC.obj {f : FuncId} {args : List AVal} {res : AVal} {l0 l1 : List (Nat × Ob)} (τ0 τ : List (Nat × Nat)) (h : FC P f args (app emp l0) res (app emp l1)) (hk : ck3 τ0 τ args l0 res l1 = true)
    (h0 : renStore (inv τ0) (app emp (orL (renStore τ0 (app emp l0) τ0))) (inv τ0) = some l0) (ha : renL (inv τ0) (orL (renL τ0 args)) = some args) :
    FC P f (orL (renL τ0 args)) (app emp (orL (renStore τ0 (app emp l0) τ0))) (orV (renV τ res)) (app (app emp (orL (renStore τ0 (app emp l0) τ0))) (orL (renStore τ (app emp l1) τ))) := by
  simp only [ck3, Bool.and_eq_true] at hk
  obtain ⟨⟨⟨⟨k1, k2⟩, k3⟩, k4⟩, k5⟩ := hk
  obtain ⟨l', e3⟩ := Option.isSome_iff_exists.1 k3
  obtain ⟨r', e4⟩ := Option.isSome_iff_exists.1 k4
  rw [app_over (fun x hx => hasId_iff.1 (List.all_eq_true.1 k5 x hx))]
  refine FC.ren h τ0 τ (by simp only [Bool.and_eq_true]; exact k1) h0 ha k2 ?_ ?_
  · rw [e3]; rfl
  · rw [e4]; rfl
/-- A callee that is handed objects. -/
def Xc3 {p : Prop} {f : FuncId} {args : List AVal} {res : AVal} {l0 l1 : List (Nat × Ob)} (nid : Nat) (τ0 : List (Nat × Nat)) (h : FC P f args (app emp l0) res (app emp l1)) (x : Px p)
    (hk : ck3 τ0 (τ0 ++ freshT nid l1 τ0) args l0 res l1 = true := by kernel_rfl)
    (h0 : renStore (inv τ0) (app emp (orL (renStore τ0 (app emp l0) τ0))) (inv τ0) = some l0 := by kernel_rfl) (ha : renL (inv τ0) (orL (renL τ0 args)) = some args := by kernel_rfl) (hc : callable P f = true := by kernel_rfl) : Px p :=
  ⟨⟨none, none, none, some ⟨3, sndL τ0, orV (renV (τ0 ++ freshT nid l1 τ0) res), orL (renStore (τ0 ++ freshT nid l1 τ0) (app emp l1) (τ0 ++ freshT nid l1 τ0))⟩, []⟩,
    [callable P f = true, FC P f (orL (renL τ0 args)) (app emp (orL (renStore τ0 (app emp l0) τ0))) (orV (renV (τ0 ++ freshT nid l1 τ0) res)) (app (app emp (orL (renStore τ0 (app emp l0) τ0))) (orL (renStore (τ0 ++ freshT nid l1 τ0) (app emp l1) (τ0 ++ freshT nid l1 τ0))))],
    fun hp => ⟨hc, FC.obj _ _ h hk h0 ha, trivial⟩⟩
/-- One that only reads them. -/
theorem FC.objr {f : FuncId} {args : List AVal} {res : AVal} {l0 : List (Nat × Ob)} (τ0 : List (Nat × Nat)) (h : FC P f args (app emp l0) res (app emp l0)) (hk : ck3 τ0 τ0 args l0 res l0 = true)
    (h0 : renStore (inv τ0) (app emp (orL (renStore τ0 (app emp l0) τ0))) (inv τ0) = some l0) (ha : renL (inv τ0) (orL (renL τ0 args)) = some args) :
    FC P f (orL (renL τ0 args)) (app emp (orL (renStore τ0 (app emp l0) τ0))) (orV (renV τ0 res)) (app (app emp (orL (renStore τ0 (app emp l0) τ0))) []) := by
  have := FC.obj τ0 τ0 h hk h0 ha
  simp only [ck3, Bool.and_eq_true] at hk
  rw [app_over (fun x hx => hasId_iff.1 (List.all_eq_true.1 hk.2 x hx))] at this
  exact this
def Xc4 {p : Prop} {f : FuncId} {args : List AVal} {res : AVal} {l0 : List (Nat × Ob)} (τ0 : List (Nat × Nat)) (h : FC P f args (app emp l0) res (app emp l0)) (x : Px p)
    (hk : ck3 τ0 τ0 args l0 res l0 = true := by kernel_rfl)
    (h0 : renStore (inv τ0) (app emp (orL (renStore τ0 (app emp l0) τ0))) (inv τ0) = some l0 := by kernel_rfl) (ha : renL (inv τ0) (orL (renL τ0 args)) = some args := by kernel_rfl) (hc : callable P f = true := by kernel_rfl) : Px p :=
  ⟨⟨none, none, none, some ⟨3, sndL τ0, orV (renV τ0 res), []⟩, []⟩,
    [callable P f = true, FC P f (orL (renL τ0 args)) (app emp (orL (renStore τ0 (app emp l0) τ0))) (orV (renV τ0 res)) (app (app emp (orL (renStore τ0 (app emp l0) τ0))) [])],
    fun hp => ⟨hc, FC.objr _ h hk h0 ha, trivial⟩⟩
theorem pr {α β : Type} {a b : α} {c d : β} (h : a = b) (k : c = d) : (a, c) = (b, d) := by rw [h, k]
def Xcv (k : IntKind) (z : Int) : Px (k.wrap z = z) := ⟨oV (.t (.sc (.int k z))), [Weak (.t (.sc (.int k (k.wrap z)))) (.t (.sc (.int k z)))], fun h => ⟨Weak.of_eq (by rw [h]), trivial⟩⟩
/-- Bytes as a string. -/
def byteT (z : Int) : Tree := .sc (.int .u8 z)
def intsB (s : ByteArray) : List Int := s.data.toList.map fun b => (b.toNat : Int)
def Xstr (n : Nat) (l : List Int) (s : ByteArray) : Px (n = l.length ∧ l = intsB s) :=
  ⟨oE (.sc (.string s)), [n = (l.map byteT).length, l.map byteT = bytesT s], fun h => ⟨by rw [List.length_map]; exact h.1, by rw [h.2]; unfold intsB bytesT; rw [List.map_map]; rfl, trivial⟩⟩
/-- Bits and shifts, as arithmetic. -/
def Xbit (k : IntKind) (y z : Int) : Px (y = z) := ⟨oV (.t (.sc (.int k z))), [Weak (.t (.sc (.int k y))) (.t (.sc (.int k z)))], fun h => ⟨Weak.of_eq (by rw [h]), trivial⟩⟩
def Xsh (k : IntKind) (b y z : Int) : Px (0 ≤ b ∧ y = z) := ⟨oV (.t (.sc (.int k z))), [0 ≤ b, Weak (.t (.sc (.int k y))) (.t (.sc (.int k z)))], fun h => ⟨h.1, Weak.of_eq (by rw [h.2]), trivial⟩⟩
end Go.Ab
end
section
set_option linter.unusedVariables false
set_option linter.unusedSimpArgs false
namespace Go.Ch
open Go Go.Ab

structure Attr where
  name : ByteArray
  val : ByteArray
abbrev mt : ByteArray := { data := #[] }
instance : Inhabited Attr := ⟨⟨mt, mt⟩⟩
def attrT (a : Attr) : Tree := .agg [.sc (.string a.name), .sc (.string a.val)]

/-! ### The order of strings -/
theorem byt_ext {a b : ByteArray} (h : a.toList = b.toList) : a = b := by
  rw [ByteArray.toList_eq, ByteArray.toList_eq] at h
  obtain ⟨⟨x⟩⟩ := a
  obtain ⟨⟨y⟩⟩ := b
  simpa using h
theorem seq_iff {a b : ByteArray} : seq a b = true ↔ a = b := by
  unfold seq
  rw [beq_iff_eq]
  exact ⟨byt_ext, fun h => by rw [h]⟩
theorem seq_no {a b : ByteArray} : seq a b = false ↔ a ≠ b := by
  rw [← Bool.not_eq_true, seq_iff]
theorem bl_irr : ∀ x : List UInt8, Op.bytesLess x x = false
  | [] => rfl
  | a :: x => by simp [Op.bytesLess, bl_irr x]
theorem bl_trans : ∀ x y z : List UInt8, Op.bytesLess x y = true → Op.bytesLess y z = true → Op.bytesLess x z = true
  | _, _, [], _, h => by cases ‹List UInt8› <;> simp [Op.bytesLess] at h
  | [], _, _ :: _, _, _ => rfl
  | a :: x, [], _ :: _, h, _ => by simp [Op.bytesLess] at h
  | a :: x, b :: y, c :: z, h1, h2 => by
    simp only [Op.bytesLess, Bool.or_eq_true, decide_eq_true_eq, Bool.and_eq_true, beq_iff_eq, UInt8.lt_iff_toNat_lt, ← UInt8.toNat_inj] at h1 h2 ⊢
    rcases h1 with h1 | ⟨h1, h1'⟩
    · rcases h2 with h2 | ⟨h2, h2'⟩ <;> (left; omega)
    · rcases h2 with h2 | ⟨h2, h2'⟩
      · left; omega
      · right; exact ⟨by omega, bl_trans x y z h1' h2'⟩
theorem bl_tri : ∀ x y : List UInt8, Op.bytesLess x y = false → Op.bytesLess y x = false → x = y
  | [], [], _, _ => rfl
  | [], _ :: _, h, _ => by simp [Op.bytesLess] at h
  | _ :: _, [], _, h => by simp [Op.bytesLess] at h
  | a :: x, b :: y, h1, h2 => by
    simp only [Op.bytesLess, Bool.or_eq_false_iff, decide_eq_false_iff_not, Bool.and_eq_false_iff, beq_eq_false_iff_ne, UInt8.lt_iff_toNat_lt, ne_eq, ← UInt8.toNat_inj] at h1 h2
    have e : a.toNat = b.toNat := by omega
    have h1' : Op.bytesLess x y = false := by rcases h1.2 with h | h; exact absurd e h; exact h
    have h2' : Op.bytesLess y x = false := by rcases h2.2 with h | h; exact absurd e.symm h; exact h
    rw [UInt8.toNat_inj.1 e, bl_tri x y h1' h2']
theorem slt_irr (a : ByteArray) : slt a a = false := bl_irr _
theorem slt_trans {a b c : ByteArray} (h : slt a b = true) (k : slt b c = true) : slt a c = true := bl_trans _ _ _ h k
theorem slt_tri {a b : ByteArray} (h : slt a b = false) (k : slt b a = false) : a = b := byt_ext (bl_tri _ _ h k)
theorem slt_ne {a b : ByteArray} (h : slt a b = true) : a ≠ b := fun e => by subst e; rw [slt_irr] at h; cases h
/-! ### Lists in order -/
/-- All names are greater than n. -/
def Above (n : ByteArray) (l : List Attr) : Prop := ∀ a ∈ l, slt n a.name = true
def Sorted : List Attr → Prop
  | [] => True
  | a :: l => Above a.name l ∧ Sorted l
def look : List Attr → ByteArray → Option ByteArray
  | [], _ => none
  | a :: l, n => if a.name = n then some a.val else look l n
theorem look_above {l : List Attr} {n : ByteArray} (h : ∀ a ∈ l, a.name ≠ n) : look l n = none := by
  induction l with
  | nil => rfl
  | cons a l ih => rw [look, if_neg (h a (by simp))]; exact ih (fun b hb => h b (by simp [hb]))
theorem look_mem {l : List Attr} {n v : ByteArray} (h : look l n = some v) : (⟨n, v⟩ : Attr) ∈ l := by
  induction l with
  | nil => cases h
  | cons a l ih =>
    rw [look] at h
    split at h
    · rename_i hn
      cases h
      subst hn
      exact List.mem_cons_self
    · exact List.mem_cons_of_mem _ (ih h)
theorem look_of_mem {l : List Attr} (hs : Sorted l) {a : Attr} (h : a ∈ l) : look l a.name = some a.val := by
  induction l with
  | nil => cases h
  | cons b l ih =>
    rw [look]
    rcases List.mem_cons.1 h with rfl | h
    · rw [if_pos rfl]
    · rw [if_neg (slt_ne (hs.1 a h))]; exact ih hs.2 h
theorem sorted_ext : ∀ {a b : List Attr}, Sorted a → Sorted b → (∀ n, look a n = look b n) → a = b
  | [], [], _, _, _ => rfl
  | [], y :: b, _, _, h => by have := h y.name; simp [look] at this
  | x :: a, [], _, _, h => by have := h x.name; simp [look] at this
  | x :: a, y :: b, ha, hb, h => by
    have hxy : x.name = y.name := by
      refine slt_tri ?_ ?_
      · cases k : slt x.name y.name with
        | false => rfl
        | true =>
          have h1 := h x.name
          rw [look, if_pos rfl, look, if_neg (fun e => slt_ne k e.symm), look_above (fun z hz e => slt_ne (slt_trans k (hb.1 z hz)) e.symm)] at h1
          cases h1
      · cases k : slt y.name x.name with
        | false => rfl
        | true =>
          have h1 := h y.name
          rw [look, if_neg (fun e => slt_ne k e.symm), look_above (fun z hz e => slt_ne (slt_trans k (ha.1 z hz)) e.symm), look, if_pos rfl] at h1
          cases h1
    have hv : x.val = y.val := by
      have h1 := h x.name
      rw [look, if_pos rfl, look, if_pos hxy.symm] at h1
      exact Option.some.inj h1
    have e : x = y := by cases x; cases y; simp_all
    subst e
    rw [sorted_ext ha.2 hb.2 (fun n => ?_)]
    by_cases hn : x.name = n
    · subst hn
      rw [look_above (fun z hz e => slt_ne (ha.1 z hz) e.symm), look_above (fun z hz e => slt_ne (hb.1 z hz) e.symm)]
    · have h1 := h n
      rwa [look, if_neg hn, look, if_neg hn] at h1

/-! ### Two lists at once -/
def bothL : List Attr → List Attr → List (Attr × Attr)
  | [], [] => []
  | [], y :: b => (default, y) :: bothL [] b
  | x :: a, [] => (x, default) :: bothL a []
  | x :: a, y :: b =>
    if slt x.name y.name = true then (x, default) :: bothL a (y :: b)
    else if slt y.name x.name = true then (default, y) :: bothL (x :: a) b
    else (x, y) :: bothL a b
termination_by a b => a.length + b.length
theorem bothL_len : ∀ a b : List Attr, (bothL a b).length ≤ a.length + b.length := by
  intro a b
  induction a, b using bothL.induct with
  | case1 => simp [bothL]
  | case2 y b ih => simp only [bothL, List.length_cons] at ih ⊢; omega
  | case3 x a ih => simp only [bothL, List.length_cons] at ih ⊢; omega
  | case4 x a y b h ih => rw [bothL, if_pos h]; simp only [List.length_cons] at ih ⊢; omega
  | case5 x a y b h k ih => rw [bothL, if_neg h, if_pos k]; simp only [List.length_cons] at ih ⊢; omega
  | case6 x a y b h k ih => rw [bothL, if_neg h, if_neg k]; simp only [List.length_cons] at ih ⊢; omega

def Named (l : List Attr) : Prop := ∀ a ∈ l, a.name ≠ mt
/-- What a visitor may make of a pair: nothing, or an attribute of that name. -/
def Fair (g : Attr → Attr → Option Attr) : Prop := ∀ x y z, g x y = some z → z.name = if y.name = mt then x.name else y.name
def fm (g : Attr → Attr → Option Attr) (a b : List Attr) : List Attr := (bothL a b).filterMap fun p => g p.1 p.2
/-- What the visitor makes of what both lists have under a name. -/
def at2 (g : Attr → Attr → Option Attr) (n : ByteArray) : Option ByteArray → Option ByteArray → Option ByteArray
  | none, none => none
  | some v, none => (g ⟨n, v⟩ default).map (·.val)
  | none, some w => (g default ⟨n, w⟩).map (·.val)
  | some v, some w => (g ⟨n, v⟩ ⟨n, w⟩).map (·.val)

theorem fm_cons {g : Attr → Attr → Option Attr} {x y : Attr} {l : List (Attr × Attr)} : ((x, y) :: l).filterMap (fun p => g p.1 p.2) = (g x y).toList ++ l.filterMap (fun p => g p.1 p.2) := by
  rw [List.filterMap_cons]
  cases g x y <;> rfl
theorem look_opt {o : Option Attr} {l : List Attr} {k n : ByteArray} (h : ∀ z, o = some z → z.name = k) : look (o.toList ++ l) n = if k = n then (o.map (·.val)).or (look l n) else look l n := by
  cases o with
  | none => simp
  | some z =>
    have := h z rfl
    subst this
    simp [look]
theorem above_opt {o : Option Attr} {l : List Attr} {k n : ByteArray} (h : ∀ z, o = some z → z.name = k) (hn : slt n k = true) (hl : Above n l) : Above n (o.toList ++ l) := by
  intro a ha
  rcases List.mem_append.1 ha with ha | ha
  · rw [h a (by simpa using ha)]; exact hn
  · exact hl a ha
theorem sorted_opt {o : Option Attr} {l : List Attr} {k : ByteArray} (h : ∀ z, o = some z → z.name = k) (hl : Above k l) (hs : Sorted l) : Sorted (o.toList ++ l) := by
  cases o with
  | none => exact hs
  | some z => exact ⟨by rw [h z rfl]; exact hl, hs⟩

theorem look_hd {a : Attr} {l : List Attr} : look (a :: l) a.name = some a.val := by rw [look, if_pos rfl]
theorem look_tl {a : Attr} {l : List Attr} {n : ByteArray} (h : a.name ≠ n) : look (a :: l) n = look l n := by rw [look, if_neg h]
theorem fm_main {g : Attr → Attr → Option Attr} (hg : Fair g) : ∀ (a b : List Attr), Sorted a → Sorted b → Named a → Named b →
    Sorted (fm g a b) ∧ (∀ n, Above n a → Above n b → Above n (fm g a b)) ∧ ∀ n, look (fm g a b) n = at2 g n (look a n) (look b n) := by
  intro a b
  induction a, b using bothL.induct with
  | case1 => intro _ _ _ _; exact ⟨by simp [fm, bothL, Sorted], fun n _ _ => by simp [fm, bothL, Above], fun n => by simp [fm, bothL, look, at2]⟩
  | case2 y b ih =>
    intro _ hb _ nb
    obtain ⟨i1, i2, i3⟩ := ih trivial hb.2 (fun _ h => by cases h) (fun a h => nb a (by simp [h]))
    have hk : ∀ z, g default y = some z → z.name = y.name := fun z hz => by rw [hg _ _ z hz, if_neg (nb y (by simp))]
    have e : fm g [] (y :: b) = (g default y).toList ++ fm g [] b := by unfold fm; rw [bothL, fm_cons]
    rw [e]
    refine ⟨sorted_opt hk (i2 _ (fun _ h => by cases h) hb.1) i1, fun n h1 h2 => above_opt hk (h2 y (by simp)) (i2 n h1 (fun a h => h2 a (by simp [h]))), fun n => ?_⟩
    rw [look_opt hk, i3]
    simp only [look]
    by_cases h : y.name = n
    · subst h
      rw [look_above (l := b) (fun z hz e => slt_ne (hb.1 z hz) e.symm)]
      simp [at2]
    · simp only [if_neg h]
  | case3 x a ih =>
    intro ha _ na _
    obtain ⟨i1, i2, i3⟩ := ih ha.2 trivial (fun a h => na a (by simp [h])) (fun _ h => by cases h)
    have hk : ∀ z, g x default = some z → z.name = x.name := fun z hz => by rw [hg _ _ z hz]; exact if_pos rfl
    have e : fm g (x :: a) [] = (g x default).toList ++ fm g a [] := by unfold fm; rw [bothL, fm_cons]
    rw [e]
    refine ⟨sorted_opt hk (i2 _ ha.1 (fun _ h => by cases h)) i1, fun n h1 h2 => above_opt hk (h1 x (by simp)) (i2 n (fun a h => h1 a (by simp [h])) h2), fun n => ?_⟩
    rw [look_opt hk, i3]
    simp only [look]
    by_cases h : x.name = n
    · subst h
      rw [look_above (l := a) (fun z hz e => slt_ne (ha.1 z hz) e.symm)]
      simp [at2]
    · simp only [if_neg h]
  | case4 x a y b h ih =>
    intro ha hb na nb
    obtain ⟨i1, i2, i3⟩ := ih ha.2 hb (fun a h => na a (by simp [h])) nb
    have hk : ∀ z, g x default = some z → z.name = x.name := fun z hz => by rw [hg _ _ z hz]; exact if_pos rfl
    have e : fm g (x :: a) (y :: b) = (g x default).toList ++ fm g a (y :: b) := by unfold fm; rw [bothL, if_pos h, fm_cons]
    have hxb : Above x.name (y :: b) := fun z hz => by
      rcases List.mem_cons.1 hz with rfl | hz
      · exact h
      · exact slt_trans h (hb.1 z hz)
    rw [e]
    refine ⟨sorted_opt hk (i2 _ ha.1 hxb) i1, fun n h1 h2 => above_opt hk (h1 x (by simp)) (i2 n (fun a h => h1 a (by simp [h])) h2), fun n => ?_⟩
    rw [look_opt hk, i3]
    by_cases hn : x.name = n
    · subst hn
      rw [look_above (l := y :: b) (fun z hz e => slt_ne (hxb z hz) e.symm), look_above (l := a) (fun z hz e => slt_ne (ha.1 z hz) e.symm), look_hd]
      simp [at2]
    · rw [if_neg hn, look_tl hn]
  | case5 x a y b h k ih =>
    intro ha hb na nb
    obtain ⟨i1, i2, i3⟩ := ih ha hb.2 na (fun a h => nb a (by simp [h]))
    have hk : ∀ z, g default y = some z → z.name = y.name := fun z hz => by rw [hg _ _ z hz, if_neg (nb y (by simp))]
    have e : fm g (x :: a) (y :: b) = (g default y).toList ++ fm g (x :: a) b := by unfold fm; rw [bothL, if_neg h, if_pos k, fm_cons]
    have hya : Above y.name (x :: a) := fun z hz => by
      rcases List.mem_cons.1 hz with rfl | hz
      · exact k
      · exact slt_trans k (ha.1 z hz)
    rw [e]
    refine ⟨sorted_opt hk (i2 _ hya hb.1) i1, fun n h1 h2 => above_opt hk (h2 y (by simp)) (i2 n h1 (fun a h => h2 a (by simp [h]))), fun n => ?_⟩
    rw [look_opt hk, i3]
    by_cases hn : y.name = n
    · subst hn
      rw [look_above (l := x :: a) (fun z hz e => slt_ne (hya z hz) e.symm), look_above (l := b) (fun z hz e => slt_ne (hb.1 z hz) e.symm), look_hd]
      simp [at2]
    · rw [if_neg hn, look_tl (a := y) hn]
  | case6 x a y b h k ih =>
    intro ha hb na nb
    obtain ⟨i1, i2, i3⟩ := ih ha.2 hb.2 (fun a h => na a (by simp [h])) (fun a h => nb a (by simp [h]))
    have hxy : x.name = y.name := slt_tri (by simpa using h) (by simpa using k)
    have hk : ∀ z, g x y = some z → z.name = x.name := fun z hz => by rw [hg _ _ z hz, if_neg (nb y (by simp)), hxy]
    have e : fm g (x :: a) (y :: b) = (g x y).toList ++ fm g a b := by unfold fm; rw [bothL, if_neg h, if_neg k, fm_cons]
    rw [e]
    refine ⟨sorted_opt hk (i2 _ ha.1 (by rw [hxy]; exact hb.1)) i1, fun n h1 h2 => above_opt hk (h1 x (by simp)) (i2 n (fun a h => h1 a (by simp [h])) (fun a h => h2 a (by simp [h]))), fun n => ?_⟩
    rw [look_opt hk, i3]
    by_cases hn : x.name = n
    · subst hn
      have ey : (⟨x.name, y.val⟩ : Attr) = y := by rw [hxy]
      have hl : look (y :: b) x.name = some y.val := by rw [hxy]; exact look_hd
      rw [hl, look_hd, look_above (l := a) (fun z hz e => slt_ne (ha.1 z hz) e.symm), look_above (l := b) (fun z hz e => slt_ne (hb.1 z hz) (by rw [← hxy, e]))]
      simp [at2, ey]
    · rw [if_neg hn, look_tl hn, look_tl (a := y) (by rw [← hxy]; exact hn)]


/-! ### The four visitors -/
theorem dflt : (default : Attr) = ⟨mt, mt⟩ := rfl
def rawG (x y : Attr) : Option Attr := if y.name = mt then some x else if y.val = mt then none else some y
def chgG (x y : Attr) : Option Attr := if y.name = mt then some ⟨x.name, mt⟩ else if x.name = y.name ∧ x.val = y.val then none else some y
def botG (x y : Attr) : Option Attr := some (if y.name = mt then x else y)
def wioG (x y : Attr) : Option Attr := if y.name = mt then some x else none
theorem fair_raw : Fair rawG := by intro x y z h; unfold rawG at h; (repeat' split at h) <;> simp_all
theorem fair_chg : Fair chgG := by intro x y z h; unfold chgG at h; (repeat' split at h) <;> simp_all <;> subst h <;> simp_all
section
variable (NP VP : ByteArray → Prop)
/-- A value that may stand under a name: in a list (e = false) or in a change (e = true). -/
def Q (e : Bool) (n v : ByteArray) : Prop := NP n ∧ (VP v ∨ (e = true ∧ v = mt))
def V (e : Bool) (l : List Attr) : Prop := Sorted l ∧ ∀ a ∈ l, Q NP VP e a.name a.val
end
section
variable {NP VP : ByteArray → Prop} (hN : ¬ NP mt) (hV : ¬ VP mt)
include hN
theorem V.named {e : Bool} {l : List Attr} (h : V NP VP e l) : Named l := fun a ha e' => hN (by have := (h.2 a ha).1; rwa [e'] at this)
omit hN in
theorem V.look {e : Bool} {l : List Attr} (h : V NP VP e l) {n v : ByteArray} (hl : look l n = some v) : Q NP VP e n v := h.2 ⟨n, v⟩ (look_mem hl)
theorem fm_look {e1 e2 : Bool} {g : Attr → Attr → Option Attr} (hg : Fair g) {a b : List Attr} (ha : V NP VP e1 a) (hb : V NP VP e2 b) (n : ByteArray) :
    Go.Ch.look (fm g a b) n = at2 g n (Go.Ch.look a n) (Go.Ch.look b n) := (fm_main hg a b ha.1 hb.1 (ha.named hN) (hb.named hN)).2.2 n
theorem fm_V {e1 e2 e3 : Bool} {g : Attr → Attr → Option Attr} (hg : Fair g) {a b : List Attr} (ha : V NP VP e1 a) (hb : V NP VP e2 b)
    (h1 : ∀ n v z, n ≠ mt → Q NP VP e1 n v → at2 g n (some v) none = some z → Q NP VP e3 n z)
    (h2 : ∀ n v z, n ≠ mt → Q NP VP e2 n v → at2 g n none (some v) = some z → Q NP VP e3 n z)
    (h3 : ∀ n v w z, n ≠ mt → Q NP VP e1 n v → Q NP VP e2 n w → at2 g n (some v) (some w) = some z → Q NP VP e3 n z) : V NP VP e3 (fm g a b) := by
  have hm := fm_main hg a b ha.1 hb.1 (ha.named hN) (hb.named hN)
  refine ⟨hm.1, fun z hz => ?_⟩
  have hl := look_of_mem hm.1 hz
  rw [hm.2.2] at hl
  have hq : ∀ {e v}, Q NP VP e z.name v → z.name ≠ mt := fun q e => hN (e ▸ q.1)
  cases h4 : Go.Ch.look a z.name with
  | none =>
    cases h5 : Go.Ch.look b z.name with
    | none => rw [h4, h5] at hl; cases hl
    | some w => rw [h4, h5] at hl; exact h2 _ _ _ (hq (hb.look h5)) (hb.look h5) hl
  | some v =>
    cases h5 : Go.Ch.look b z.name with
    | none => rw [h4, h5] at hl; exact h1 _ _ _ (hq (ha.look h4)) (ha.look h4) hl
    | some w => rw [h4, h5] at hl; exact h3 _ _ _ _ (hq (ha.look h4)) (ha.look h4) (hb.look h5) hl
theorem q_ne {e : Bool} {n v : ByteArray} (h : Q NP VP e n v) : n ≠ mt := fun e => hN (e ▸ h.1)
theorem raw_V {l c : List Attr} (hl : V NP VP false l) (hc : V NP VP true c) : V NP VP false (fm rawG l c) := by
  refine fm_V hN fair_raw hl hc (fun n v z hn q h => ?_) (fun n v z hn q h => ?_) (fun n v w z hn q r h => ?_)
  · simp [at2, rawG, dflt] at h; subst h; exact q
  · simp [at2, rawG, dflt, hn] at h; obtain ⟨_, ⟨h1, rfl⟩, rfl⟩ := h; simp_all [Q]
  · simp [at2, rawG, dflt, hn] at h; obtain ⟨_, ⟨h1, rfl⟩, rfl⟩ := h; simp_all [Q]
theorem chg_V {a b : List Attr} (ha : V NP VP false a) (hb : V NP VP false b) : V NP VP true (fm chgG a b) := by
  refine fm_V hN fair_chg ha hb (fun n v z hn q h => ?_) (fun n v z hn q h => ?_) (fun n v w z hn q r h => ?_)
  · simp [at2, chgG, dflt] at h; subst h; exact ⟨q.1, .inr ⟨rfl, rfl⟩⟩
  · simp [at2, chgG, dflt, hn] at h; obtain ⟨_, ⟨h1, rfl⟩, rfl⟩ := h; simp_all [Q]
  · simp [at2, chgG, dflt, hn] at h; obtain ⟨_, ⟨h1, rfl⟩, rfl⟩ := h; simp_all [Q]
include hV
omit hN in
theorem q_val {n v : ByteArray} (h : Q NP VP false n v) : v ≠ mt := fun e => by
  rcases h.2 with h | h
  · exact hV (e ▸ h)
  · cases h.1
/-- Between leads from a to b. -/
theorem between_leads {a b : List Attr} (ha : V NP VP false a) (hb : V NP VP false b) : fm rawG a (fm chgG a b) = b := by
  have hc := chg_V hN ha hb
  refine sorted_ext (raw_V hN ha hc).1 hb.1 (fun n => ?_)
  rw [fm_look hN fair_raw ha hc, fm_look hN fair_chg ha hb]
  cases h1 : look a n with
  | none =>
    cases h2 : look b n with
    | none => rfl
    | some w =>
      have hn := q_ne hN (hb.look h2)
      have hw := q_val hV (hb.look h2)
      simp [at2, rawG, chgG, dflt, hn, hw, Ne.symm hn]
  | some v =>
    have hn := q_ne hN (ha.look h1)
    cases h2 : look b n with
    | none => simp [at2, rawG, chgG, dflt, hn]
    | some w =>
      have hw := q_val hV (hb.look h2)
      by_cases hwv : v = w
      · subst hwv; simp [at2, rawG, chgG, dflt, hn, hw]
      · simp [at2, rawG, chgG, dflt, hn, hw, hwv]
/-- .. and names only what differs. -/
theorem between_differs {a b : List Attr} (ha : V NP VP false a) (hb : V NP VP false b) {x : Attr} (hx : x ∈ fm chgG a b) : (look a x.name).getD mt ≠ (look b x.name).getD mt := by
  have hc := chg_V hN ha hb
  have hl := look_of_mem hc.1 hx
  rw [fm_look hN fair_chg ha hb] at hl
  cases h1 : look a x.name with
  | none =>
    cases h2 : look b x.name with
    | none => rw [h1, h2] at hl; cases hl
    | some w => exact fun e => q_val hV (hb.look h2) e.symm
  | some v =>
    cases h2 : look b x.name with
    | none => exact q_val hV (ha.look h1)
    | some w =>
      rw [h1, h2] at hl
      intro e
      simp only [Option.getD_some] at e
      subst e
      simp [at2, chgG, q_ne hN (ha.look h1)] at hl
end

end Go.Ch
end
section
set_option linter.unusedVariables false
set_option linter.unusedSimpArgs false
set_option maxRecDepth 100000
set_option maxHeartbeats 4000000
open Go Go.Proofs Go.Ab
namespace Go.Ch
theorem seq_mt {s : ByteArray} : seq s { data := #[] } = decide (s.size = 0) := by
  by_cases h : s.size = 0
  · rw [decide_eq_true h, seq_iff]
    obtain ⟨⟨l⟩⟩ := s
    cases l with
    | nil => rfl
    | cons a l => simp [ByteArray.size] at h
  · rw [decide_eq_false h, seq_no]
    intro e; subst e; exact h rfl
theorem str_pos {s : ByteArray} (h : seq s { data := #[] } = false) : (0 : Int) < (s.size : Int) := by
  rw [seq_mt, decide_eq_false_iff_not] at h; omega
def byt (s : ByteArray) (i : Nat) : Nat := ((s[i]?).getD 0).toNat
def badC (b : Nat) : Prop := (b < 97 ∨ 122 < b) ∧ (b < 48 ∨ 57 < b) ∧ b ≠ 46 ∧ b ≠ 45
instance (b : Nat) : Decidable (badC b) := by unfold badC; infer_instance
def nmS (s : ByteArray) (i : Nat) : Bool := if i < s.size then (if badC (byt s i) then false else nmS s (i + 1)) else true
termination_by s.size - i
def nameGo (s : ByteArray) : Bool := decide (1 ≤ s.size ∧ s.size ≤ 24 ∧ 97 ≤ byt s 0 ∧ byt s 0 ≤ 122) && nmS s 0
def vlS (s : ByteArray) (i : Nat) : Bool := if i < s.size then (if byt s i < 32 ∨ 126 < byt s i then false else vlS s (i + 1)) else true
termination_by s.size - i
def valGo (s : ByteArray) : Bool := decide (1 ≤ s.size ∧ s.size ≤ 200) && vlS s 0
def nmR (s : ByteArray) (i : Nat) : Bool := if i < s.size then (if (byt s i < 97 ∨ 122 < byt s i) ∧ (i = 0 ∨ (byt s i ≠ 46 ∧ byt s i ≠ 45 ∧ (byt s i < 48 ∨ 57 < byt s i))) then false else nmR s (i + 1)) else true
termination_by s.size - i
def nameRf (s : ByteArray) : Bool := nmR s 0 && decide (1 ≤ s.size ∧ s.size ≤ 24)
def valRf (s : ByteArray) : Bool := vlS s 0 && decide (1 ≤ s.size ∧ s.size ≤ 200)
theorem byt0 (s : ByteArray) (i : Nat) : ((s[i]?).getD 0).toNat = byt s i := rfl

theorem fc_name (s : ByteArray) : FC Try.prog 47 [VS s] (app emp []) (VB (nameGo s)) (app emp []) := by
 refine .go Try.f47 ?_
 refine .br [.r [], .r [(4, Xv 1 (!(seq s ({ data := #[] }))) X0), (5, Xv 1 (!(seq s ({ data := #[] }))) X0), (6, X (Xk' (seq s ({ data := #[] })))), (9, Xv 1 (!(seq s ({ data := #[] }) || decide ((s.size : Int) > 24))) (Xb s 0) (fun hg => by (try simp only [decide_eq_true_eq, decide_eq_false_iff_not, Int.not_lt, Int.not_le, gt_iff_lt, Bool.not_eq_true', Bool.not_eq_false', Bool.or_eq_true, Bool.or_eq_false_iff] at hg); exact ⟨(by first | omega | (simp; omega) | (simp; done) | assumption), (str_pos (by first | exact hg | exact hg.1 | exact hg.1.1))⟩)), (10, Xv 1 (!(seq s ({ data := #[] }) || decide ((s.size : Int) > 24))) X0), (11, X (Xk' (seq s ({ data := #[] }) || decide ((s.size : Int) > 24)))), (14, Xv 1 (!((seq s ({ data := #[] }) || decide ((s.size : Int) > 24)) || decide (((((s[0]?).getD 0).toNat : Nat) : Int) < 97))) (Xb s 0) (fun hg => by (try simp only [decide_eq_true_eq, decide_eq_false_iff_not, Int.not_lt, Int.not_le, gt_iff_lt, Bool.not_eq_true', Bool.not_eq_false', Bool.or_eq_true, Bool.or_eq_false_iff] at hg); exact ⟨(by first | omega | (simp; omega) | (simp; done) | assumption), (str_pos (by first | exact hg | exact hg.1 | exact hg.1.1))⟩)), (15, Xv 1 (!((seq s ({ data := #[] }) || decide ((s.size : Int) > 24)) || decide (((((s[0]?).getD 0).toNat : Nat) : Int) < 97))) X0), (16, X (Xk' ((seq s ({ data := #[] }) || decide ((s.size : Int) > 24)) || decide (((((s[0]?).getD 0).toNat : Nat) : Int) < 97))))]] (((seq s ({ data := #[] }) || decide ((s.size : Int) > 24)) || decide (((((s[0]?).getD 0).toNat : Nat) : Int) < 97)) || decide (((((s[0]?).getD 0).toNat : Nat) : Int) > 122)) (fun h1 => ?_) (fun h1 => ?_)
 ·
  (try simp only [decide_eq_true_eq, decide_eq_false_iff_not, Int.not_lt, Int.not_le, gt_iff_lt, Bool.or_eq_true, Bool.or_eq_false_iff] at h1)
  have e1 : ((nameGo s) : Bool) = false := by
   simp only [byt0, seq_mt, decide_eq_true_eq] at h1; unfold nameGo; rw [decide_eq_false (by omega)]; rfl
  exact .finE [.r []] [] (fun z0 => (VB z0, [])) (false : Bool) ((nameGo s) : Bool) e1
 ·
  (try simp only [decide_eq_true_eq, decide_eq_false_iff_not, Int.not_lt, Int.not_le, gt_iff_lt, Bool.or_eq_true, Bool.or_eq_false_iff] at h1)
  refine .loop (α := Nat) [.r []] 168 (fun i => ([(0, VS s), (23, VI (s.size : Int)), (24, VI (i : Int))], [])) (fun i => i ≤ s.size ∧ nmS s 0 = nmS s i) (fun i => s.size - i) (0 : Nat) ?_ ?_
  ·
   exact ⟨by omega, rfl⟩
  rintro i I4 ih4
  try dsimp only at I4
  refine .br [.r []] (decide ((i : Int) < (s.size : Int))) (fun h4 => ?_) (fun h4 => ?_)
  ·
   (try simp only [decide_eq_true_eq, decide_eq_false_iff_not, Int.not_lt, Int.not_le] at h4)
   refine .br [.r [], .r [(2, X (Xb s (i : Int)))], .r [(4, Xv 1 (!(decide (((((s[i]?).getD 0).toNat : Nat) : Int) < 97))) X0), (5, X (Xk' (decide (((((s[i]?).getD 0).toNat : Nat) : Int) < 97)))), (8, Xv 1 (decide (((((s[i]?).getD 0).toNat : Nat) : Int) < 97) || decide (((((s[i]?).getD 0).toNat : Nat) : Int) > 122)) X0), (9, Xv 1 (decide (((((s[i]?).getD 0).toNat : Nat) : Int) < 97) || decide (((((s[i]?).getD 0).toNat : Nat) : Int) > 122)) X0), (11, Xv 1 ((decide (((((s[i]?).getD 0).toNat : Nat) : Int) < 97) || decide (((((s[i]?).getD 0).toNat : Nat) : Int) > 122)) && !(decide (((((s[i]?).getD 0).toNat : Nat) : Int) < 48))) X0), (12, Xko (decide (((((s[i]?).getD 0).toNat : Nat) : Int) < 97) || decide (((((s[i]?).getD 0).toNat : Nat) : Int) > 122)) (decide (((((s[i]?).getD 0).toNat : Nat) : Int) < 48))), (13, X (Xk (decide (((((s[i]?).getD 0).toNat : Nat) : Int) < 97) || decide (((((s[i]?).getD 0).toNat : Nat) : Int) > 122)))), (16, Xv 1 ((decide (((((s[i]?).getD 0).toNat : Nat) : Int) < 97) || decide (((((s[i]?).getD 0).toNat : Nat) : Int) > 122)) && (decide (((((s[i]?).getD 0).toNat : Nat) : Int) < 48) || decide (((((s[i]?).getD 0).toNat : Nat) : Int) > 57))) X0), (17, X (Xk ((decide (((((s[i]?).getD 0).toNat : Nat) : Int) < 97) || decide (((((s[i]?).getD 0).toNat : Nat) : Int) > 122)) && (decide (((((s[i]?).getD 0).toNat : Nat) : Int) < 48) || decide (((((s[i]?).getD 0).toNat : Nat) : Int) > 57))))), (20, Xv 1 (((decide (((((s[i]?).getD 0).toNat : Nat) : Int) < 97) || decide (((((s[i]?).getD 0).toNat : Nat) : Int) > 122)) && (decide (((((s[i]?).getD 0).toNat : Nat) : Int) < 48) || decide (((((s[i]?).getD 0).toNat : Nat) : Int) > 57))) && (((((s[i]?).getD 0).toNat : Nat) : Int) != 46)) X0), (21, X (Xk (((decide (((((s[i]?).getD 0).toNat : Nat) : Int) < 97) || decide (((((s[i]?).getD 0).toNat : Nat) : Int) > 122)) && (decide (((((s[i]?).getD 0).toNat : Nat) : Int) < 48) || decide (((((s[i]?).getD 0).toNat : Nat) : Int) > 57))) && (((((s[i]?).getD 0).toNat : Nat) : Int) != 46))))]] ((((decide (((((s[i]?).getD 0).toNat : Nat) : Int) < 97) || decide (((((s[i]?).getD 0).toNat : Nat) : Int) > 122)) && (decide (((((s[i]?).getD 0).toNat : Nat) : Int) < 48) || decide (((((s[i]?).getD 0).toNat : Nat) : Int) > 57))) && (((((s[i]?).getD 0).toNat : Nat) : Int) != 46)) && (((((s[i]?).getD 0).toNat : Nat) : Int) != 45)) (fun h7 => ?_) (fun h7 => ?_)
   ·
    (try simp only [decide_eq_true_eq, decide_eq_false_iff_not, Int.not_lt, Int.not_le, gt_iff_lt, Bool.and_eq_true, Bool.and_eq_false_iff, Bool.not_eq_true', Bool.not_eq_false', Bool.or_eq_true, Bool.or_eq_false_iff, bne_iff_ne, bne_eq_false_iff_eq, ne_eq] at h7)
    have e2 : ((nameGo s) : Bool) = false := by
     simp only [byt0] at h7; unfold nameGo; rw [I4.2, nmS, if_pos (by omega), if_pos (by unfold badC; omega)]; simp
    exact .finE [.r []] [] (fun z0 => (VB z0, [])) (false : Bool) ((nameGo s) : Bool) e2
   ·
    (try simp only [decide_eq_true_eq, decide_eq_false_iff_not, Int.not_lt, Int.not_le, gt_iff_lt, Bool.and_eq_true, Bool.and_eq_false_iff, Bool.not_eq_true', Bool.not_eq_false', Bool.or_eq_true, Bool.or_eq_false_iff, bne_iff_ne, bne_eq_false_iff_eq, ne_eq] at h7)
    refine .back [.r [(0, X (Xn ((i : Int) + 1)))]] [] (ih4 ((i + 1) : Nat) ?_ ?_)
    ·
     simp only [byt0] at h7; refine ⟨by omega, ?_⟩; rw [I4.2, nmS, if_pos (by omega), if_neg (by unfold badC; omega)]
    ·
     ((try dsimp only); omega)
  ·
   (try simp only [decide_eq_true_eq, decide_eq_false_iff_not, Int.not_lt, Int.not_le] at h4)
   have e3 : ((nameGo s) : Bool) = true := by
    simp only [byt0, seq_mt, decide_eq_false_iff_not] at h1; unfold nameGo; rw [I4.2, nmS, if_neg (by omega), decide_eq_true (by omega)]; rfl
   exact .finE [.r []] [] (fun z0 => (VB z0, [])) (true : Bool) ((nameGo s) : Bool) e3

theorem fc_value (s : ByteArray) : FC Try.prog 48 [VS s] (app emp []) (VB (valGo s)) (app emp []) := by
 refine .go Try.f48 ?_
 refine .br [.r [], .r [(4, Xv 1 (!(seq s ({ data := #[] }))) X0), (5, Xv 1 (!(seq s ({ data := #[] }))) X0), (6, X (Xk' (seq s ({ data := #[] }))))]] (seq s ({ data := #[] }) || decide ((s.size : Int) > 200)) (fun h1 => ?_) (fun h1 => ?_)
 ·
  (try simp only [decide_eq_true_eq, decide_eq_false_iff_not, Int.not_lt, Int.not_le, gt_iff_lt, Bool.or_eq_true, Bool.or_eq_false_iff] at h1)
  have e1 : ((valGo s) : Bool) = false := by
   simp only [seq_mt, decide_eq_true_eq] at h1; unfold valGo; rw [decide_eq_false (by omega)]; rfl
  exact .finE [.r []] [] (fun z0 => (VB z0, [])) (false : Bool) ((valGo s) : Bool) e1
 ·
  (try simp only [decide_eq_true_eq, decide_eq_false_iff_not, Int.not_lt, Int.not_le, gt_iff_lt, Bool.or_eq_true, Bool.or_eq_false_iff] at h1)
  refine .loop (α := Nat) [.r []] 88 (fun i => ([(0, VS s), (12, VI (s.size : Int)), (13, VI (i : Int))], [])) (fun i => i ≤ s.size ∧ vlS s 0 = vlS s i) (fun i => s.size - i) (0 : Nat) ?_ ?_
  ·
   exact ⟨by omega, rfl⟩
  rintro i I4 ih4
  try dsimp only at I4
  refine .br [.r []] (decide ((i : Int) < (s.size : Int))) (fun h4 => ?_) (fun h4 => ?_)
  ·
   (try simp only [decide_eq_true_eq, decide_eq_false_iff_not, Int.not_lt, Int.not_le] at h4)
   refine .br [.r [], .r [(2, X (Xb s (i : Int))), (7, Xv 2 (!(decide (((((s[i]?).getD 0).toNat : Nat) : Int) < 32))) (Xb s (i : Int))), (8, Xv 1 (!(decide (((((s[i]?).getD 0).toNat : Nat) : Int) < 32))) X0), (9, X (Xk' (decide (((((s[i]?).getD 0).toNat : Nat) : Int) < 32))))]] (decide (((((s[i]?).getD 0).toNat : Nat) : Int) < 32) || decide (((((s[i]?).getD 0).toNat : Nat) : Int) > 126)) (fun h6 => ?_) (fun h6 => ?_)
   ·
    (try simp only [decide_eq_true_eq, decide_eq_false_iff_not, Int.not_lt, Int.not_le, gt_iff_lt, Bool.or_eq_true, Bool.or_eq_false_iff] at h6)
    have e2 : ((valGo s) : Bool) = false := by
     simp only [byt0] at h6; unfold valGo; rw [I4.2, vlS, if_pos (by omega), if_pos (by omega)]; simp
    exact .finE [.r []] [] (fun z0 => (VB z0, [])) (false : Bool) ((valGo s) : Bool) e2
   ·
    (try simp only [decide_eq_true_eq, decide_eq_false_iff_not, Int.not_lt, Int.not_le, gt_iff_lt, Bool.or_eq_true, Bool.or_eq_false_iff] at h6)
    refine .back [.r [(0, X (Xn ((i : Int) + 1)))]] [] (ih4 ((i + 1) : Nat) ?_ ?_)
    ·
     simp only [byt0] at h6; refine ⟨by omega, ?_⟩; rw [I4.2, vlS, if_pos (by omega), if_neg (by omega)]
    ·
     ((try dsimp only); omega)
  ·
   (try simp only [decide_eq_true_eq, decide_eq_false_iff_not, Int.not_lt, Int.not_le] at h4)
   have e3 : ((valGo s) : Bool) = true := by
    simp only [seq_mt, decide_eq_false_iff_not] at h1; unfold valGo; rw [I4.2, vlS, if_neg (by omega), decide_eq_true (by omega)]; rfl
   exact .finE [.r []] [] (fun z0 => (VB z0, [])) (true : Bool) ((valGo s) : Bool) e3

def chkA (e : Bool) (l : List Attr) (i : Nat) : Int :=
  if i < l.length then
    if nameGo (l.getD i default).name = false then 9
    else if valGo (l.getD i default).val = false ∧ (e = false ∨ seq (l.getD i default).val { data := #[] } = false) then 23
    else if 0 < i ∧ (slt (l.getD i default).name (l.getD (i - 1) default).name = true ∨ seq (l.getD i default).name (l.getD (i - 1) default).name = true) then 5
    else chkA e l (i + 1)
  else 0
termination_by l.length - i
def Szd (l : List Attr) : Prop := ∀ a ∈ l, a.name.size ≤ 9223372036854775807 ∧ a.val.size ≤ 9223372036854775807
theorem Szd.at {l : List Attr} (h : Szd l) {i : Nat} (hi : i < l.length) : (l.getD i default).name.size ≤ 9223372036854775807 ∧ (l.getD i default).val.size ≤ 9223372036854775807 := by
  rw [show l.getD i default = l[i] by simp [List.getD, List.getElem?_eq_getElem hi]]
  exact h _ (List.getElem_mem hi)

def errA (e : Bool) (l : List Attr) (i : Nat) : Int :=
  if i < l.length then
    if nameRf (l.getD i default).name = false then 9
    else if valRf (l.getD i default).val = false ∧ (e = false ∨ seq (l.getD i default).val { data := #[] } = false) then 23
    else if 0 < i ∧ slt (l.getD (i - 1) default).name (l.getD i default).name = false then 5
    else errA e l (i + 1)
  else 0
termination_by l.length - i
def sameA (a b : List Attr) (i : Nat) : Bool :=
  if i < a.length then (if (a.getD i default).name = (b.getD i default).name ∧ (a.getD i default).val = (b.getD i default).val then sameA a b (i + 1) else false) else true
termination_by a.length - i
def sameL (a b : List Attr) : Bool := decide (a.length = b.length) && sameA a b 0
def getA (l : List Attr) (n : ByteArray) (i : Nat) : ByteArray :=
  if i < l.length then (if (l.getD i default).name = n then (l.getD i default).val else getA l n (i + 1)) else mt
termination_by l.length - i
theorem drop_at {l : List Attr} {i : Nat} (h : i < l.length) : l.drop i = l.getD i default :: l.drop (i + 1) := by
  rw [List.drop_eq_getElem_cons h]; simp [List.getD, List.getElem?_eq_getElem h]
theorem drop_end {l : List Attr} {i : Nat} (h : ¬ i < l.length) : l.drop i = [] := List.drop_eq_nil_of_le (by omega)
theorem fm_a {g : Attr → Attr → Option Attr} {a b : List Attr} {i j : Nat} (hi : i < a.length) (h : b.length ≤ j ∨ slt (a.getD i default).name (b.getD j default).name = true) :
    fm g (a.drop i) (b.drop j) = (g (a.getD i default) ⟨mt, mt⟩).toList ++ fm g (a.drop (i + 1)) (b.drop j) := by
  unfold fm
  rw [drop_at hi]
  by_cases hj : j < b.length
  · rw [drop_at hj, bothL, if_pos (by rcases h with h | h; omega; exact h), fm_cons]; rfl
  · rw [drop_end hj, bothL, fm_cons]; rfl
theorem fm_b {g : Attr → Attr → Option Attr} {a b : List Attr} {i j : Nat} (hj : j < b.length) (h0 : i < a.length → slt (a.getD i default).name (b.getD j default).name = false) (h : a.length ≤ i ∨ slt (b.getD j default).name (a.getD i default).name = true) :
    fm g (a.drop i) (b.drop j) = (g ⟨mt, mt⟩ (b.getD j default)).toList ++ fm g (a.drop i) (b.drop (j + 1)) := by
  unfold fm
  rw [drop_at hj]
  by_cases hi : i < a.length
  · rw [drop_at hi, bothL, if_neg (by rw [h0 hi]; decide), if_pos (by rcases h with h | h; omega; exact h), fm_cons]; rfl
  · rw [drop_end hi, bothL, fm_cons]; rfl
theorem fm_ab {g : Attr → Attr → Option Attr} {a b : List Attr} {i j : Nat} (hi : i < a.length) (hj : j < b.length) (h0 : slt (a.getD i default).name (b.getD j default).name = false) (h : slt (b.getD j default).name (a.getD i default).name = false) :
    fm g (a.drop i) (b.drop j) = (g (a.getD i default) (b.getD j default)).toList ++ fm g (a.drop (i + 1)) (b.drop (j + 1)) := by
  unfold fm
  rw [drop_at hi, drop_at hj, bothL, if_neg (by rw [h0]; decide), if_neg (by rw [h]; decide), fm_cons]
theorem fm_end {g : Attr → Attr → Option Attr} {a b : List Attr} {i j : Nat} (hi : a.length ≤ i) (hj : b.length ≤ j) : fm g (a.drop i) (b.drop j) = [] := by
  unfold fm
  rw [drop_end (by omega), drop_end (by omega), bothL]; rfl
theorem toList_le {o : Option Attr} : o.toList.length ≤ 1 := by cases o <;> simp
theorem fm_len (g : Attr → Attr → Option Attr) (a b : List Attr) : (fm g a b).length ≤ a.length + b.length :=
  Nat.le_trans (List.length_filterMap_le _ _) (bothL_len a b)

theorem fc_sameAttrs (a b : List Attr) : FC Try.prog 39 [VL 2 attrT a, VL 2 attrT b] (app emp []) (VB (sameL a b)) (app emp []) := by
 refine .go Try.f39 ?_
 refine .len 0 (fun hl0 => ?_)
 refine .len 1 (fun hl1 => ?_)
 refine .br [.r [], .r [(1, X (Xl attrT a)), (3, X (Xl attrT b))]] ((a.length : Int) != (b.length : Int)) (fun h1 => ?_) (fun h1 => ?_)
 ·
  (try simp only [bne_iff_ne, bne_eq_false_iff_eq, ne_eq] at h1)
  have e1 : ((sameL a b) : Bool) = false := by
   unfold sameL; rw [decide_eq_false (by omega)]; rfl
  exact .finE [.r []] [] (fun z0 => (VB z0, [])) (false : Bool) ((sameL a b) : Bool) e1
 ·
  (try simp only [bne_iff_ne, bne_eq_false_iff_eq, ne_eq] at h1)
  refine .loop (α := Nat) [.r [(1, X (Xl attrT a))]] 72 (fun i => ([(0, VL 2 attrT a), (1, VL 2 attrT b), (12, VI (a.length : Int)), (13, VI (i : Int))], [])) (fun i => i ≤ a.length ∧ sameA a b 0 = sameA a b i) (fun i => a.length - i) (0 : Nat) ?_ ?_
  ·
   exact ⟨by omega, rfl⟩
  rintro i I4 ih4
  try dsimp only at I4
  refine .br [.r []] (decide ((i : Int) < (a.length : Int))) (fun h4 => ?_) (fun h4 => ?_)
  ·
   (try simp only [decide_eq_true_eq, decide_eq_false_iff_not, Int.not_lt, Int.not_le] at h4)
   refine .br [.r [], .r [(2, X (Xi attrT a (i : Int))), (6, X (Xi attrT b (i : Int)))]] (!(seq (((a.getD i default)).name) (((b.getD i default)).name) && (seq (((a.getD i default)).val) (((b.getD i default)).val) && true))) (fun h6 => ?_) (fun h6 => ?_)
   ·
    (try simp only [Bool.not_eq_true', Bool.not_eq_false', Bool.and_eq_true, Bool.and_eq_false_iff] at h6)
    have e2 : ((sameL a b) : Bool) = false := by
     unfold sameL; rw [I4.2, sameA, if_pos (by omega), if_neg (by clear ih4; simp only [seq_no, seq_iff] at h6; rintro ⟨x, y⟩; simp_all)]; simp
    exact .finE [.r []] [] (fun z0 => (VB z0, [])) (false : Bool) ((sameL a b) : Bool) e2
   ·
    (try simp only [Bool.not_eq_true', Bool.not_eq_false', Bool.and_eq_true, Bool.and_eq_false_iff] at h6)
    refine .back [.r [(0, X (Xn ((i : Int) + 1)))]] [] (ih4 ((i + 1) : Nat) ?_ ?_)
    ·
     refine ⟨by omega, ?_⟩; rw [I4.2, sameA, if_pos (by omega), if_pos (by clear ih4; simp only [seq_no, seq_iff] at h6; simp_all)]
    ·
     ((try dsimp only); omega)
  ·
   (try simp only [decide_eq_true_eq, decide_eq_false_iff_not, Int.not_lt, Int.not_le] at h4)
   have e3 : ((sameL a b) : Bool) = true := by
    unfold sameL; rw [I4.2, sameA, if_neg (by omega), decide_eq_true (by omega)]; rfl
   exact .finE [.r []] [] (fun z0 => (VB z0, [])) (true : Bool) ((sameL a b) : Bool) e3
end Go.Ch
end
section
set_option linter.unusedVariables false
set_option linter.unusedSimpArgs false
set_option maxRecDepth 100000
set_option maxHeartbeats 4000000
open Go Go.Proofs Go.Ab
namespace Go.Ch
theorem fc_both (f : FuncId) (g : Attr → Attr → Option Attr) (hfc : callable Try.prog f = true) (hf : ∀ (o : List Attr) (x y : Attr), o.length < 1099511627776 → FC Try.prog f [.t (attrT x), .t (attrT y), .ptr 0 0] (app emp [(0, .box [.row 1 o.length]), (1, .row 2 false (List.map attrT o))]) (.tup []) (app emp [(0, .box [.row 1 (o ++ (g x y).toList).length]), (1, .row 2 false (List.map attrT (o ++ (g x y).toList)))])) (a b o : List Attr) (hn : o.length + a.length + b.length < 1099511627776) : FC Try.prog 45 [VL 2 attrT a, VL 2 attrT b, .fn f [.ptr 0 0]] (app emp [(0, .box [.row 1 o.length]), (1, OR 2 attrT o)]) (.tup []) (app emp [(0, .box [.row 1 ((o ++ fm g a b).length)]), (1, OR 2 attrT (o ++ fm g a b))]) := by
 refine .go Try.f45 ?_
 refine .len 0 (fun hl0 => ?_)
 refine .len 1 (fun hl1 => ?_)
 refine .loop (α := Nat × Nat × (List Attr)) [.r []] 18 (fun (i, j, p) => ([(0, VL 2 attrT a), (1, VL 2 attrT b), (2, .fn f [.ptr 0 0]), (6, VI (i : Int)), (7, VI (j : Int))], [(0, .box [.row 1 p.length]), (1, OR 2 attrT p)])) (fun (i, j, p) => i ≤ a.length ∧ j ≤ b.length ∧ p.length ≤ o.length + i + j ∧ o ++ fm g a b = p ++ fm g (a.drop i) (b.drop j)) (fun (i, j, p) => (a.length - i) + (b.length - j)) (0, 0, o) ?_ ?_
 ·
  exact ⟨by omega, by omega, by omega, rfl⟩
 rintro ⟨i, j, p⟩ I1 ih1
 try dsimp only at I1
 refine .br [.r [(2, X (Xl attrT a)), (7, Xv 1 (!(decide ((i : Int) < (a.length : Int)))) (Xl attrT b)), (8, Xv 2 (!(decide ((i : Int) < (a.length : Int)))) X0), (9, X (Xk' (decide ((i : Int) < (a.length : Int)))))]] (decide ((i : Int) < (a.length : Int)) || decide ((j : Int) < (b.length : Int))) (fun h1 => ?_) (fun h1 => ?_)
 ·
  (try simp only [decide_eq_true_eq, decide_eq_false_iff_not, Int.not_lt, Int.not_le, Bool.or_eq_true, Bool.or_eq_false_iff] at h1)
  refine .br [.r [(2, X (Xl attrT b)), (7, Xv 1 (!((j : Int) == (b.length : Int))) (Xl attrT a)), (8, Xv 2 (!((j : Int) == (b.length : Int))) X0), (9, Xv 1 (!((j : Int) == (b.length : Int))) X0), (12, Xv 2 ((!((j : Int) == (b.length : Int))) && (decide ((i : Int) < (a.length : Int)))) (Xi attrT a (i : Int))), (13, Xv 1 ((!((j : Int) == (b.length : Int))) && (decide ((i : Int) < (a.length : Int)))) X0), (14, Xv 1 ((!((j : Int) == (b.length : Int))) && (decide ((i : Int) < (a.length : Int)))) X0), (17, Xv 2 ((!((j : Int) == (b.length : Int))) && (decide ((i : Int) < (a.length : Int)))) (Xi attrT b (j : Int))), (18, Xv 1 ((!((j : Int) == (b.length : Int))) && (decide ((i : Int) < (a.length : Int)))) X0), (19, Xv 1 ((!((j : Int) == (b.length : Int))) && (decide ((i : Int) < (a.length : Int)))) X0), (20, Xv 2 ((!((j : Int) == (b.length : Int))) && (decide ((i : Int) < (a.length : Int)))) X0), (21, Xka (!((j : Int) == (b.length : Int))) (decide ((i : Int) < (a.length : Int)))), (22, X (Xk' ((j : Int) == (b.length : Int))))]] (((j : Int) == (b.length : Int)) || (decide ((i : Int) < (a.length : Int)) && slt (((a.getD i default)).name) (((b.getD j default)).name))) (fun h4 => ?_) (fun h4 => ?_)
  ·
   (try simp only [decide_eq_true_eq, decide_eq_false_iff_not, Int.not_lt, Int.not_le, Bool.and_eq_true, Bool.and_eq_false_iff, Bool.not_eq_true', Bool.not_eq_false', Bool.or_eq_true, Bool.or_eq_false_iff, beq_iff_eq, beq_eq_false_iff_ne, ne_eq] at h4)
   refine .back [.r [(3, X (Xi attrT a (i : Int))), (6, X (Xc3 338 [(0, 0), (1, 1)] (hf p ((a.getD i default)) ({ name := { data := #[] }, val := { data := #[] } } : Attr) (by first | omega | (simp; omega))) X0 (hc := hfc)))], .r [(1, X (Xn ((i : Int) + 1)))]] [(0, 0), (1, 1)] (ih1 ((i + 1), j, (p ++ (g ((a.getD i default)) ({ name := { data := #[] }, val := { data := #[] } } : Attr)).toList)) ?_ ?_)
   ·
    have hi : i < a.length := by omega
    have hg := toList_le (o := g (a.getD i default) ⟨{ data := #[] }, { data := #[] }⟩)
    have e := fm_a (g := g) (a := a) (b := b) (j := j) hi (by rcases h4 with h | h; (left; omega); exact .inr h.2)
    refine ⟨by omega, by omega, by simp only [List.length_append]; omega, ?_⟩
    rw [I1.2.2.2, e, List.append_assoc]
   ·
    ((try dsimp only); omega)
  ·
   (try simp only [decide_eq_true_eq, decide_eq_false_iff_not, Int.not_lt, Int.not_le, Bool.and_eq_true, Bool.and_eq_false_iff, Bool.not_eq_true', Bool.not_eq_false', Bool.or_eq_true, Bool.or_eq_false_iff, beq_iff_eq, beq_eq_false_iff_ne, ne_eq] at h4)
   refine .br [.r [(2, X (Xl attrT a)), (7, Xv 2 (!((i : Int) == (a.length : Int))) (Xi attrT b (j : Int))), (8, Xv 1 (!((i : Int) == (a.length : Int))) X0), (9, Xv 1 (!((i : Int) == (a.length : Int))) X0), (12, Xv 2 (!((i : Int) == (a.length : Int))) (Xi attrT a (i : Int))), (13, Xv 1 (!((i : Int) == (a.length : Int))) X0), (14, Xv 1 (!((i : Int) == (a.length : Int))) X0), (15, Xv 2 (!((i : Int) == (a.length : Int))) X0), (16, X (Xk' ((i : Int) == (a.length : Int))))]] (((i : Int) == (a.length : Int)) || slt (((b.getD j default)).name) (((a.getD i default)).name)) (fun h7 => ?_) (fun h7 => ?_)
   ·
    (try simp only [Bool.or_eq_true, Bool.or_eq_false_iff, beq_iff_eq, beq_eq_false_iff_ne, ne_eq] at h7)
    refine .back [.r [(4, X (Xi attrT b (j : Int))), (6, X (Xc3 482 [(0, 0), (1, 1)] (hf p ({ name := { data := #[] }, val := { data := #[] } } : Attr) ((b.getD j default)) (by first | omega | (simp; omega))) X0 (hc := hfc)))], .r [(1, X (Xn ((j : Int) + 1)))]] [(0, 0), (1, 1)] (ih1 (i, (j + 1), (p ++ (g ({ name := { data := #[] }, val := { data := #[] } } : Attr) ((b.getD j default))).toList)) ?_ ?_)
    ·
     have hj : j < b.length := by omega
     have hg := toList_le (o := g ⟨{ data := #[] }, { data := #[] }⟩ (b.getD j default))
     have e := fm_b (g := g) (a := a) (b := b) (i := i) hj (fun hi => by rcases h4.2 with h | h; omega; exact h) (by rcases h7 with h | h; (left; omega); exact .inr h)
     refine ⟨by omega, by omega, by simp only [List.length_append]; omega, ?_⟩
     rw [I1.2.2.2, e, List.append_assoc]
    ·
     ((try dsimp only); omega)
   ·
    (try simp only [Bool.or_eq_true, Bool.or_eq_false_iff, beq_iff_eq, beq_eq_false_iff_ne, ne_eq] at h7)
    refine .back [.r [(3, X (Xi attrT a (i : Int))), (7, X (Xi attrT b (j : Int))), (9, X (Xc3 506 [(0, 0), (1, 1)] (hf p ((a.getD i default)) ((b.getD j default)) (by first | omega | (simp; omega))) X0 (hc := hfc)))], .r [(1, X (Xn ((i : Int) + 1))), (3, X (Xn ((j : Int) + 1)))]] [(0, 0), (1, 1)] (ih1 ((i + 1), (j + 1), (p ++ (g ((a.getD i default)) ((b.getD j default))).toList)) ?_ ?_)
    ·
     have hi : i < a.length := by omega
     have hj : j < b.length := by omega
     have hg := toList_le (o := g (a.getD i default) (b.getD j default))
     have e := fm_ab (g := g) (a := a) (b := b) hi hj (by rcases h4.2 with h | h; omega; exact h) h7.2
     refine ⟨by omega, by omega, by simp only [List.length_append]; omega, ?_⟩
     rw [I1.2.2.2, e, List.append_assoc]
    ·
     ((try dsimp only); omega)
 ·
  (try simp only [decide_eq_true_eq, decide_eq_false_iff_not, Int.not_lt, Int.not_le, Bool.or_eq_true, Bool.or_eq_false_iff] at h1)
  have e1 : ((o ++ fm g a b).length : Nat) = p.length := by
   rw [I1.2.2.2, fm_end (by omega) (by omega), List.append_nil]
  have e2 : ((o ++ fm g a b) : List Attr) = p := by
   rw [I1.2.2.2, fm_end (by omega) (by omega), List.append_nil]
  exact .finE [] [(0, 0), (1, 1)] (fun (z0, z1) => (.tup [], [(0, .box [.row 1 z0]), (1, OR 2 attrT z1)])) ((p.length : Nat), (p : List Attr)) (((o ++ fm g a b).length : Nat), ((o ++ fm g a b) : List Attr)) (pr e1 e2)

theorem fc_rawG (o : List Attr) (x y : Attr) (hn : o.length < 1099511627776) : FC Try.prog 52 [.t (attrT x), .t (attrT y), .ptr 0 0] (app emp [(0, .box [.row 1 o.length]), (1, OR 2 attrT o)]) (.tup []) (app emp [(0, .box [.row 1 ((o ++ (rawG x y).toList).length)]), (1, OR 2 attrT (o ++ (rawG x y).toList))]) := by
 refine .go Try.f52 ?_
 refine .br [.r [], .r []] (seq y.name ({ data := #[] })) (fun h1 => ?_) (fun h1 => ?_)
 ·
  have e1 : ((o ++ (rawG x y).toList).length : Nat) = (o ++ [x]).length := by
   simp only [seq_iff, seq_no] at *; unfold rawG; (repeat' split) <;> simp_all
  have e2 : ((o ++ (rawG x y).toList) : List Attr) = (o ++ [x]) := by
   simp only [seq_iff, seq_no] at *; unfold rawG; (repeat' split) <;> simp_all
  exact .finE [.r [(3, X (rowC attrT [x] (Xap 2 attrT 1 o [x])))]] [(0, 0), (1, 1)] (fun (z0, z1) => (.tup [], [(0, .box [.row 1 z0]), (1, OR 2 attrT z1)])) (((o ++ [x]).length : Nat), ((o ++ [x]) : List Attr)) (((o ++ (rawG x y).toList).length : Nat), ((o ++ (rawG x y).toList) : List Attr)) (pr e1 e2)
 ·
  refine .br [.r []] (!(seq y.val ({ data := #[] }))) (fun h3 => ?_) (fun h3 => ?_)
  ·
   (try simp only [Bool.not_eq_true', Bool.not_eq_false'] at h3)
   have e3 : ((o ++ (rawG x y).toList).length : Nat) = (o ++ [y]).length := by
    simp only [seq_iff, seq_no] at *; unfold rawG; (repeat' split) <;> simp_all
   have e4 : ((o ++ (rawG x y).toList) : List Attr) = (o ++ [y]) := by
    simp only [seq_iff, seq_no] at *; unfold rawG; (repeat' split) <;> simp_all
   exact .finE [.r [(3, X (rowC attrT [y] (Xap 2 attrT 1 o [y])))]] [(0, 0), (1, 1)] (fun (z0, z1) => (.tup [], [(0, .box [.row 1 z0]), (1, OR 2 attrT z1)])) (((o ++ [y]).length : Nat), ((o ++ [y]) : List Attr)) (((o ++ (rawG x y).toList).length : Nat), ((o ++ (rawG x y).toList) : List Attr)) (pr e3 e4)
  ·
   (try simp only [Bool.not_eq_true', Bool.not_eq_false'] at h3)
   have e5 : ((o ++ (rawG x y).toList).length : Nat) = o.length := by
    simp only [seq_iff, seq_no] at *; unfold rawG; (repeat' split) <;> simp_all
   have e6 : ((o ++ (rawG x y).toList) : List Attr) = o := by
    simp only [seq_iff, seq_no] at *; unfold rawG; (repeat' split) <;> simp_all
   exact .finE [] [(0, 0), (1, 1)] (fun (z0, z1) => (.tup [], [(0, .box [.row 1 z0]), (1, OR 2 attrT z1)])) ((o.length : Nat), (o : List Attr)) (((o ++ (rawG x y).toList).length : Nat), ((o ++ (rawG x y).toList) : List Attr)) (pr e5 e6)

theorem fc_chgG (o : List Attr) (x y : Attr) (hn : o.length < 1099511627776) : FC Try.prog 46 [.t (attrT x), .t (attrT y), .ptr 0 0] (app emp [(0, .box [.row 1 o.length]), (1, OR 2 attrT o)]) (.tup []) (app emp [(0, .box [.row 1 ((o ++ (chgG x y).toList).length)]), (1, OR 2 attrT (o ++ (chgG x y).toList))]) := by
 refine .go Try.f46 ?_
 refine .br [.r [], .r []] (seq y.name ({ data := #[] })) (fun h1 => ?_) (fun h1 => ?_)
 ·
  have e1 : ((o ++ (chgG x y).toList).length : Nat) = (o ++ [({ name := x.name, val := { data := #[] } } : Attr)]).length := by
   simp only [seq_iff, seq_no] at *; unfold chgG; (repeat' split) <;> simp_all
  have e2 : ((o ++ (chgG x y).toList) : List Attr) = (o ++ [({ name := x.name, val := { data := #[] } } : Attr)]) := by
   simp only [seq_iff, seq_no] at *; unfold chgG; (repeat' split) <;> simp_all
  exact .finE [.r [(5, X (rowC attrT [({ name := x.name, val := { data := #[] } } : Attr)] (Xap 2 attrT 1 o [({ name := x.name, val := { data := #[] } } : Attr)])))]] [(0, 0), (1, 1)] (fun (z0, z1) => (.tup [], [(0, .box [.row 1 z0]), (1, OR 2 attrT z1)])) (((o ++ [({ name := x.name, val := { data := #[] } } : Attr)]).length : Nat), ((o ++ [({ name := x.name, val := { data := #[] } } : Attr)]) : List Attr)) (((o ++ (chgG x y).toList).length : Nat), ((o ++ (chgG x y).toList) : List Attr)) (pr e1 e2)
 ·
  refine .br [.r []] (!(seq x.name y.name && (seq x.val y.val && true))) (fun h3 => ?_) (fun h3 => ?_)
  ·
   (try simp only [Bool.not_eq_true', Bool.not_eq_false', Bool.and_eq_true, Bool.and_eq_false_iff] at h3)
   have e3 : ((o ++ (chgG x y).toList).length : Nat) = (o ++ [y]).length := by
    simp only [seq_iff, seq_no] at *; unfold chgG; (repeat' split) <;> simp_all
   have e4 : ((o ++ (chgG x y).toList) : List Attr) = (o ++ [y]) := by
    simp only [seq_iff, seq_no] at *; unfold chgG; (repeat' split) <;> simp_all
   exact .finE [.r [(3, X (rowC attrT [y] (Xap 2 attrT 1 o [y])))]] [(0, 0), (1, 1)] (fun (z0, z1) => (.tup [], [(0, .box [.row 1 z0]), (1, OR 2 attrT z1)])) (((o ++ [y]).length : Nat), ((o ++ [y]) : List Attr)) (((o ++ (chgG x y).toList).length : Nat), ((o ++ (chgG x y).toList) : List Attr)) (pr e3 e4)
  ·
   (try simp only [Bool.not_eq_true', Bool.not_eq_false', Bool.and_eq_true, Bool.and_eq_false_iff] at h3)
   have e5 : ((o ++ (chgG x y).toList).length : Nat) = o.length := by
    simp only [seq_iff, seq_no] at *; unfold chgG; (repeat' split) <;> simp_all
   have e6 : ((o ++ (chgG x y).toList) : List Attr) = o := by
    simp only [seq_iff, seq_no] at *; unfold chgG; (repeat' split) <;> simp_all
   exact .finE [] [(0, 0), (1, 1)] (fun (z0, z1) => (.tup [], [(0, .box [.row 1 z0]), (1, OR 2 attrT z1)])) ((o.length : Nat), (o : List Attr)) (((o ++ (chgG x y).toList).length : Nat), ((o ++ (chgG x y).toList) : List Attr)) (pr e5 e6)

theorem fc_raw (a b : List Attr) (hn : a.length + b.length < 1099511627776) : FC Try.prog 40 [VL 2 attrT a, VL 2 attrT b] (app emp []) (VL 2 attrT (fm rawG a b)) (app emp []) := by
 refine .go Try.f40 ?_
 refine .len 0 (fun hl0 => ?_)
 refine .len 1 (fun hl1 => ?_)
 exact .fin [.r [], .r [], .le (.nB 8 0 2), .r [(3, X (Xc3 41 [(0, 8), (1, 16)] (fc_both 52 rawG (by kernel_rfl) fc_rawG a b [] (by simp; omega)) X0))], .r [], .le (.fr 4 [(((fm rawG a b).length) : Nat) = (List.map attrT (fm rawG a b)).length] ⟨lm, trivial⟩)] []

theorem fc_change (a b : List Attr) (hn : a.length + b.length < 1099511627776) : FC Try.prog 28 [VL 2 attrT a, VL 2 attrT b] (app emp []) (VL 2 attrT (fm chgG a b)) (app emp []) := by
 refine .go Try.f28 ?_
 refine .len 0 (fun hl0 => ?_)
 refine .len 1 (fun hl1 => ?_)
 exact .fin [.r [], .r [], .le (.nB 8 0 2), .r [(3, X (Xc3 41 [(0, 8), (1, 16)] (fc_both 46 chgG (by kernel_rfl) fc_chgG a b [] (by simp; omega)) X0))], .r [], .le (.fr 4 [(((fm chgG a b).length) : Nat) = (List.map attrT (fm chgG a b)).length] ⟨lm, trivial⟩)] []
end Go.Ch
end
section
set_option linter.unusedVariables false
set_option linter.unusedSimpArgs false
set_option maxRecDepth 100000
set_option maxHeartbeats 4000000
open Go Go.Proofs Go.Ab
namespace Go.Ch
def applyL (l c : List Attr) : List Attr := if chkA false l 0 = 0 ∧ chkA true c 0 = 0 then fm rawG l c else []
def applyE (l c : List Attr) : Int := if chkA false l 0 = 0 then chkA true c 0 else chkA false l 0
def undoL (l c : List Attr) : List Attr := if applyE l c = 0 then fm chgG (applyL l c) l else []
def betL (a b : List Attr) : List Attr := if chkA false a 0 = 0 ∧ chkA false b 0 = 0 then fm chgG a b else []
def betE (a b : List Attr) : Int := if chkA false a 0 = 0 then chkA false b 0 else chkA false a 0
def joinL (a b : List Attr) : List Attr := if chkA true a 0 = 0 ∧ chkA true b 0 = 0 then fm botG a b else []
def joinE (a b : List Attr) : Int := if chkA true a 0 = 0 then chkA true b 0 else chkA true a 0
def pairL (a b : List Attr) : List Attr := if chkA true a 0 = 0 ∧ chkA true b 0 = 0 then fm wioG a b else []
def pairR (a b : List Attr) : List Attr := if chkA true a 0 = 0 ∧ chkA true b 0 = 0 then b else []
end Go.Ch
end
section
set_option linter.unusedVariables false
namespace Go.Ch
open Go Go.Ab
def intT (z : Int) : Tree := .sc (.int .i64 z)
def strT (s : ByteArray) : Tree := .sc (.string s)
def cmpI (x y : Int) : Int := if x < y then -1 else if x > y then 1 else 0
def orL : List Int → Int
  | [] => 0
  | x :: l => if x ≠ 0 then x else orL l
theorem orL_at {l : List Int} {i : Nat} (h : i < l.length) : orL (l.drop i) = if l.getD i default ≠ 0 then l.getD i default else orL (l.drop (i + 1)) := by
  rw [List.drop_eq_getElem_cons h, orL]
  simp [List.getD, List.getElem?_eq_getElem h]
theorem orL_two (a b : Int) : orL [a, b] = if a ≠ 0 then a else b := by
  by_cases h : a = 0
  · by_cases k : b = 0 <;> simp [orL, h, k]
  · simp [orL, h]
end Go.Ch
end
section
set_option linter.unusedVariables false
namespace Go.Ab
open Go
variable {P : Program} {w : World} {F : Fen P} {S : Store} {m : Place} {n : Nat} {l0 : List (Nat × Ob)} {s : St} {Q : Exit → St → Prop}

theorem next_step (hS : SRel F S m w) {o : Oper} {a : Act} {x : Operand} {id mid nn : Nat} {seen : List Nat} {es : List (Int × MV)} {h : Option (Int × AVal)} (ho : o.op = .next x false) (hx : VRel S m w (okB F S m w) (.hdl id) (a.eval x))
    (hid : S id = some (.miter mid nn seen)) (hmid : S mid = some (.mp es h)) (hn : es.length = nn) :
    (∃ i, i < nn ∧ i ∉ seen ∧ Up P F S m w [(id, .miter mid nn (seen ++ [i]))] (.tup [.t (.sc (.bool true)), .junk, .junk]) o a) ∨ ((∀ i, i < nn → i ∈ seen) ∧ Up P F S m w [] (.tup [.t (.sc (.bool false))]) o a) := by
  obtain ⟨bi, bm, a1, a2, _, a4⟩ := hS.objs id _ hid
  obtain ⟨b, ents, bl, hM⟩ := hS.objs mid _ hmid
  have hM : MapD S m w (okB F S m w) es h (m mid) (m.g mid) b ents bl := hM
  obtain rfl : bm = b := by have := hM.1; rw [a2] at this; cases this; rfl
  have hu : a.eval x = .pointer (some ⟨bi, 0, none⟩) := by
    generalize a.eval x = u at hx
    cases hx with
    | hdl _ o' b' _ hs' hm hu =>
      rw [hid] at hs'; cases hs'
      simp only [hdlVal, Option.some.injEq] at hu
      rw [a1] at hm; cases hm
      exact hu.symm
  have hlen : ents.length = nn := hM.2.2.1.trans hn
  have born : ∀ (i : Nat) (e : MapEntry), ents[i]? = some e → e.born = i := fun i e he => by
    have hil : i < es.length := by rw [← hM.2.2.1]; exact (List.getElem?_eq_some_iff.1 he).1
    exact (hM.2.2.2.2.2.2 i es[i] e (List.getElem?_eq_getElem hil) he).2.1
  have hold : ∀ x ∈ ents.toArray.toList, x.born < nn := fun e he => by
    obtain ⟨i, hi, rfl⟩ := List.mem_iff_getElem.1 (show e ∈ ents by simpa using he)
    rw [born i _ (List.getElem?_eq_getElem hi), ← hlen]; exact hi
  have hrun : (execOp a.eval o).run P w = ((Instr.next (.pointer (some ⟨bi, 0, none⟩)) false o.type).run P w).andThen fun v w' => .ok (.value v) w' := by
    obtain ⟨dst, op, type, pos, after, guard⟩ := o
    simp only at ho
    subst ho
    simp [execOp, hu]
  rcases run_next_at (P := P) w o.type bi bm nn nn seen.toArray ents.toArray ents.length a4 hM.2.1 hold (Nat.le_refl _) with ⟨h0, hr⟩ | ⟨e, he, w1, hw1, hr⟩
  · right
    refine ⟨fun i hi => ?_, ?_⟩
    · have hil : i < ents.length := by rw [hlen]; exact hi
      have hemp := Array.eq_empty_of_size_eq_zero h0
      unfold leftOf at hemp
      rw [Array.filter_eq_empty_iff] at hemp
      have := hemp ents[i] (by simp)
      rw [born i _ (List.getElem?_eq_getElem hil)] at this
      simpa using this
    · refine Up.value (m' := m) (w' := w) (v := .tuple #[.bool false]) (by rw [hrun, hr]; rfl) hS (FrameExt.refl F S m w) (.tup _ [.bool false] rfl (fun i v u hv hu => ?_))
      match i with
      | 0 => cases hv; cases hu; exact .t _ _ (.sc _ rfl)
      | i + 1 => cases hv
  · left
    unfold leftOf at he
    simp only [Array.toList_filter, List.mem_filter, Bool.not_eq_true', List.contains_toArray] at he
    obtain ⟨he1, he2⟩ := he
    obtain ⟨i, hi, rfl⟩ := List.mem_iff_getElem.1 he1
    have hb := born i _ (List.getElem?_eq_getElem hi)
    rw [hb] at he2 hr
    have hal : w1.heap = w.heap ∧ w1.os = w.os ∧ w1.tape = w.tape ∧ w1.output = w.output := by rcases hw1 with rfl | rfl <;> exact ⟨rfl, rfl, rfl, rfl⟩
    have hblt : bi < w.heap.size := (Array.getElem?_eq_some_iff.1 a4).1
    have key := rewrite_obj (o' := .miter mid nn (seen ++ [i])) hS hid rfl a1 (w' := ChangeMaps.setBlock w1 bi (.mapIter (some bm) nn (seen.toArray.push i) ents.length)) hal.2.1 hal.2.2.1 hal.2.2.2
      (by simp [ChangeMaps.setBlock, hal.1]) (fun c hc => by simp only [ChangeMaps.setBlock, hal.1]; rw [Array.getElem?_setIfInBounds_ne (Ne.symm hc)]) (Nat.le_refl _) trivial
      (fun hF => ⟨bi, bm, a1, a2, ⟨es, h, by rw [upd_ne (fun e => by subst e; rw [hid] at hmid; cases hmid)]; exact hmid⟩, by
        simp only [ChangeMaps.setBlock, hal.1, hlen]
        rw [Array.getElem?_setIfInBounds_self_of_lt hblt]
        simp⟩)
    refine ⟨i, by rw [← hlen]; exact hi, by simpa using he2, ?_⟩
    refine Up.value (m' := m) (v := .tuple #[.bool true, ents[i].key, ents[i].val]) (by rw [hrun, hr]; rfl) key.1 key.2 (.tup _ [.bool true, ents[i].key, ents[i].val] rfl (fun j v u hv hu => ?_))
    match j with
    | 0 => cases hv; cases hu; exact .t _ _ (.sc _ rfl)
    | 1 => cases hv; exact .junk _
    | 2 => cases hv; exact .junk _
    | j + 3 => cases hv

def nxV (v : Bool) : AVal := bif v then .tup [.t (.sc (.bool true)), .junk, .junk] else .tup [.t (.sc (.bool false))]
/-- The state behind a region that asks for the next entry: there is one, number i, or there is none. -/
def nxX (P : Program) (n : Nat) (v : Bool) (i : Nat) : Option (At × List Prop) → Option Cfg
  | some (.mid (.region _ ops false) K s, _) => match ops.toList with
    | o1 :: rest => match o1.op, o1.guard with
      | .next x false, none => match ev s.sl x with
        | .hdl id => match s.st id with
          | some (.miter mid n' seen) =>
            match runL P ops.toList [] s.nx 1 rest ⟨put s.sl o1.dst (nxV v), app s.st (bif v then [(id, .miter mid n' (seen ++ [i]))] else []), s.nx⟩ with
            | some (s', rs) => bif (ops.toList.all (dstOk n)) && (allC rs).isEmpty && Nat.blt id s.nx then some ⟨.out .normal, K, ⟨s'.sl, s'.st, s.nx + 8 * ops.toList.length⟩⟩ else none
            | none => none
          | _ => none
        | _ => none
      | _, _ => none
    | [] => none
  | _ => none
def nxI : Option (At × List Prop) → Option (Nat × List Nat × List (Int × MV) × List Prop)
  | some (.mid (.region _ ops false) _ s, C) => match ops.toList with
    | o1 :: _ => match o1.op with
      | .next x false => match ev s.sl x with
        | .hdl id => match s.st id with
          | some (.miter mid n seen) => match s.st mid with
            | some (.mp es _) => some (n, seen, es, C)
            | _ => none
          | _ => none
        | _ => none
      | _ => none
    | [] => none
  | _ => none
theorem nx_sim {rid : Nat} {ops : Array Oper} {K : List Fr} {C C' : List Prop} {nn : Nat} {seen : List Nat} {es : List (Int × MV)} (hn : es.length = nn) (hI : nxI (some (.mid (.region rid ops false) K s, C)) = some (nn, seen, es, C'))
    (h1 : ∀ i, (nxX P n true i (some (.mid (.region rid ops false) K s, C))).isSome = true) (h2 : (nxX P n false 0 (some (.mid (.region rid ops false) K s, C))).isSome = true)
    (ht : ∀ i, i < nn → i ∉ seen → ∀ s', (nxX P n true i (some (.mid (.region rid ops false) K s, C))) = some ⟨.out .normal, K, s'⟩ → Q .normal s')
    (hf : (∀ i, i < nn → i ∈ seen) → ∀ s', (nxX P n false 0 (some (.mid (.region rid ops false) K s, C))) = some ⟨.out .normal, K, s'⟩ → Q .normal s') : Sim P n l0 (.region rid ops false) s Q := by
  intro F m0 w0 m a w h0 r1 r2
  suffices hh : (Code.region rid ops.toList.toArray false).wp P (fun e a' w' => ∃ s' m', Rel F n s' m' a' w' ∧ FrameExt F (app emp l0) m0 w0 s'.st m' w' ∧ Q e s') a w by simpa using hh
  refine wp_region_list ?_
  simp only [nxI] at hI
  split at hI
  rotate_left
  · cases hI
  rename_i o1 rest hops
  split at hI
  rotate_left
  · cases hI
  rename_i x hop
  split at hI
  rotate_left
  · cases hI
  rename_i id hx
  split at hI
  rotate_left
  · cases hI
  rename_i mid n' seen' hit
  split at hI
  rotate_left
  · cases hI
  rename_i es' hh' hmid
  simp only [Option.some.injEq, Prod.mk.injEq] at hI
  obtain ⟨rfl, rfl, rfl, -⟩ := hI
  have hxv : VRel s.st m w (okB F s.st m w) (.hdl id) (a.eval x) := by
    have := ev_rel (x := x) (fun t _ => r1.slots t)
    rw [hx] at this; exact this
  have hguard : o1.guard = none := by
    have := h2
    simp only [nxX, hops, hop] at this
    cases hg : o1.guard with
    | none => rfl
    | some p => simp [hg] at this
  have hX : ∀ v i, nxX P n v i (some (.mid (.region rid ops false) K s, C)) =
      match runL P ops.toList [] s.nx 1 rest ⟨put s.sl o1.dst (nxV v), app s.st (bif v then [(id, .miter mid n' (seen' ++ [i]))] else []), s.nx⟩ with
      | some (s', rs) => bif (ops.toList.all (dstOk n)) && (allC rs).isEmpty && Nat.blt id s.nx then some ⟨.out .normal, K, ⟨s'.sl, s'.st, s.nx + 8 * ops.toList.length⟩⟩ else none
      | none => none := by
    intro v i
    simp only [nxX]
    rw [hops]
    simp only [hop, hguard, hx, hit]
  have go : ∀ (v : Bool) (i : Nat), (nxX P n v i (some (.mid (.region rid ops false) K s, C))).isSome = true →
      (∀ s', nxX P n v i (some (.mid (.region rid ops false) K s, C)) = some ⟨.out .normal, K, s'⟩ → Q .normal s') →
      Up P F s.st m w (bif v then [(id, .miter mid n' (seen' ++ [i]))] else []) (nxV v) o1 a →
      wpList P ops.toList.toArray (fun e a' w' => ∃ s' m', Rel F n s' m' a' w' ∧ FrameExt F (app emp l0) m0 w0 s'.st m' w' ∧ Q e s') (o1 :: rest) a w := by
    intro v i hs hq hu
    rw [hX] at hs
    have hq' : ∀ s', _ = some (⟨.out .normal, K, s'⟩ : Cfg) → Q .normal s' := fun s' h => hq s' ((hX v i).trans h)
    revert hs hq'
    split
    · rename_i s2 rs hrun
      intro hs hq'
      cases hc : ((ops.toList.all (dstOk n)) && (allC rs).isEmpty && Nat.blt id s.nx) with
      | false => rw [hc] at hs; cases hs
      | true =>
        rw [hc] at hq'
        simp only [Bool.and_eq_true] at hc
        obtain ⟨⟨c1, c2⟩, c3⟩ := hc
        have hemp : allC rs = [] := by simpa using c2
        rw [hops] at c1
        simp only [List.all_cons, Bool.and_eq_true] at c1
        have hQ := hq' _ rfl
        unfold wpList
        rw [if_pos (by simp [Region.wanted, hguard])]
        refine .inl (hu _ _ (fun u w' m' k1 k2 k3 => ?_))
        refine runL_wp rest 1 _ s2 rs hrun (by rw [hemp]; trivial) c1.2 m' _ w' ?_ (by rw [put_size]; exact r1.size) (by rw [put_defers]; exact r1.defers) k1 (fun id' hid' => ?_) (fun m'' a'' w'' q1 q2 q3 q4 q5 q6 => ?_)
        · exact SlotsRel.put c1.1 r1.size (fun t => k2.val (r1.slots t)) k3
        · show app s.st _ id' = none
          have hfr := r1.fresh id' (by omega)
          cases v with
          | false => exact hfr
          | true =>
            have hlt : id < s.nx := Nat.lt_of_succ_le (Nat.le_of_ble_eq_true c3)
            show upd s.st id _ id' = none
            rw [upd_ne (by omega)]; exact hfr
        · refine ⟨⟨s2.sl, s2.st, s.nx + 8 * ops.toList.length⟩, m'', ⟨q1, q2, q3, q4, fun id' hid' => q5 id' ?_⟩, r2.trans h0 (k2.trans r1.srel q6), hQ⟩
          simp only [hops, List.length_cons] at hid'
          omega
    · intro hs; cases hs
  rw [hops]
  have hops' : ops.toList.toArray = (o1 :: rest).toArray := by rw [hops]
  rw [← hops']
  rcases next_step r1.srel hop hxv hit hmid hn with ⟨i, hi, hni, hu⟩ | ⟨hall, hu⟩
  · exact go true i (h1 i) (ht i hi hni) hu
  · exact go false 0 h2 (hf hall) hu
def cfD (c : Option Cfg) : Cfg := c.getD default
theorem SimC.next {c : Cfg} (sc : List It) (nn : Nat) (seen : List Nat) (es : List (Int × MV)) (hn : es.length = nn)
    (ht : ∀ i, i < nn → i ∉ seen → SimC P n l0 Q (cfD (nxX P n true i (runP P n sc c)))) (hf : (∀ i, i < nn → i ∈ seen) → SimC P n l0 Q (cfD (nxX P n false 0 (runP P n sc c))))
    (h : nxI (runP P n sc c) = some (nn, seen, es, csL sc) := by kernel_rfl) (h1 : ∀ i, (nxX P n true i (runP P n sc c)).isSome = true := by intro i; kernel_rfl) (h2 : (nxX P n false 0 (runP P n sc c)).isSome = true := by kernel_rfl) : SimC P n l0 Q c := by
  generalize hr : runP P n sc c = r at *
  match r, h with
  | some (.mid (.region rid ops false) K s, C), h =>
    have hC : C = csL sc := by
      simp only [nxI] at h
      split at h
      rotate_left
      · cases h
      split at h
      rotate_left
      · cases h
      split at h
      rotate_left
      · cases h
      split at h
      rotate_left
      · cases h
      split at h
      rotate_left
      · cases h
      simp only [Option.some.injEq, Prod.mk.injEq] at h
      exact h.2.2.2
    subst hC
    refine run_sound hr (csL_all sc) (fun hm hQ => ?_)
    refine nx_sim hn h h1 h2 (fun i hi hni s' hs => ?_) (fun hall s' hs => ?_)
    · have := (ht i hi hni).run hm hQ
      rw [hs] at this
      exact this
    · have := (hf hall).run hm hQ
      rw [hs] at this
      exact this
end Go.Ab
end
section
set_option linter.unusedVariables false
namespace Go.Ab
open Go
variable {P : Program}

abbrev OM {α : Type} (f : α → Int × MV) (l : List α) : Ob := .mp (l.map f) none
/-- Looked up: nothing; plain data or nothing; data; a pointer to data. -/
def Xm0 (es : List (Int × MV)) (n : Int) : Px (lookE es n = none) := ⟨⟨none, none, none, some ⟨0, [], .junk, []⟩, []⟩, [lookE es n = none], fun h => ⟨h, trivial⟩⟩
def Xmt (es : List (Int × MV)) (n : Int) (z T : Tree) : Px (lookT es n z = some T) := ⟨⟨none, none, none, some ⟨4, [], .t T, []⟩, []⟩, [lookT es n z = some T], fun h => ⟨h, trivial⟩⟩
def Xmtb (es : List (Int × MV)) (n : Int) (z T : Tree) (b : Bool) : Px (lookT es n z = some T ∧ (lookE es n).isSome = b) :=
  ⟨⟨none, none, none, some ⟨4, [], .tup [.t T, VB b], []⟩, []⟩, [lookT es n z = some T, (lookE es n).isSome = b], fun h => ⟨h.1, h.2, trivial⟩⟩
def Xm1 (es : List (Int × MV)) (n : Int) (T : Tree) : Px (lookE es n = some (.im T)) := ⟨⟨none, none, none, some ⟨1, [], .t T, []⟩, []⟩, [lookE es n = some (.im T)], fun h => ⟨h, trivial⟩⟩
def Xm1c (es : List (Int × MV)) (n : Int) (cs : List Tree) : Px (lookE es n = some (.cp cs)) := ⟨⟨none, none, none, some ⟨1, [], .cptr cs, []⟩, []⟩, [lookE es n = some (.cp cs)], fun h => ⟨h, trivial⟩⟩
def Xmq {α : Type} (es : List (Int × MV)) (n : Int) (k : Nat) (g : α → Tree) (xs : List α) : Px (lookQ es n k = some (xs.map g)) := ⟨⟨none, none, none, some ⟨5, [], .t (.lst k (xs.map g)), []⟩, []⟩, [lookQ es n k = some (xs.map g)], fun h => ⟨h, trivial⟩⟩
/-- A box, or a row, is taken out. -/
def Xm2 (es : List (Int × MV)) (n : Int) (Ts : List Tree) : Px (lookE es n = some (.bx Ts)) :=
  ⟨⟨none, none, none, some ⟨2, [], .junk, [(0, .box (Ts.map .t))]⟩, []⟩, [lookE es n = some (.bx Ts)], fun h => ⟨h, trivial⟩⟩
def Xm2r {α : Type} (es : List (Int × MV)) (n : Int) (id nid k : Nat) (g : α → Tree) (xs : List α) : Px (lookE es n = some (.rw k (xs.map g))) :=
  ⟨⟨some (.row nid xs.length), some [(id, .mp es (some (n, .row nid xs.length))), (nid, .row k false (xs.map g))], none, some ⟨2, [], .junk, [(0, .row k false (xs.map g))]⟩, []⟩,
    [lookE es n = some (.rw k (xs.map g)), Weak (.row nid (xs.map g).length) (.row nid xs.length), [(id, Ob.mp es (some (n, .row nid xs.length))), (nid, .row k false (xs.map g))] = [(id, Ob.mp es (some (n, .row nid (xs.map g).length))), (nid, .row k false (xs.map g))]],
    fun h => ⟨h, Weak.of_eq (by rw [List.length_map]), by rw [List.length_map], trivial⟩⟩
/-- A row is written no more. -/
def Xm3 {α β : Type} (f : β → Int × MV) (l l' : List β) (n : Int) (id k : Nat) (g : α → Tree) (xs : List α) : Px (lookE (l.map f) n = some (.rw k (xs.map g)) ∧ putE (l.map f) n (.im (.lst k (xs.map g))) = l'.map f) :=
  ⟨⟨none, some [(id, .mp (l'.map f) none)], none, some ⟨3, [], .t (.lst k (xs.map g)), []⟩, []⟩,
    [lookE (l.map f) n = some (.rw k (xs.map g)), [(id, Ob.mp (l'.map f) none)] = [(id, Ob.mp (putE (l.map f) n (.im (.lst k (xs.map g)))) none)]], fun h => ⟨h.1, by rw [h.2], trivial⟩⟩
/-- Stored: data; a row, or a box, that is the map's from here on; the entry that was taken out. -/
def Xmu {β : Type} (f : β → Int × MV) (l l' : List β) (n : Int) (id : Nat) (v : MV) : Px (putE (l.map f) n v = l'.map f) :=
  ⟨⟨none, some [(id, .mp (l'.map f) none)], none, none, []⟩, [[(id, Ob.mp (l'.map f) none)] = [(id, Ob.mp (putE (l.map f) n v) none)]], fun h => ⟨by rw [h], trivial⟩⟩
def Xmf {α β : Type} (f : β → Int × MV) (l l' : List β) (n : Int) (id r k q : Nat) (g : α → Tree) (xs : List α) : Px (q = xs.length ∧ putE (l.map f) n (.im (.lst k (xs.map g))) = l'.map f) :=
  ⟨⟨none, some [(r, .row k true (xs.map g)), (id, .mp (l'.map f) none)], none, none, []⟩, [q = (xs.map g).length, [(r, Ob.row k true (xs.map g)), (id, Ob.mp (l'.map f) none)] = [(r, Ob.row k true (xs.map g)), (id, Ob.mp (putE (l.map f) n (.im (.lst k (xs.map g)))) none)]],
    fun h => ⟨by rw [List.length_map]; exact h.1, by rw [h.2], trivial⟩⟩
def Xmr {α β : Type} (f : β → Int × MV) (l l' : List β) (n : Int) (id r k q : Nat) (g : α → Tree) (xs : List α) : Px (q = xs.length ∧ putE (l.map f) n (.rw k (xs.map g)) = l'.map f) :=
  ⟨⟨none, some [(r, .gone), (id, .mp (l'.map f) none)], none, none, [(0, 1)]⟩, [q = (xs.map g).length, [(r, Ob.gone), (id, Ob.mp (l'.map f) none)] = [(r, Ob.gone), (id, Ob.mp (putE (l.map f) n (.rw k (xs.map g))) none)]],
    fun h => ⟨by rw [List.length_map]; exact h.1, by rw [h.2], trivial⟩⟩
def Xmrh {α β : Type} (f : β → Int × MV) (l l' : List β) (n n' : Int) (id r k q : Nat) (g : α → Tree) (xs : List α) : Px (q = xs.length ∧ n = n' ∧ putE (l.map f) n (.rw k (xs.map g)) = l'.map f) :=
  ⟨⟨none, some [(r, .gone), (id, .mp (l'.map f) none)], none, none, [(0, 1)]⟩, [q = (xs.map g).length, n = n', [(r, Ob.gone), (id, Ob.mp (l'.map f) none)] = [(r, Ob.gone), (id, Ob.mp (putE (l.map f) n (.rw k (xs.map g))) none)]],
    fun h => ⟨by rw [List.length_map]; exact h.1, h.2.1, by rw [h.2.2], trivial⟩⟩
def Xmb {β : Type} (f : β → Int × MV) (l l' : List β) (n : Int) (id r : Nat) (Ts : List Tree) : Px (putE (l.map f) n (.bx Ts) = l'.map f) :=
  ⟨⟨none, some [(r, .gone), (id, .mp (l'.map f) none)], none, none, []⟩, [[(r, Ob.gone), (id, Ob.mp (l'.map f) none)] = [(r, Ob.gone), (id, Ob.mp (putE (l.map f) n (.bx Ts)) none)]], fun h => ⟨by rw [h], trivial⟩⟩
/-- A range over a map; its entry: the key alone, data, a pointer to data, a box that is taken out. -/
def Xmg {β : Type} (f : β → Int × MV) (l : List β) (id nid : Nat) : Px True :=
  ⟨⟨none, some [(nid, .miter id l.length [])], none, none, [(0, 1)]⟩, [[(nid, Ob.miter id l.length [])] = [(nid, Ob.miter id (l.map f).length [])]], fun _ => ⟨by rw [List.length_map], trivial⟩⟩
def Xe0 {β : Type} (f : β → Int × MV) (l : List β) (mid n : Nat) (seen : List Nat) (i : Nat) (k : Int) : Px (l.length = n ∧ seen.getLast? = some i ∧ ((l.map f)[i]?).map (·.1) = some k) :=
  ⟨⟨none, none, some (.sc (.int .i64 (i : Int))), some ⟨0, [mid], .tup [VI k, .junk], []⟩, []⟩, [(l.map f).length = n, seen.getLast? = some ((i : Int).toNat), ((l.map f)[(i : Int).toNat]?).map (·.1) = some k],
    fun h => ⟨by rw [List.length_map]; exact h.1, h.2.1, h.2.2, trivial⟩⟩
def Xe1 {β : Type} (f : β → Int × MV) (l : List β) (mid n : Nat) (seen : List Nat) (i : Nat) (k : Int) (T : Tree) : Px (l.length = n ∧ seen.getLast? = some i ∧ (l.map f)[i]? = some (k, .im T)) :=
  ⟨⟨none, none, some (.sc (.int .i64 (i : Int))), some ⟨1, [mid], .tup [VI k, .t T], []⟩, []⟩, [(l.map f).length = n, seen.getLast? = some ((i : Int).toNat), (l.map f)[(i : Int).toNat]? = some (k, .im T)],
    fun h => ⟨by rw [List.length_map]; exact h.1, h.2.1, h.2.2, trivial⟩⟩
def Xe2 {β : Type} (f : β → Int × MV) (l : List β) (mid n : Nat) (seen : List Nat) (i : Nat) (k : Int) (Ts : List Tree) : Px (l.length = n ∧ seen.getLast? = some i ∧ (l.map f)[i]? = some (k, .bx Ts)) :=
  ⟨⟨none, none, some (.sc (.int .i64 (i : Int))), some ⟨2, [mid], .tup [VI k, .junk], [(0, .box (Ts.map .t))]⟩, []⟩, [(l.map f).length = n, seen.getLast? = some ((i : Int).toNat), (l.map f)[(i : Int).toNat]? = some (k, .bx Ts)],
    fun h => ⟨by rw [List.length_map]; exact h.1, h.2.1, h.2.2, trivial⟩⟩
/-- A list with no room behind it; what is appended to it. -/
def Xsm {α : Type} (f : α → Tree) (k : Nat) (l : List α) (hi : Int) : Px (0 ≤ hi ∧ hi ≤ (l.length : Int)) :=
  ⟨oV (.xl k ((l.take hi.toNat).map f)), [0 ≤ hi, hi ≤ (((l.map f).length : Nat) : Int), hi = hi, Weak (.xl k ((l.map f).take hi.toNat)) (.xl k ((l.take hi.toNat).map f))],
    fun h => ⟨h.1, by rw [List.length_map]; exact h.2, rfl, Weak.of_eq (by rw [List.map_take]), trivial⟩⟩
def Xax {α : Type} (k : Nat) (f : α → Tree) (id : Nat) (o ys : List α) : Px (0 < ys.length ∧ o.length + ys.length ≤ 1099511627776) :=
  ⟨⟨some (.row id (o ++ ys).length), some [(id, .row k false ((o ++ ys).map f))], none, none, []⟩,
    [0 < (ys.map f).length, (o.map f).length + (ys.map f).length ≤ 1099511627776, Weak (.row id ((o.map f).length + (ys.map f).length)) (.row id (o ++ ys).length), [(id, Ob.row k false ((o ++ ys).map f))] = [(id, Ob.row k false (o.map f ++ ys.map f))]],
    fun h => ⟨by rw [List.length_map]; exact h.1, by rw [List.length_map, List.length_map]; exact h.2, Weak.of_eq (by simp), row_append rfl, trivial⟩⟩
/-- Passed over. -/
def Xskip (e : Bool) (v : AVal) : Px (e = false) := ⟨⟨none, none, none, some ⟨9, [], v, []⟩, []⟩, [e = false], fun h => ⟨h, trivial⟩⟩
end Go.Ab
end
section
set_option linter.unusedVariables false
set_option linter.unusedSimpArgs false
namespace Go.Ch
open Go Go.Ab

structure DOp where
  clock : Int
  site : Int
  kind : Int
  itm : Int
  prt : Int
  plc : ByteArray
  nm : ByteArray
  vl : ByteArray
  deriving DecidableEq
instance : Inhabited DOp := ⟨⟨0, 0, 0, 0, 0, mt, mt, mt⟩⟩
def dopT (o : DOp) : Tree := .agg [TI o.clock, TI o.site, TI o.kind, TI o.itm, TI o.prt, TS o.plc, TS o.nm, TS o.vl]
structure DItem where
  item : Int
  parent : Int
  place : ByteArray
  attrs : List Attr
instance : Inhabited DItem := ⟨⟨0, 0, mt, []⟩⟩
def ditT (x : DItem) : Tree := .agg [TI x.item, TI x.parent, TS x.place, TL 2 attrT x.attrs]

/-! ### Places -/
def plS (s : ByteArray) (i : Nat) : Bool := if i < s.size then (if byt s i < 97 ∨ 122 < byt s i then false else plS s (i + 1)) else true
termination_by s.size - i
def placeB (s : ByteArray) : Bool := decide (1 ≤ s.size ∧ s.size ≤ 200 ∧ byt s (s.size - 1) ≠ 97) && plS s 0

/-! ### Stamps -/
def stampC (a b : DOp) : Int := orL [cmpI a.clock b.clock, cmpI a.site b.site]
/-- The stamp of a is less than that of b. -/
def ltO (a b : DOp) : Prop := a.clock < b.clock ∨ (a.clock = b.clock ∧ a.site < b.site)
instance (a b : DOp) : Decidable (ltO a b) := by unfold ltO; infer_instance
theorem stampC_lt {a b : DOp} : stampC a b < 0 ↔ ltO a b := by
  unfold stampC ltO cmpI
  rw [orL_two]
  split <;> split <;> (try split) <;> (try split) <;> omega
theorem stampC_ge {a b : DOp} : 0 ≤ stampC a b ↔ ¬ ltO a b := by rw [← stampC_lt]; omega
theorem ltO_trans {a b c : DOp} (h : ltO a b) (k : ltO b c) : ltO a c := by unfold ltO at *; omega
/-! ### The error of operations -/
def opE (o : DOp) : Int :=
  if o.kind ≠ 0 ∧ o.kind ≠ 1 then 8
  else if o.clock < 1 ∨ 1073741824 < o.clock ∨ o.site < 0 ∨ 1000 < o.site ∨ o.itm < 1 ∨ 1073741824 < o.itm then 2
  else if (o.kind = 0 ∧ (seq o.nm mt = false ∨ seq o.vl mt = false)) ∨ (o.kind = 1 ∧ (o.prt ≠ 0 ∨ seq o.plc mt = false)) then 4
  else if o.kind = 0 ∧ (o.prt < -1 ∨ 1073741824 < o.prt) then 2
  else if (o.kind = 0 ∧ placeB o.plc = false) ∨ (o.kind = 1 ∧ nameGo o.nm = false) then 9
  else if o.kind = 1 ∧ seq o.vl mt = false ∧ valGo o.vl = false then 23
  else 0
def drawE (l : List DOp) (i : Nat) : Int :=
  if i < l.length then
    if opE (l.getD i default) ≠ 0 then opE (l.getD i default)
    else if 0 < i ∧ ¬ ltO (l.getD (i - 1) default) (l.getD i default) then 5
    else drawE l (i + 1)
  else 0
termination_by l.length - i

/-! ### The union of operations -/
def unionO : List DOp → List DOp → Option (List DOp)
  | [], [] => some []
  | a :: l, [] => (unionO l []).map (a :: ·)
  | [], b :: r => (unionO [] r).map (b :: ·)
  | a :: l, b :: r =>
    if ltO a b then (unionO l (b :: r)).map (a :: ·)
    else if ltO b a then (unionO (a :: l) r).map (b :: ·)
    else if a = b then (unionO l r).map (a :: ·) else none
termination_by a b => a.length + b.length
theorem unionO_left {x y : List DOp} (h : 0 < x.length) (hy : y.length = 0 ∨ ltO (x.getD 0 default) (y.getD 0 default)) : unionO x y = (unionO (x.drop 1) y).map (x.getD 0 default :: ·) := by
  cases x with
  | nil => simp at h
  | cons a l =>
    cases y with
    | nil => simp [unionO]
    | cons b r => simp only [List.getD_cons_zero] at hy; rw [unionO, if_pos (by simpa using hy)]; rfl
theorem unionO_right {x y : List DOp} (h : 0 < y.length) (hx : x.length = 0 ∨ ltO (y.getD 0 default) (x.getD 0 default)) : unionO x y = (unionO x (y.drop 1)).map (y.getD 0 default :: ·) := by
  cases y with
  | nil => simp at h
  | cons b r =>
    cases x with
    | nil => simp [unionO]
    | cons a l =>
      simp only [List.getD_cons_zero] at hx
      have hx : ltO b a := by simpa using hx
      rw [unionO, if_neg (by unfold ltO at *; omega), if_pos hx]; rfl
theorem unionO_both {x y : List DOp} (h : 0 < x.length) (h' : 0 < y.length) (h1 : ¬ ltO (x.getD 0 default) (y.getD 0 default)) (h2 : ¬ ltO (y.getD 0 default) (x.getD 0 default)) :
    unionO x y = if x.getD 0 default = y.getD 0 default then (unionO (x.drop 1) (y.drop 1)).map (x.getD 0 default :: ·) else none := by
  cases x with
  | nil => simp at h
  | cons a l =>
    cases y with
    | nil => simp at h'
    | cons b r => simp only [List.getD_cons_zero] at h1 h2; rw [unionO, if_neg h1, if_neg h2]; rfl
theorem dop_ext {a b : DOp} (h1 : a.clock = b.clock) (h2 : a.site = b.site) (h3 : a.kind = b.kind) (h4 : a.itm = b.itm) (h5 : a.prt = b.prt) (h6 : a.plc = b.plc) (h7 : a.nm = b.nm) (h8 : a.vl = b.vl) : a = b := by
  cases a; cases b; simp_all
theorem getDO_mem {l : List DOp} {i : Nat} (h : i < l.length) : l.getD i default ∈ l := by
  rw [show l.getD i default = l[i] by simp [List.getD, List.getElem?_eq_getElem h]]
  exact List.getElem_mem h
end Go.Ch
end
section
set_option linter.unusedVariables false
set_option linter.unusedSimpArgs false
set_option maxRecDepth 100000
set_option maxHeartbeats 4000000
open Go Go.Proofs Go.Ab
namespace Go.Ch
theorem fc_isNaN (x : Int) : FC Try.prog 51 [VI x] (app emp []) (VB false) (app emp []) := by
 refine .go Try.f51 ?_
 have e1 : ((x != x) : Bool) = false := by
  simp
 exact .finE [.r [], .r []] [] (fun z0 => (VB z0, [])) ((x != x) : Bool) (false : Bool) e1.symm

theorem fc_cmpI (x y : Int) : FC Try.prog 37 [VI x, VI y] (app emp []) (VI (cmpI x y)) (app emp []) := by
 refine .go Try.f37 ?_
 refine .br [.r [], .r [(1, X (Xc0 (fc_isNaN x) X0))], .r [(1, X (Xc0 (fc_isNaN y) X0))], .r [], .f, .r [], .f, .r []] (decide (x < y)) (fun h9 => ?_) (fun h9 => ?_)
 ·
  (try simp only [decide_eq_true_eq, decide_eq_false_iff_not, Int.not_lt, Int.not_le] at h9)
  have e1 : ((cmpI x y) : Int) = -1 := by
   unfold cmpI; ((repeat' split) <;> first | rfl | omega | (simp_all; done) | (simp_all; omega))
  exact .finE [.r []] [] (fun z0 => (VI z0, [])) (-1 : Int) ((cmpI x y) : Int) e1
 ·
  (try simp only [decide_eq_true_eq, decide_eq_false_iff_not, Int.not_lt, Int.not_le] at h9)
  refine .br [.r []] (decide (x > y)) (fun h11 => ?_) (fun h11 => ?_)
  ·
   (try simp only [decide_eq_true_eq, decide_eq_false_iff_not, Int.not_lt, Int.not_le, gt_iff_lt] at h11)
   have e2 : ((cmpI x y) : Int) = 1 := by
    unfold cmpI; ((repeat' split) <;> first | rfl | omega | (simp_all; done) | (simp_all; omega))
   exact .finE [.r []] [] (fun z0 => (VI z0, [])) (1 : Int) ((cmpI x y) : Int) e2
  ·
   (try simp only [decide_eq_true_eq, decide_eq_false_iff_not, Int.not_lt, Int.not_le, gt_iff_lt] at h11)
   have e3 : ((cmpI x y) : Int) = 0 := by
    unfold cmpI; ((repeat' split) <;> first | rfl | omega | (simp_all; done) | (simp_all; omega))
   exact .finE [.r []] [] (fun z0 => (VI z0, [])) (0 : Int) ((cmpI x y) : Int) e3

theorem fc_or (l : List Int) : FC Try.prog 35 [VL 1 intT l] (app emp []) (VI (orL l)) (app emp []) := by
 refine .go Try.f35 ?_
 refine .len 0 (fun hl0 => ?_)
 refine .loop (α := Nat) [.r [], .r [], .r [(1, X (Xl intT l))]] 40 (fun i => ([(3, VI 0), (6, VL 1 intT l), (7, VI (l.length : Int)), (8, VI (i : Int))], [])) (fun i => i ≤ l.length ∧ orL l = orL (l.drop i)) (fun i => l.length - i) (0 : Nat) ?_ ?_
 ·
  exact ⟨by omega, rfl⟩
 rintro i I3 ih3
 try dsimp only at I3
 refine .br [.r []] (decide ((i : Int) < (l.length : Int))) (fun h3 => ?_) (fun h3 => ?_)
 ·
  (try simp only [decide_eq_true_eq, decide_eq_false_iff_not, Int.not_lt, Int.not_le] at h3)
  refine .br [.r [(0, X (Xi intT l (i : Int)))], .r []] ((l.getD i default) != 0) (fun h5 => ?_) (fun h5 => ?_)
  ·
   (try simp only [bne_iff_ne, bne_eq_false_iff_eq, ne_eq] at h5)
   have e1 : ((orL l) : Int) = (l.getD i default) := by
    rw [I3.2, orL_at (by omega), if_pos (by omega)]
   exact .finE [.r []] [] (fun z0 => (VI z0, [])) ((l.getD i default) : Int) ((orL l) : Int) e1
  ·
   (try simp only [bne_iff_ne, bne_eq_false_iff_eq, ne_eq] at h5)
   refine .back [.r [(0, X (Xn ((i : Int) + 1)))]] [] (ih3 ((i + 1) : Nat) ?_ ?_)
   ·
    refine ⟨by omega, ?_⟩
    rw [I3.2, orL_at (by omega), if_neg (by omega)]
   ·
    ((try dsimp only); omega)
 ·
  (try simp only [decide_eq_true_eq, decide_eq_false_iff_not, Int.not_lt, Int.not_le] at h3)
  have e2 : ((orL l) : Int) = 0 := by
   rw [I3.2, List.drop_eq_nil_of_le (by omega)]; rfl
  exact .finE [.r []] [] (fun z0 => (VI z0, [])) (0 : Int) ((orL l) : Int) e2

theorem fc_place (s : ByteArray) : FC Try.prog 16 [VS s] (app emp []) (VB (placeB s)) (app emp []) := by
 refine .go Try.f16 ?_
 refine .br [.r [], .r [(4, Xv 1 (!(seq s ({ data := #[] }))) X0), (5, Xv 1 (!(seq s ({ data := #[] }))) X0), (6, X (Xk' (seq s ({ data := #[] })))), (10, Xv 1 (!(seq s ({ data := #[] }) || decide ((s.size : Int) > 200))) X0), (11, Xv 1 (!(seq s ({ data := #[] }) || decide ((s.size : Int) > 200))) (Xn ((s.size : Int) - 1)) (fun hg => by (try simp only [decide_eq_true_eq, decide_eq_false_iff_not, Int.not_lt, Int.not_le, gt_iff_lt, Bool.not_eq_true', Bool.not_eq_false', Bool.or_eq_true, Bool.or_eq_false_iff] at hg); exact (by have := str_pos hg.1; omega))), (12, Xv 2 (!(seq s ({ data := #[] }) || decide ((s.size : Int) > 200))) (Xb s ((s.size : Int) - 1)) (fun hg => by (try simp only [decide_eq_true_eq, decide_eq_false_iff_not, Int.not_lt, Int.not_le, gt_iff_lt, Bool.not_eq_true', Bool.not_eq_false', Bool.or_eq_true, Bool.or_eq_false_iff] at hg); exact ⟨(by have := str_pos hg.1; omega), (by omega)⟩)), (13, Xv 1 (!(seq s ({ data := #[] }) || decide ((s.size : Int) > 200))) X0), (14, X (Xk' (seq s ({ data := #[] }) || decide ((s.size : Int) > 200))))]] ((seq s ({ data := #[] }) || decide ((s.size : Int) > 200)) || (((((s[(Int.toNat ((s.size : Int) - 1))]?).getD 0).toNat : Nat) : Int) == 97)) (fun h1 => ?_) (fun h1 => ?_)
 ·
  (try simp only [decide_eq_true_eq, decide_eq_false_iff_not, Int.not_lt, Int.not_le, gt_iff_lt, Bool.or_eq_true, Bool.or_eq_false_iff, beq_iff_eq, beq_eq_false_iff_ne, ne_eq] at h1)
  have e1 : ((placeB s) : Bool) = false := by
   have hs : ((s.size : Int) - 1).toNat = s.size - 1 := by omega
   rw [hs] at h1; simp only [byt0, seq_mt, decide_eq_true_eq] at h1; unfold placeB; rw [decide_eq_false (fun q => by omega)]; rfl
  exact .finE [.r []] [] (fun z0 => (VB z0, [])) (false : Bool) ((placeB s) : Bool) e1
 ·
  (try simp only [decide_eq_true_eq, decide_eq_false_iff_not, Int.not_lt, Int.not_le, gt_iff_lt, Bool.or_eq_true, Bool.or_eq_false_iff, beq_iff_eq, beq_eq_false_iff_ne, ne_eq] at h1)
  refine .loop (α := Nat) [.r []] 152 (fun i => ([(0, VS s), (20, VI (s.size : Int)), (21, VI (i : Int))], [])) (fun i => i ≤ s.size ∧ plS s 0 = plS s i) (fun i => s.size - i) (0 : Nat) ?_ ?_
  ·
   exact ⟨by omega, rfl⟩
  rintro i I4 ih4
  try dsimp only at I4
  refine .br [.r []] (decide ((i : Int) < (s.size : Int))) (fun h4 => ?_) (fun h4 => ?_)
  ·
   (try simp only [decide_eq_true_eq, decide_eq_false_iff_not, Int.not_lt, Int.not_le] at h4)
   refine .br [.r [], .r [(2, X (Xb s (i : Int))), (7, Xv 2 (!(decide (((((s[i]?).getD 0).toNat : Nat) : Int) < 97))) (Xb s (i : Int))), (8, Xv 1 (!(decide (((((s[i]?).getD 0).toNat : Nat) : Int) < 97))) X0), (9, X (Xk' (decide (((((s[i]?).getD 0).toNat : Nat) : Int) < 97))))]] (decide (((((s[i]?).getD 0).toNat : Nat) : Int) < 97) || decide (((((s[i]?).getD 0).toNat : Nat) : Int) > 122)) (fun h6 => ?_) (fun h6 => ?_)
   ·
    (try simp only [decide_eq_true_eq, decide_eq_false_iff_not, Int.not_lt, Int.not_le, gt_iff_lt, Bool.or_eq_true, Bool.or_eq_false_iff] at h6)
    have e2 : ((placeB s) : Bool) = false := by
     simp only [byt0] at h6; unfold placeB; rw [I4.2, plS, if_pos (by omega), if_pos (by omega)]; simp
    exact .finE [.r []] [] (fun z0 => (VB z0, [])) (false : Bool) ((placeB s) : Bool) e2
   ·
    (try simp only [decide_eq_true_eq, decide_eq_false_iff_not, Int.not_lt, Int.not_le, gt_iff_lt, Bool.or_eq_true, Bool.or_eq_false_iff] at h6)
    refine .back [.r [(0, X (Xn ((i : Int) + 1)))]] [] (ih4 ((i + 1) : Nat) ?_ ?_)
    ·
     simp only [byt0] at h6; refine ⟨by omega, ?_⟩; rw [I4.2, plS, if_pos (by omega), if_neg (by omega)]
    ·
     ((try dsimp only); omega)
  ·
   (try simp only [decide_eq_true_eq, decide_eq_false_iff_not, Int.not_lt, Int.not_le] at h4)
   have e3 : ((placeB s) : Bool) = true := by
    have hs : ((s.size : Int) - 1).toNat = s.size - 1 := by omega
    rw [hs] at h1; simp only [byt0, seq_mt, decide_eq_false_iff_not] at h1; unfold placeB; rw [I4.2, plS, if_neg (by omega), decide_eq_true (by omega)]; rfl
   exact .finE [.r []] [] (fun z0 => (VB z0, [])) (true : Bool) ((placeB s) : Bool) e3

theorem fc_stamps (a b : DOp) : FC Try.prog 31 [.t (dopT a), .t (dopT b)] (app emp []) (VI (stampC a b)) (app emp []) := by
 refine .go Try.f31 ?_
 have e1 : ((stampC a b) : Int) = (orL [(cmpI a.clock b.clock), (cmpI a.site b.site)]) := by
  rfl
 exact .finE [.r [], .r [(4, X (Xc0 (fc_cmpI a.clock b.clock) X0)), (9, X (Xc0 (fc_cmpI a.site b.site) X0)), (11, X (Xc0 (fc_or [(cmpI a.clock b.clock), (cmpI a.site b.site)]) (rowC intT [(cmpI a.clock b.clock), (cmpI a.site b.site)] X0)))]] [] (fun z0 => (VI z0, [])) ((orL [(cmpI a.clock b.clock), (cmpI a.site b.site)]) : Int) ((stampC a b) : Int) e1

theorem fc_op (o : DOp) : FC Try.prog 30 [.t (dopT o)] (app emp []) (VI (opE o)) (app emp []) := by
 refine .go Try.f30 ?_
 refine .br [.r [], .r [(5, Xv 1 (o.kind != 0) X0), (6, Xv 1 (o.kind != 0) X0), (7, X (Xk (o.kind != 0)))]] ((o.kind != 0) && (o.kind != 1)) (fun h1 => ?_) (fun h1 => ?_)
 ·
  (try simp only [Bool.and_eq_true, Bool.and_eq_false_iff, Bool.not_eq_true', Bool.not_eq_false', bne_iff_ne, bne_eq_false_iff_eq, ne_eq] at h1)
  have e1 : ((opE o) : Int) = 8 := by
   unfold opE
   (repeat' split) <;> first | rfl | (exfalso; omega) | (exfalso; simp_all; done) | (exfalso; simp_all; omega) | grind
  exact .finE [.r []] [] (fun z0 => (VI z0, [])) (8 : Int) ((opE o) : Int) e1
 ·
  (try simp only [Bool.and_eq_true, Bool.and_eq_false_iff, Bool.not_eq_true', Bool.not_eq_false', bne_iff_ne, bne_eq_false_iff_eq, ne_eq] at h1)
  refine .br [.r [(5, Xv 1 (!(decide (o.clock < 1))) X0), (6, Xv 1 (!(decide (o.clock < 1))) X0), (7, X (Xk' (decide (o.clock < 1)))), (10, Xv 1 (!(decide (o.clock < 1) || decide (o.clock > 1073741824))) X0), (11, Xv 1 (!(decide (o.clock < 1) || decide (o.clock > 1073741824))) X0), (12, X (Xk' (decide (o.clock < 1) || decide (o.clock > 1073741824)))), (15, Xv 1 (!((decide (o.clock < 1) || decide (o.clock > 1073741824)) || decide (o.site < 0))) X0), (16, Xv 1 (!((decide (o.clock < 1) || decide (o.clock > 1073741824)) || decide (o.site < 0))) X0), (17, X (Xk' ((decide (o.clock < 1) || decide (o.clock > 1073741824)) || decide (o.site < 0)))), (20, Xv 1 (!(((decide (o.clock < 1) || decide (o.clock > 1073741824)) || decide (o.site < 0)) || decide (o.site > 1000))) X0), (21, Xv 1 (!(((decide (o.clock < 1) || decide (o.clock > 1073741824)) || decide (o.site < 0)) || decide (o.site > 1000))) X0), (22, X (Xk' (((decide (o.clock < 1) || decide (o.clock > 1073741824)) || decide (o.site < 0)) || decide (o.site > 1000)))), (25, Xv 1 (!((((decide (o.clock < 1) || decide (o.clock > 1073741824)) || decide (o.site < 0)) || decide (o.site > 1000)) || decide (o.itm < 1))) X0), (26, Xv 1 (!((((decide (o.clock < 1) || decide (o.clock > 1073741824)) || decide (o.site < 0)) || decide (o.site > 1000)) || decide (o.itm < 1))) X0), (27, X (Xk' ((((decide (o.clock < 1) || decide (o.clock > 1073741824)) || decide (o.site < 0)) || decide (o.site > 1000)) || decide (o.itm < 1))))]] (((((decide (o.clock < 1) || decide (o.clock > 1073741824)) || decide (o.site < 0)) || decide (o.site > 1000)) || decide (o.itm < 1)) || decide (o.itm > 1073741824)) (fun h3 => ?_) (fun h3 => ?_)
  ·
   (try simp only [decide_eq_true_eq, decide_eq_false_iff_not, Int.not_lt, Int.not_le, gt_iff_lt, Bool.or_eq_true, Bool.or_eq_false_iff] at h3)
   have e2 : ((opE o) : Int) = 2 := by
    unfold opE
    (repeat' split) <;> first | rfl | (exfalso; omega) | (exfalso; simp_all; done) | (exfalso; simp_all; omega) | grind
   exact .finE [.r []] [] (fun z0 => (VI z0, [])) (2 : Int) ((opE o) : Int) e2
  ·
   (try simp only [decide_eq_true_eq, decide_eq_false_iff_not, Int.not_lt, Int.not_le, gt_iff_lt, Bool.or_eq_true, Bool.or_eq_false_iff] at h3)
   refine .br [.r [(5, Xv 1 (o.kind == 0) X0), (6, Xv 1 (o.kind == 0) X0), (7, Xv 1 (o.kind == 0) X0), (9, Xv 1 ((o.kind == 0) && !(!(seq o.nm ({ data := #[] })))) X0), (10, Xv 1 ((o.kind == 0) && !(!(seq o.nm ({ data := #[] })))) X0), (11, Xko (o.kind == 0) (!(seq o.nm ({ data := #[] })))), (12, X (Xk (o.kind == 0)))]] ((o.kind == 0) && (!(seq o.nm ({ data := #[] })) || !(seq o.vl ({ data := #[] })))) (fun h5 => ?_) (fun h5 => ?_)
   ·
    (try simp only [Bool.not_eq_true', Bool.not_eq_false', Bool.and_eq_true, Bool.and_eq_false_iff, Bool.or_eq_true, Bool.or_eq_false_iff, beq_iff_eq, beq_eq_false_iff_ne, ne_eq] at h5)
    refine .br [] ((o.kind == 0) && (!(seq o.nm ({ data := #[] })) || !(seq o.vl ({ data := #[] })))) (fun h5 => ?_) (fun h5 => ?_)
    ·
     (try simp only [Bool.not_eq_true', Bool.not_eq_false', Bool.and_eq_true, Bool.and_eq_false_iff, Bool.or_eq_true, Bool.or_eq_false_iff, beq_iff_eq, beq_eq_false_iff_ne, ne_eq] at h5)
     have e3 : ((opE o) : Int) = 4 := by
      unfold opE
      (repeat' split) <;> first | rfl | (exfalso; omega) | (exfalso; simp_all; done) | (exfalso; simp_all; omega) | grind
     exact .finE [.r []] [] (fun z0 => (VI z0, [])) (4 : Int) ((opE o) : Int) e3
    ·
     (try simp only [Bool.not_eq_true', Bool.not_eq_false', Bool.and_eq_true, Bool.and_eq_false_iff, Bool.or_eq_true, Bool.or_eq_false_iff, beq_iff_eq, beq_eq_false_iff_ne, ne_eq] at h5)
     refine .br [.r [(5, Xv 1 (o.kind == 0) X0), (6, Xv 1 (o.kind == 0) X0), (7, Xv 1 (o.kind == 0) X0), (9, Xv 1 ((o.kind == 0) && !(decide (o.prt < (-1)))) X0), (10, Xv 1 ((o.kind == 0) && !(decide (o.prt < (-1)))) X0), (11, Xko (o.kind == 0) (decide (o.prt < (-1)))), (12, X (Xk (o.kind == 0)))]] ((o.kind == 0) && (decide (o.prt < (-1)) || decide (o.prt > 1073741824))) (fun h8 => ?_) (fun h8 => ?_)
     ·
      (try simp only [decide_eq_true_eq, decide_eq_false_iff_not, Int.not_lt, Int.not_le, gt_iff_lt, Bool.and_eq_true, Bool.and_eq_false_iff, Bool.not_eq_true', Bool.not_eq_false', Bool.or_eq_true, Bool.or_eq_false_iff, beq_iff_eq, beq_eq_false_iff_ne, ne_eq] at h8)
      have e4 : ((opE o) : Int) = 2 := by
       unfold opE
       (repeat' split) <;> first | rfl | (exfalso; omega) | (exfalso; simp_all; done) | (exfalso; simp_all; omega) | grind
      exact .finE [.r []] [] (fun z0 => (VI z0, [])) (2 : Int) ((opE o) : Int) e4
     ·
      (try simp only [decide_eq_true_eq, decide_eq_false_iff_not, Int.not_lt, Int.not_le, gt_iff_lt, Bool.and_eq_true, Bool.and_eq_false_iff, Bool.not_eq_true', Bool.not_eq_false', Bool.or_eq_true, Bool.or_eq_false_iff, beq_iff_eq, beq_eq_false_iff_ne, ne_eq] at h8)
      refine .br [.r [(5, Xv 1 (o.kind == 0) X0), (6, Xv 1 (o.kind == 0) (Xc0 (fc_place o.plc) X0)), (7, Xv 1 (o.kind == 0) X0), (8, X (Xk (o.kind == 0)))]] ((o.kind == 0) && !(placeB o.plc)) (fun h10 => ?_) (fun h10 => ?_)
      ·
       (try simp only [Bool.not_eq_true', Bool.not_eq_false', Bool.and_eq_true, Bool.and_eq_false_iff, beq_iff_eq, beq_eq_false_iff_ne, ne_eq] at h10)
       refine .br [] ((o.kind == 0) && !(placeB o.plc)) (fun h10 => ?_) (fun h10 => ?_)
       ·
        (try simp only [Bool.not_eq_true', Bool.not_eq_false', Bool.and_eq_true, Bool.and_eq_false_iff, beq_iff_eq, beq_eq_false_iff_ne, ne_eq] at h10)
        have e5 : ((opE o) : Int) = 9 := by
         unfold opE
         (repeat' split) <;> first | rfl | (exfalso; omega) | (exfalso; simp_all; done) | (exfalso; simp_all; omega) | grind
        exact .finE [.r []] [] (fun z0 => (VI z0, [])) (9 : Int) ((opE o) : Int) e5
       ·
        (try simp only [Bool.not_eq_true', Bool.not_eq_false', Bool.and_eq_true, Bool.and_eq_false_iff, beq_iff_eq, beq_eq_false_iff_ne, ne_eq] at h10)
        refine .br [.r [(5, Xv 1 (o.kind == 1) X0), (6, Xv 1 (o.kind == 1) X0), (7, X (Xk (o.kind == 1))), (10, Xv 1 ((o.kind == 1) && !(seq o.vl ({ data := #[] }))) X0), (11, Xv 1 ((o.kind == 1) && !(seq o.vl ({ data := #[] }))) (Xc0 (fc_value o.vl) X0)), (12, Xv 1 ((o.kind == 1) && !(seq o.vl ({ data := #[] }))) X0), (13, X (Xk ((o.kind == 1) && !(seq o.vl ({ data := #[] })))))]] (((o.kind == 1) && !(seq o.vl ({ data := #[] }))) && !(valGo o.vl)) (fun h13 => ?_) (fun h13 => ?_)
        ·
         (try simp only [Bool.not_eq_true', Bool.not_eq_false', Bool.and_eq_true, Bool.and_eq_false_iff, beq_iff_eq, beq_eq_false_iff_ne, ne_eq] at h13)
         have e6 : ((opE o) : Int) = 23 := by
          unfold opE
          (repeat' split) <;> first | rfl | (exfalso; omega) | (exfalso; simp_all; done) | (exfalso; simp_all; omega) | grind
         exact .finE [.r []] [] (fun z0 => (VI z0, [])) (23 : Int) ((opE o) : Int) e6
        ·
         (try simp only [Bool.not_eq_true', Bool.not_eq_false', Bool.and_eq_true, Bool.and_eq_false_iff, beq_iff_eq, beq_eq_false_iff_ne, ne_eq] at h13)
         have e7 : ((opE o) : Int) = 0 := by
          unfold opE
          (repeat' split) <;> first | rfl | (exfalso; omega) | (exfalso; simp_all; done) | (exfalso; simp_all; omega) | grind
         exact .finE [.r []] [] (fun z0 => (VI z0, [])) (0 : Int) ((opE o) : Int) e7
      ·
       (try simp only [Bool.not_eq_true', Bool.not_eq_false', Bool.and_eq_true, Bool.and_eq_false_iff, beq_iff_eq, beq_eq_false_iff_ne, ne_eq] at h10)
       refine .br [.r [(5, Xv 1 (o.kind == 1) X0), (6, Xv 1 (o.kind == 1) (Xc0 (fc_name o.nm) X0)), (7, Xv 1 (o.kind == 1) X0), (8, X (Xk (o.kind == 1)))]] ((o.kind == 1) && !(nameGo o.nm)) (fun h11 => ?_) (fun h11 => ?_)
       ·
        (try simp only [Bool.not_eq_true', Bool.not_eq_false', Bool.and_eq_true, Bool.and_eq_false_iff, beq_iff_eq, beq_eq_false_iff_ne, ne_eq] at h11)
        have e8 : ((opE o) : Int) = 9 := by
         unfold opE
         (repeat' split) <;> first | rfl | (exfalso; omega) | (exfalso; simp_all; done) | (exfalso; simp_all; omega) | grind
        exact .finE [.r []] [] (fun z0 => (VI z0, [])) (9 : Int) ((opE o) : Int) e8
       ·
        (try simp only [Bool.not_eq_true', Bool.not_eq_false', Bool.and_eq_true, Bool.and_eq_false_iff, beq_iff_eq, beq_eq_false_iff_ne, ne_eq] at h11)
        refine .br [.r [(5, Xv 1 (o.kind == 1) X0), (6, Xv 1 (o.kind == 1) X0), (7, X (Xk (o.kind == 1))), (10, Xv 1 ((o.kind == 1) && !(seq o.vl ({ data := #[] }))) X0), (11, Xv 1 ((o.kind == 1) && !(seq o.vl ({ data := #[] }))) (Xc0 (fc_value o.vl) X0)), (12, Xv 1 ((o.kind == 1) && !(seq o.vl ({ data := #[] }))) X0), (13, X (Xk ((o.kind == 1) && !(seq o.vl ({ data := #[] })))))]] (((o.kind == 1) && !(seq o.vl ({ data := #[] }))) && !(valGo o.vl)) (fun h13 => ?_) (fun h13 => ?_)
        ·
         (try simp only [Bool.not_eq_true', Bool.not_eq_false', Bool.and_eq_true, Bool.and_eq_false_iff, beq_iff_eq, beq_eq_false_iff_ne, ne_eq] at h13)
         have e9 : ((opE o) : Int) = 23 := by
          unfold opE
          (repeat' split) <;> first | rfl | (exfalso; omega) | (exfalso; simp_all; done) | (exfalso; simp_all; omega) | grind
         exact .finE [.r []] [] (fun z0 => (VI z0, [])) (23 : Int) ((opE o) : Int) e9
        ·
         (try simp only [Bool.not_eq_true', Bool.not_eq_false', Bool.and_eq_true, Bool.and_eq_false_iff, beq_iff_eq, beq_eq_false_iff_ne, ne_eq] at h13)
         have e10 : ((opE o) : Int) = 0 := by
          unfold opE
          (repeat' split) <;> first | rfl | (exfalso; omega) | (exfalso; simp_all; done) | (exfalso; simp_all; omega) | grind
         exact .finE [.r []] [] (fun z0 => (VI z0, [])) (0 : Int) ((opE o) : Int) e10
   ·
    (try simp only [Bool.not_eq_true', Bool.not_eq_false', Bool.and_eq_true, Bool.and_eq_false_iff, Bool.or_eq_true, Bool.or_eq_false_iff, beq_iff_eq, beq_eq_false_iff_ne, ne_eq] at h5)
    refine .br [.r [(5, Xv 1 (o.kind == 1) X0), (6, Xv 1 (o.kind == 1) X0), (7, Xv 1 (o.kind == 1) X0), (9, Xv 1 ((o.kind == 1) && !(o.prt != 0)) X0), (10, Xv 1 ((o.kind == 1) && !(o.prt != 0)) X0), (11, Xko (o.kind == 1) (o.prt != 0)), (12, X (Xk (o.kind == 1)))]] ((o.kind == 1) && ((o.prt != 0) || !(seq o.plc ({ data := #[] })))) (fun h6 => ?_) (fun h6 => ?_)
    ·
     (try simp only [Bool.not_eq_true', Bool.not_eq_false', Bool.and_eq_true, Bool.and_eq_false_iff, Bool.or_eq_true, Bool.or_eq_false_iff, beq_iff_eq, beq_eq_false_iff_ne, ne_eq, bne_iff_ne, bne_eq_false_iff_eq] at h6)
     have e11 : ((opE o) : Int) = 4 := by
      unfold opE
      (repeat' split) <;> first | rfl | (exfalso; omega) | (exfalso; simp_all; done) | (exfalso; simp_all; omega) | grind
     exact .finE [.r []] [] (fun z0 => (VI z0, [])) (4 : Int) ((opE o) : Int) e11
    ·
     (try simp only [Bool.not_eq_true', Bool.not_eq_false', Bool.and_eq_true, Bool.and_eq_false_iff, Bool.or_eq_true, Bool.or_eq_false_iff, beq_iff_eq, beq_eq_false_iff_ne, ne_eq, bne_iff_ne, bne_eq_false_iff_eq] at h6)
     refine .br [.r [(5, Xv 1 (o.kind == 0) X0), (6, Xv 1 (o.kind == 0) X0), (7, Xv 1 (o.kind == 0) X0), (9, Xv 1 ((o.kind == 0) && !(decide (o.prt < (-1)))) X0), (10, Xv 1 ((o.kind == 0) && !(decide (o.prt < (-1)))) X0), (11, Xko (o.kind == 0) (decide (o.prt < (-1)))), (12, X (Xk (o.kind == 0)))]] ((o.kind == 0) && (decide (o.prt < (-1)) || decide (o.prt > 1073741824))) (fun h8 => ?_) (fun h8 => ?_)
     ·
      (try simp only [decide_eq_true_eq, decide_eq_false_iff_not, Int.not_lt, Int.not_le, gt_iff_lt, Bool.and_eq_true, Bool.and_eq_false_iff, Bool.not_eq_true', Bool.not_eq_false', Bool.or_eq_true, Bool.or_eq_false_iff, beq_iff_eq, beq_eq_false_iff_ne, ne_eq] at h8)
      have e12 : ((opE o) : Int) = 2 := by
       unfold opE
       (repeat' split) <;> first | rfl | (exfalso; omega) | (exfalso; simp_all; done) | (exfalso; simp_all; omega) | grind
      exact .finE [.r []] [] (fun z0 => (VI z0, [])) (2 : Int) ((opE o) : Int) e12
     ·
      (try simp only [decide_eq_true_eq, decide_eq_false_iff_not, Int.not_lt, Int.not_le, gt_iff_lt, Bool.and_eq_true, Bool.and_eq_false_iff, Bool.not_eq_true', Bool.not_eq_false', Bool.or_eq_true, Bool.or_eq_false_iff, beq_iff_eq, beq_eq_false_iff_ne, ne_eq] at h8)
      refine .br [.r [(5, Xv 1 (o.kind == 0) X0), (6, Xv 1 (o.kind == 0) (Xc0 (fc_place o.plc) X0)), (7, Xv 1 (o.kind == 0) X0), (8, X (Xk (o.kind == 0)))]] ((o.kind == 0) && !(placeB o.plc)) (fun h10 => ?_) (fun h10 => ?_)
      ·
       (try simp only [Bool.not_eq_true', Bool.not_eq_false', Bool.and_eq_true, Bool.and_eq_false_iff, beq_iff_eq, beq_eq_false_iff_ne, ne_eq] at h10)
       refine .br [] ((o.kind == 0) && !(placeB o.plc)) (fun h10 => ?_) (fun h10 => ?_)
       ·
        (try simp only [Bool.not_eq_true', Bool.not_eq_false', Bool.and_eq_true, Bool.and_eq_false_iff, beq_iff_eq, beq_eq_false_iff_ne, ne_eq] at h10)
        have e13 : ((opE o) : Int) = 9 := by
         unfold opE
         (repeat' split) <;> first | rfl | (exfalso; omega) | (exfalso; simp_all; done) | (exfalso; simp_all; omega) | grind
        exact .finE [.r []] [] (fun z0 => (VI z0, [])) (9 : Int) ((opE o) : Int) e13
       ·
        (try simp only [Bool.not_eq_true', Bool.not_eq_false', Bool.and_eq_true, Bool.and_eq_false_iff, beq_iff_eq, beq_eq_false_iff_ne, ne_eq] at h10)
        refine .br [.r [(5, Xv 1 (o.kind == 1) X0), (6, Xv 1 (o.kind == 1) X0), (7, X (Xk (o.kind == 1))), (10, Xv 1 ((o.kind == 1) && !(seq o.vl ({ data := #[] }))) X0), (11, Xv 1 ((o.kind == 1) && !(seq o.vl ({ data := #[] }))) (Xc0 (fc_value o.vl) X0)), (12, Xv 1 ((o.kind == 1) && !(seq o.vl ({ data := #[] }))) X0), (13, X (Xk ((o.kind == 1) && !(seq o.vl ({ data := #[] })))))]] (((o.kind == 1) && !(seq o.vl ({ data := #[] }))) && !(valGo o.vl)) (fun h13 => ?_) (fun h13 => ?_)
        ·
         (try simp only [Bool.not_eq_true', Bool.not_eq_false', Bool.and_eq_true, Bool.and_eq_false_iff, beq_iff_eq, beq_eq_false_iff_ne, ne_eq] at h13)
         have e14 : ((opE o) : Int) = 23 := by
          unfold opE
          (repeat' split) <;> first | rfl | (exfalso; omega) | (exfalso; simp_all; done) | (exfalso; simp_all; omega) | grind
         exact .finE [.r []] [] (fun z0 => (VI z0, [])) (23 : Int) ((opE o) : Int) e14
        ·
         (try simp only [Bool.not_eq_true', Bool.not_eq_false', Bool.and_eq_true, Bool.and_eq_false_iff, beq_iff_eq, beq_eq_false_iff_ne, ne_eq] at h13)
         have e15 : ((opE o) : Int) = 0 := by
          unfold opE
          (repeat' split) <;> first | rfl | (exfalso; omega) | (exfalso; simp_all; done) | (exfalso; simp_all; omega) | grind
         exact .finE [.r []] [] (fun z0 => (VI z0, [])) (0 : Int) ((opE o) : Int) e15
      ·
       (try simp only [Bool.not_eq_true', Bool.not_eq_false', Bool.and_eq_true, Bool.and_eq_false_iff, beq_iff_eq, beq_eq_false_iff_ne, ne_eq] at h10)
       refine .br [.r [(5, Xv 1 (o.kind == 1) X0), (6, Xv 1 (o.kind == 1) (Xc0 (fc_name o.nm) X0)), (7, Xv 1 (o.kind == 1) X0), (8, X (Xk (o.kind == 1)))]] ((o.kind == 1) && !(nameGo o.nm)) (fun h11 => ?_) (fun h11 => ?_)
       ·
        (try simp only [Bool.not_eq_true', Bool.not_eq_false', Bool.and_eq_true, Bool.and_eq_false_iff, beq_iff_eq, beq_eq_false_iff_ne, ne_eq] at h11)
        have e16 : ((opE o) : Int) = 9 := by
         unfold opE
         (repeat' split) <;> first | rfl | (exfalso; omega) | (exfalso; simp_all; done) | (exfalso; simp_all; omega) | grind
        exact .finE [.r []] [] (fun z0 => (VI z0, [])) (9 : Int) ((opE o) : Int) e16
       ·
        (try simp only [Bool.not_eq_true', Bool.not_eq_false', Bool.and_eq_true, Bool.and_eq_false_iff, beq_iff_eq, beq_eq_false_iff_ne, ne_eq] at h11)
        refine .br [.r [(5, Xv 1 (o.kind == 1) X0), (6, Xv 1 (o.kind == 1) X0), (7, X (Xk (o.kind == 1))), (10, Xv 1 ((o.kind == 1) && !(seq o.vl ({ data := #[] }))) X0), (11, Xv 1 ((o.kind == 1) && !(seq o.vl ({ data := #[] }))) (Xc0 (fc_value o.vl) X0)), (12, Xv 1 ((o.kind == 1) && !(seq o.vl ({ data := #[] }))) X0), (13, X (Xk ((o.kind == 1) && !(seq o.vl ({ data := #[] })))))]] (((o.kind == 1) && !(seq o.vl ({ data := #[] }))) && !(valGo o.vl)) (fun h13 => ?_) (fun h13 => ?_)
        ·
         (try simp only [Bool.not_eq_true', Bool.not_eq_false', Bool.and_eq_true, Bool.and_eq_false_iff, beq_iff_eq, beq_eq_false_iff_ne, ne_eq] at h13)
         have e17 : ((opE o) : Int) = 23 := by
          unfold opE
          (repeat' split) <;> first | rfl | (exfalso; omega) | (exfalso; simp_all; done) | (exfalso; simp_all; omega) | grind
         exact .finE [.r []] [] (fun z0 => (VI z0, [])) (23 : Int) ((opE o) : Int) e17
        ·
         (try simp only [Bool.not_eq_true', Bool.not_eq_false', Bool.and_eq_true, Bool.and_eq_false_iff, beq_iff_eq, beq_eq_false_iff_ne, ne_eq] at h13)
         have e18 : ((opE o) : Int) = 0 := by
          unfold opE
          (repeat' split) <;> first | rfl | (exfalso; omega) | (exfalso; simp_all; done) | (exfalso; simp_all; omega) | grind
         exact .finE [.r []] [] (fun z0 => (VI z0, [])) (0 : Int) ((opE o) : Int) e18

theorem fc_dcheck (l : List DOp) : FC Try.prog 20 [VL 8 dopT l] (app emp []) (VI (drawE l 0)) (app emp []) := by
 refine .go Try.f20 ?_
 refine .len 0 (fun hl0 => ?_)
 refine .loop (α := Nat) [.r [], .r [(1, X (Xl dopT l))]] 32 (fun i => ([(0, VL 8 dopT l), (6, VL 8 dopT l), (7, VI (l.length : Int)), (8, VI (i : Int))], [])) (fun i => i ≤ l.length ∧ drawE l 0 = drawE l i) (fun i => l.length - i) (0 : Nat) ?_ ?_
 ·
  exact ⟨by omega, rfl⟩
 rintro i I2 ih2
 try dsimp only at I2
 refine .br [.r []] (decide ((i : Int) < (l.length : Int))) (fun h2 => ?_) (fun h2 => ?_)
 ·
  (try simp only [decide_eq_true_eq, decide_eq_false_iff_not, Int.not_lt, Int.not_le] at h2)
  refine .br [.r [(1, X (Xi dopT l (i : Int)))], .r [(1, X (Xc0 (fc_op ((l.getD i default))) X0))], .r []] ((opE ((l.getD i default))) != 0) (fun h5 => ?_) (fun h5 => ?_)
  ·
   (try simp only [bne_iff_ne, bne_eq_false_iff_eq, ne_eq] at h5)
   have e1 : ((drawE l 0) : Int) = (opE ((l.getD i default))) := by
    rw [I2.2, drawE, if_pos (by omega), if_pos h5]
   exact .finE [.r []] [] (fun z0 => (VI z0, [])) ((opE ((l.getD i default))) : Int) ((drawE l 0) : Int) e1
  ·
   (try simp only [bne_iff_ne, bne_eq_false_iff_eq, ne_eq] at h5)
   refine .br [.r [(5, Xv 1 (decide ((i : Int) > 0)) (Xn ((i : Int) - 1))), (6, Xv 2 (decide ((i : Int) > 0)) (Xi' dopT l ((i : Int) - 1) (i - 1))), (7, Xv 1 (decide ((i : Int) > 0)) X0), (9, Xv 2 (decide ((i : Int) > 0)) (Xc0 (fc_stamps ((l.getD (i - 1) default)) ((l.getD i default))) X0)), (10, Xv 1 (decide ((i : Int) > 0)) X0), (11, X (Xk (decide ((i : Int) > 0))))]] (decide ((i : Int) > 0) && decide ((stampC ((l.getD (i - 1) default)) ((l.getD i default))) ≥ 0)) (fun h7 => ?_) (fun h7 => ?_)
   ·
    (try simp only [decide_eq_true_eq, decide_eq_false_iff_not, Int.not_lt, Int.not_le, gt_iff_lt, ge_iff_le, Bool.and_eq_true, Bool.and_eq_false_iff, Bool.not_eq_true', Bool.not_eq_false'] at h7)
    have e2 : ((drawE l 0) : Int) = 5 := by
     rw [I2.2, drawE, if_pos (by omega), if_neg (by rw [h5]; decide), if_pos ⟨by omega, by rw [← stampC_ge]; exact h7.2⟩]
    exact .finE [.r []] [] (fun z0 => (VI z0, [])) (5 : Int) ((drawE l 0) : Int) e2
   ·
    (try simp only [decide_eq_true_eq, decide_eq_false_iff_not, Int.not_lt, Int.not_le, gt_iff_lt, ge_iff_le, Bool.and_eq_true, Bool.and_eq_false_iff, Bool.not_eq_true', Bool.not_eq_false'] at h7)
    refine .back [.r [(0, X (Xn ((i : Int) + 1)))]] [] (ih2 ((i + 1) : Nat) ?_ ?_)
    ·
     refine ⟨by omega, ?_⟩; rw [I2.2, drawE, if_pos (by omega), if_neg (by rw [h5]; decide), if_neg (by rw [← stampC_ge]; clear ih2; rintro ⟨a, b⟩; rcases h7 with h | h <;> omega)]
    ·
     ((try dsimp only); omega)
 ·
  (try simp only [decide_eq_true_eq, decide_eq_false_iff_not, Int.not_lt, Int.not_le] at h2)
  have e3 : ((drawE l 0) : Int) = 0 := by
   rw [I2.2, drawE, if_neg (by omega)]
  exact .finE [.r []] [] (fun z0 => (VI z0, [])) (0 : Int) ((drawE l 0) : Int) e3

theorem fc_dboth (a b : List DOp) (hn : a.length + b.length ≤ 1099511627776) : FC Try.prog 21 [VL 8 dopT a, VL 8 dopT b] (app emp []) (.tup [VL 8 dopT ((unionO a b).getD []), VI (if (unionO a b).isSome then 0 else 6)]) (app emp []) := by
 refine .go Try.f21 ?_
 refine .len 0 (fun hl0 => ?_)
 refine .len 1 (fun hl1 => ?_)
 refine .loop (α := (List DOp) × (List DOp) × (List DOp)) [.r [], .r [], .le (.nR 6 8)] 25 (fun (x, y, o) => ([(0, VL 8 dopT x), (1, VL 8 dopT y), (6, .row 24 o.length)], [(24, OR 8 dopT o)])) (fun (x, y, o) => o.length + x.length + y.length ≤ a.length + b.length ∧ unionO a b = (unionO x y).map (o ++ ·)) (fun (x, y, o) => x.length + y.length) (a, b, []) ?_ ?_
 ·
  exact ⟨by simp, by simp⟩
 rintro ⟨x, y, o⟩ I2 ih2
 try dsimp only at I2
 refine .br [.r [(1, X (Xl dopT x)), (5, Xv 1 (!(decide ((x.length : Int) > 0))) (Xl dopT y)), (6, Xv 1 (!(decide ((x.length : Int) > 0))) X0), (7, X (Xk' (decide ((x.length : Int) > 0))))]] (decide ((x.length : Int) > 0) || decide ((y.length : Int) > 0)) (fun h2 => ?_) (fun h2 => ?_)
 ·
  (try simp only [decide_eq_true_eq, decide_eq_false_iff_not, Int.not_lt, Int.not_le, gt_iff_lt, Bool.or_eq_true, Bool.or_eq_false_iff] at h2)
  have hxy := h2
  refine .br [.r [(1, X (Xl dopT y)), (5, Xv 1 (!((y.length : Int) == 0)) (Xl dopT x)), (6, Xv 1 (!((y.length : Int) == 0)) X0), (7, Xv 1 (!((y.length : Int) == 0)) X0), (9, Xv 1 ((!((y.length : Int) == 0)) && (decide ((x.length : Int) > 0))) (Xi dopT x 0) (fun hg => by (try simp only [decide_eq_true_eq, decide_eq_false_iff_not, Int.not_lt, Int.not_le, gt_iff_lt, Bool.not_eq_true', Bool.not_eq_false', Bool.and_eq_true, Bool.and_eq_false_iff, beq_iff_eq, beq_eq_false_iff_ne, ne_eq] at hg); exact ⟨(by omega), (by omega)⟩)), (10, Xv 1 ((!((y.length : Int) == 0)) && (decide ((x.length : Int) > 0))) X0), (12, Xv 1 ((!((y.length : Int) == 0)) && (decide ((x.length : Int) > 0))) (Xi dopT y 0) (fun hg => by (try simp only [decide_eq_true_eq, decide_eq_false_iff_not, Int.not_lt, Int.not_le, gt_iff_lt, Bool.not_eq_true', Bool.not_eq_false', Bool.and_eq_true, Bool.and_eq_false_iff, beq_iff_eq, beq_eq_false_iff_ne, ne_eq] at hg); exact ⟨(by omega), (by omega)⟩)), (13, Xv 1 ((!((y.length : Int) == 0)) && (decide ((x.length : Int) > 0))) X0), (14, Xv 2 ((!((y.length : Int) == 0)) && (decide ((x.length : Int) > 0))) (Xc0 (fc_stamps ((x.getD 0 default)) ((y.getD 0 default))) X0)), (15, Xv 1 ((!((y.length : Int) == 0)) && (decide ((x.length : Int) > 0))) X0), (16, Xka (!((y.length : Int) == 0)) (decide ((x.length : Int) > 0))), (17, X (Xk' ((y.length : Int) == 0)))]] (((y.length : Int) == 0) || (decide ((x.length : Int) > 0) && decide ((stampC ((x.getD 0 default)) ((y.getD 0 default))) < 0))) (fun h4 => ?_) (fun h4 => ?_)
  ·
   (try simp only [decide_eq_true_eq, decide_eq_false_iff_not, Int.not_lt, Int.not_le, gt_iff_lt, Bool.and_eq_true, Bool.and_eq_false_iff, Bool.not_eq_true', Bool.not_eq_false', Bool.or_eq_true, Bool.or_eq_false_iff, beq_iff_eq, beq_eq_false_iff_ne, ne_eq] at h4)
   refine .back [.r [(2, X (Xi dopT x 0)), (5, X (rowC dopT [((x.getD 0 default))] (Xap 8 dopT 24 o [((x.getD 0 default))]))), (7, X (Xsd dopT 8 x 1))]] [(24, 24)] (ih2 ((x.drop 1), y, (o ++ [((x.getD 0 default))])) ?_ ?_)
   ·
    have hl : y.length = 0 ∨ ltO (x.getD 0 default) (y.getD 0 default) := by (rw [← stampC_lt]; omega)
    refine ⟨by simp; omega, ?_⟩
    rw [I2.2, unionO_left (by omega) hl, Option.map_map]; congr 1; funext z; simp
   ·
    (try dsimp only); simp; omega
  ·
   (try simp only [decide_eq_true_eq, decide_eq_false_iff_not, Int.not_lt, Int.not_le, gt_iff_lt, Bool.and_eq_true, Bool.and_eq_false_iff, Bool.not_eq_true', Bool.not_eq_false', Bool.or_eq_true, Bool.or_eq_false_iff, beq_iff_eq, beq_eq_false_iff_ne, ne_eq] at h4)
   refine .br [.r [(1, X (Xl dopT x)), (5, Xv 1 (!((x.length : Int) == 0)) (Xi dopT y 0) (fun hg => by (try simp only [Bool.not_eq_true', Bool.not_eq_false', beq_iff_eq, beq_eq_false_iff_ne, ne_eq] at hg); exact ⟨(by omega), (by omega)⟩)), (6, Xv 1 (!((x.length : Int) == 0)) X0), (8, Xv 1 (!((x.length : Int) == 0)) (Xi dopT x 0) (fun hg => by (try simp only [Bool.not_eq_true', Bool.not_eq_false', beq_iff_eq, beq_eq_false_iff_ne, ne_eq] at hg); exact ⟨(by omega), (by omega)⟩)), (9, Xv 1 (!((x.length : Int) == 0)) X0), (10, Xv 2 (!((x.length : Int) == 0)) (Xc0 (fc_stamps ((y.getD 0 default)) ((x.getD 0 default))) X0)), (11, Xv 1 (!((x.length : Int) == 0)) X0), (12, X (Xk' ((x.length : Int) == 0)))]] (((x.length : Int) == 0) || decide ((stampC ((y.getD 0 default)) ((x.getD 0 default))) < 0)) (fun h6 => ?_) (fun h6 => ?_)
   ·
    (try simp only [decide_eq_true_eq, decide_eq_false_iff_not, Int.not_lt, Int.not_le, Bool.or_eq_true, Bool.or_eq_false_iff, beq_iff_eq, beq_eq_false_iff_ne, ne_eq] at h6)
    refine .back [.r [(2, X (Xi dopT y 0)), (5, X (rowC dopT [((y.getD 0 default))] (Xap 8 dopT 24 o [((y.getD 0 default))]))), (7, X (Xsd dopT 8 y 1))]] [(24, 24)] (ih2 (x, (y.drop 1), (o ++ [((y.getD 0 default))])) ?_ ?_)
    ·
     have hl : x.length = 0 ∨ ltO (y.getD 0 default) (x.getD 0 default) := by (rw [← stampC_lt]; omega)
     refine ⟨by simp; omega, ?_⟩
     rw [I2.2, unionO_right (by omega) hl, Option.map_map]; congr 1; funext z; simp
    ·
     (try dsimp only); simp; omega
   ·
    (try simp only [decide_eq_true_eq, decide_eq_false_iff_not, Int.not_lt, Int.not_le, Bool.or_eq_true, Bool.or_eq_false_iff, beq_iff_eq, beq_eq_false_iff_ne, ne_eq] at h6)
    have hx0 : 0 < x.length := by omega
    have hy0 : 0 < y.length := by omega
    have n1 : ¬ ltO (x.getD 0 default) (y.getD 0 default) := by (rw [← stampC_lt]; omega)
    have n2 : ¬ ltO (y.getD 0 default) (x.getD 0 default) := by (rw [← stampC_lt]; omega)
    have hu := unionO_both hx0 hy0 n1 n2
    refine .br [.r [(1, X (Xi dopT x 0)), (4, X (Xi dopT y 0))]] (!((((x.getD 0 default)).clock) == (((y.getD 0 default)).clock) && ((((x.getD 0 default)).site) == (((y.getD 0 default)).site) && ((((x.getD 0 default)).kind) == (((y.getD 0 default)).kind) && ((((x.getD 0 default)).itm) == (((y.getD 0 default)).itm) && ((((x.getD 0 default)).prt) == (((y.getD 0 default)).prt) && (seq (((x.getD 0 default)).plc) (((y.getD 0 default)).plc) && (seq (((x.getD 0 default)).nm) (((y.getD 0 default)).nm) && (seq (((x.getD 0 default)).vl) (((y.getD 0 default)).vl) && true))))))))) (fun h8 => ?_) (fun h8 => ?_)
    ·
     (try simp only [Bool.not_eq_true', Bool.not_eq_false', Bool.and_eq_true, Bool.and_eq_false_iff, beq_iff_eq, beq_eq_false_iff_ne, ne_eq] at h8)
     have e1 : (((unionO a b).getD []) : List DOp) = [] := by
      have hne : ¬ x.getD 0 default = y.getD 0 default := by
       intro e
       have s0 : ∀ s, seq s s = true := fun s => seq_iff.2 rfl
       rw [e] at h8
       simp [s0] at h8
      rw [I2.2, hu, if_neg hne]; rfl
     have e2 : ((if (unionO a b).isSome then 0 else 6) : Int) = 6 := by
      have hne : ¬ x.getD 0 default = y.getD 0 default := by
       intro e
       have s0 : ∀ s, seq s s = true := fun s => seq_iff.2 rfl
       rw [e] at h8
       simp [s0] at h8
      rw [I2.2, hu, if_neg hne]; rfl
     exact .finE [.r [], .le (.nL 4 8)] [] (fun (z0, z1) => (.tup [VL 8 dopT z0, VI z1], [])) (([] : List DOp), (6 : Int)) ((((unionO a b).getD []) : List DOp), ((if (unionO a b).isSome then 0 else 6) : Int)) (pr e1 e2)
    ·
     (try simp only [Bool.not_eq_true', Bool.not_eq_false', Bool.and_eq_true, Bool.and_eq_false_iff, beq_iff_eq, beq_eq_false_iff_ne, ne_eq] at h8)
     refine .back [.r [(2, X (Xi dopT x 0)), (5, X (rowC dopT [((x.getD 0 default))] (Xap 8 dopT 24 o [((x.getD 0 default))]))), (7, X (Xsd dopT 8 x 1)), (9, X (Xsd dopT 8 y 1))]] [(24, 24)] (ih2 ((x.drop 1), (y.drop 1), (o ++ [((x.getD 0 default))])) ?_ ?_)
     ·
      obtain ⟨q1, q2, q3, q4, q5, q6, q7, q8, -⟩ := h8
      rw [seq_iff] at q6 q7 q8
      refine ⟨by simp; omega, ?_⟩
      rw [I2.2, hu, if_pos (dop_ext q1 q2 q3 q4 q5 q6 q7 q8), Option.map_map]; congr 1; funext z; simp
     ·
      (try dsimp only); simp; omega
 ·
  (try simp only [decide_eq_true_eq, decide_eq_false_iff_not, Int.not_lt, Int.not_le, gt_iff_lt, Bool.or_eq_true, Bool.or_eq_false_iff] at h2)
  have e3 : (((unionO a b).getD []) : List DOp) = o := by
   have hx0 : x = [] := List.eq_nil_of_length_eq_zero (by omega)
   have hy0 : y = [] := List.eq_nil_of_length_eq_zero (by omega)
   rw [I2.2, hx0, hy0]; simp [unionO]
  have e4 : ((if (unionO a b).isSome then 0 else 6) : Int) = 0 := by
   have hx0 : x = [] := List.eq_nil_of_length_eq_zero (by omega)
   have hy0 : y = [] := List.eq_nil_of_length_eq_zero (by omega)
   rw [I2.2, hx0, hy0]; simp [unionO]
  exact .finE [.r [], .le (.fr 4 [(o.length : Nat) = (List.map dopT o).length] ⟨lm, trivial⟩)] [] (fun (z0, z1) => (.tup [VL 8 dopT z0, VI z1], [])) ((o : List DOp), (0 : Int)) ((((unionO a b).getD []) : List DOp), ((if (unionO a b).isSome then 0 else 6) : Int)) (pr e3 e4)

theorem fc_djoin (a b : List DOp) (hn : a.length + b.length ≤ 1099511627776) : FC Try.prog 9 [VL 8 dopT a, VL 8 dopT b] (app emp []) (.tup [VL 8 dopT (if drawE a 0 = 0 ∧ drawE b 0 = 0 then (unionO a b).getD [] else []), VI (if drawE a 0 ≠ 0 then drawE a 0 else if drawE b 0 ≠ 0 then drawE b 0 else if (unionO a b).isSome then 0 else 6)]) (app emp []) := by
 refine .go Try.f9 ?_
 refine .len 0 (fun hl0 => ?_)
 refine .len 1 (fun hl1 => ?_)
 refine .br [.r [], .r [(1, X (Xc0 (fc_dcheck a) X0))], .r []] ((drawE a 0) != 0) (fun h2 => ?_) (fun h2 => ?_)
 ·
  (try simp only [bne_iff_ne, bne_eq_false_iff_eq, ne_eq] at h2)
  have e1 : ((if drawE a 0 = 0 ∧ drawE b 0 = 0 then (unionO a b).getD [] else []) : List DOp) = [] := by
   (repeat' split) <;> first | rfl | omega
  have e2 : ((if drawE a 0 ≠ 0 then drawE a 0 else if drawE b 0 ≠ 0 then drawE b 0 else if (unionO a b).isSome then 0 else 6) : Int) = (drawE a 0) := by
   (repeat' split) <;> first | rfl | omega
  exact .finE [.r [], .le (.nL 4 8)] [] (fun (z0, z1) => (.tup [VL 8 dopT z0, VI z1], [])) (([] : List DOp), ((drawE a 0) : Int)) (((if drawE a 0 = 0 ∧ drawE b 0 = 0 then (unionO a b).getD [] else []) : List DOp), ((if drawE a 0 ≠ 0 then drawE a 0 else if drawE b 0 ≠ 0 then drawE b 0 else if (unionO a b).isSome then 0 else 6) : Int)) (pr e1 e2)
 ·
  (try simp only [bne_iff_ne, bne_eq_false_iff_eq, ne_eq] at h2)
  refine .br [.r [(1, X (Xc0 (fc_dcheck b) X0))], .r []] ((drawE b 0) != 0) (fun h5 => ?_) (fun h5 => ?_)
  ·
   (try simp only [bne_iff_ne, bne_eq_false_iff_eq, ne_eq] at h5)
   have e3 : ((if drawE a 0 = 0 ∧ drawE b 0 = 0 then (unionO a b).getD [] else []) : List DOp) = [] := by
    (repeat' split) <;> first | rfl | omega
   have e4 : ((if drawE a 0 ≠ 0 then drawE a 0 else if drawE b 0 ≠ 0 then drawE b 0 else if (unionO a b).isSome then 0 else 6) : Int) = (drawE b 0) := by
    (repeat' split) <;> first | rfl | omega
   exact .finE [.r [], .le (.nL 4 8)] [] (fun (z0, z1) => (.tup [VL 8 dopT z0, VI z1], [])) (([] : List DOp), ((drawE b 0) : Int)) (((if drawE a 0 = 0 ∧ drawE b 0 = 0 then (unionO a b).getD [] else []) : List DOp), ((if drawE a 0 ≠ 0 then drawE a 0 else if drawE b 0 ≠ 0 then drawE b 0 else if (unionO a b).isSome then 0 else 6) : Int)) (pr e3 e4)
  ·
   (try simp only [bne_iff_ne, bne_eq_false_iff_eq, ne_eq] at h5)
   have e5 : ((if drawE a 0 = 0 ∧ drawE b 0 = 0 then (unionO a b).getD [] else []) : List DOp) = ((unionO a b).getD []) := by
    (repeat' split) <;> first | rfl | omega
   have e6 : ((if drawE a 0 ≠ 0 then drawE a 0 else if drawE b 0 ≠ 0 then drawE b 0 else if (unionO a b).isSome then 0 else 6) : Int) = (if (unionO a b).isSome then 0 else 6) := by
    (repeat' split) <;> first | rfl | omega
   exact .finE [.r [(2, X (Xc1 112 (fc_dboth a b (by first | omega | (simp; omega))) X0))]] [] (fun (z0, z1) => (.tup [VL 8 dopT z0, VI z1], [])) ((((unionO a b).getD []) : List DOp), ((if (unionO a b).isSome then 0 else 6) : Int)) (((if drawE a 0 = 0 ∧ drawE b 0 = 0 then (unionO a b).getD [] else []) : List DOp), ((if drawE a 0 ≠ 0 then drawE a 0 else if drawE b 0 ≠ 0 then drawE b 0 else if (unionO a b).isSome then 0 else 6) : Int)) (pr e5 e6)
end Go.Ch
end
