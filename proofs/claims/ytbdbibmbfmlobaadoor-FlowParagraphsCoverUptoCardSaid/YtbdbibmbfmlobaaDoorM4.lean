/- The oracles of the operations, each with the one thing that is asked. -/
import Derived.Test.YtbdbibmbfmlobaaDoorM1
import Derived.Test.YtbdbibmbfmlobaaDoorM2
import Derived.Test.YtbdbibmbfmlobaaDoorM3
import Derived.Test.YtbdbibmbfmlobaaDoorProg
import Derived.RangeFuncBox
import Derived.RangeFuncLeaves
import Derived.Shelf.Abstract
import Derived.WalkKit
import Derived.OwnWalkIn
import Derived.TacticsInMore
import Derived.LoopNIn
import Derived.LoopIn
import Derived.RangeFuncFrom
import Derived.RangeFuncCalls
import Derived.Shelf.Utf8.AppendRune
import Derived.Shelf.Utf8.AppendRunePlain
import Derived.Shelf.Unicode.Decode
import Derived.Shelf.Unicode.DecodeSlow
import Derived.Shelf.Unicode.DecodeAny
import Derived.Test.YtbdbibmbfmlobaaDoorRows
section
set_option linter.unusedVariables false
namespace Go.Ab
open Go
variable {P : Program}

structure Px (p : Prop) where
  o : Orc
  cs : List Prop
  h : p → All cs
def gdC (e : Bool) : List Prop → List Prop
  | [] => []
  | p :: l => (e = true → p) :: gdC e l
theorem gdC_all {e : Bool} : ∀ {l : List Prop}, (e = true → All l) → All (gdC e l)
  | [], _ => trivial
  | p :: l, h => ⟨fun he => (h he).1, gdC_all fun he => (h he).2⟩
/-- As it stands; behind a guard; behind a guard, with a write. -/
def X {p : Prop} (x : Px p) (h : p := by first | with_reducible exact True.intro | omega | (and_intros <;> first | omega | with_reducible rfl | with_reducible assumption | with_reducible exact True.intro | (simp only [List.length_map]; omega) | (simp; omega) | (simp; done))) : Ox := ⟨x.o, x.cs, x.h h⟩
def Xg {p : Prop} (e : Bool) (x : Px p) (h : e = true → p := by first | (intro _; with_reducible exact True.intro) | (intro hg; (try simp [-List.getD_eq_getElem?_getD] at hg); first | omega | (and_intros <;> first | omega | with_reducible rfl | with_reducible assumption | with_reducible exact True.intro | (simp only [List.length_map]; omega) | (simp; omega) | (simp [hg]; done)))) : Ox := ⟨x.o, gdC e x.cs, gdC_all fun he => x.h (h he)⟩
def Xw {p : Prop} (e : Bool) (x : Px p) (h : e = true) (hp : p) : Ox := ⟨x.o, gdC e x.cs ++ [e = true], All_app.2 ⟨gdC_all fun _ => x.h hp, h, trivial⟩⟩
def oV (v : AVal) : Orc := ⟨some v, none, none, none, []⟩
def oE (x : Tree) : Orc := ⟨none, none, some x, none, []⟩

/-- A guarded value is read: its guard. -/
def Xq {p : Prop} (e : Bool) (x : Px p) : Px (e = true ∧ p) := ⟨x.o, (e = true) :: x.cs, fun h => ⟨h.1, x.h h.2⟩⟩
/-- Conditions alone. -/
def Xc (p : Prop) : Px p := ⟨Orc.no, [p], fun h => ⟨h, trivial⟩⟩
def X0 : Px True := ⟨Orc.no, [], fun _ => trivial⟩
def Xa {p q : Prop} (x : Px p) (y : Px q) : Px (p ∧ q) := ⟨y.o, x.cs ++ y.cs, fun h => All_app.2 ⟨x.h h.1, y.h h.2⟩⟩
/-- No overflow. -/
def Xn (a : Int) : Px (-9223372036854775808 ≤ a ∧ a ≤ 9223372036854775807) := ⟨oV (VI a), [Weak (VI (IntKind.i64.wrap a)) (VI a)], fun h => ⟨Weak.of_eq (nw h), trivial⟩⟩
def Xquo (a b : Int) : Px (0 ≤ a ∧ 0 < b ∧ a ≤ 9223372036854775807) := ⟨oV (VI (a / b)), [b ≠ 0, Weak (VI (IntKind.i64.wrap (a.tdiv b))) (VI (a / b))], fun h => ⟨by omega, Weak.of_eq (quo_nn h), trivial⟩⟩
def Xrem (a b : Int) : Px (0 ≤ a ∧ 0 < b) := ⟨oV (VI (a % b)), [b ≠ 0, Weak (VI (a.tmod b)) (VI (a % b))], fun h => ⟨by omega, Weak.of_eq (rem_nn h.1), trivial⟩⟩
def Xmax (a b : Int) : Px True := ⟨oV (VI (max a b)), [Weak (VI (if b > a then b else a)) (VI (max a b))], fun _ => ⟨Weak.of_eq max_if, trivial⟩⟩
def Xmin (a b : Int) : Px True := ⟨oV (VI (min a b)), [Weak (VI (if b < a then b else a)) (VI (min a b))], fun _ => ⟨Weak.of_eq min_if, trivial⟩⟩
/-- The length of a list. -/
def Xl {α : Type} (f : α → Tree) (l : List α) : Px True := ⟨oV (VI (l.length : Int)), [Weak (VI ((l.map f).length : Int)) (VI (l.length : Int))], fun _ => ⟨Weak.of_eq len_map, trivial⟩⟩
/-- An element of a list; its number written otherwise. -/
def Xi {α : Type} [Inhabited α] (f : α → Tree) (l : List α) (j : Int) : Px (0 ≤ j ∧ j < (l.length : Int)) :=
  ⟨oE (f (l.getD j.toNat default)), [0 ≤ j, (l.map f)[j.toNat]? = some (f (l.getD j.toNat default))], fun h => ⟨h.1, elt_map h.1 h.2, trivial⟩⟩
def Xi' {α : Type} [Inhabited α] (f : α → Tree) (l : List α) (j : Int) (k : Nat) : Px (j = (k : Int) ∧ k < l.length) :=
  ⟨oE (f (l.getD k default)), [0 ≤ j, (l.map f)[j.toNat]? = some (f (l.getD k default))], fun h => ⟨by omega, elt_map' h.1 h.2, trivial⟩⟩
/-- An owned row is read whole. -/
def Xr {α : Type} (f : α → Tree) (o : List α) : Px True := ⟨Orc.no, [o.length = (o.map f).length], fun _ => ⟨List.length_map _ |>.symm, trivial⟩⟩
/-- An element of a row: its place; what is there; what is written there. -/
def Xp {α : Type} (f : α → Tree) (o : List α) (j : Int) : Px (0 ≤ j ∧ j < (o.length : Int)) :=
  ⟨Orc.no, [o.length = (o.map f).length, 0 ≤ j, j < (o.length : Int)], fun h => ⟨List.length_map _ |>.symm, h.1, h.2, trivial⟩⟩
def Xp' {α : Type} (f : α → Tree) (id : Nat) (o : List α) (j : Int) (k : Nat) : Px (j = (k : Int) ∧ k < o.length) :=
  ⟨oV (.eptr id o.length k 0), [o.length = (o.map f).length, 0 ≤ j, j < (o.length : Int), Weak (.eptr id o.length j.toNat 0) (.eptr id o.length k 0)],
    fun h => ⟨List.length_map _ |>.symm, by omega, by omega, Weak.of_eq (eptr_eq (by omega)), trivial⟩⟩
def Xe {α : Type} [Inhabited α] (f : α → Tree) (o : List α) (i : Nat) : Px (i < o.length) :=
  ⟨oE (f (o.getD i default)), [o.length = (o.map f).length, (o.map f)[i]? = some (f (o.getD i default))], fun h => ⟨List.length_map _ |>.symm, elt_nat h, trivial⟩⟩
def Xs {α : Type} [Inhabited α] (k : Nat) (f : α → Tree) (id : Nat) (o : List α) (i : Nat) (x : α) (g : List (Nat × Ob) := []) : Px (i < o.length) :=
  ⟨⟨none, some (g ++ [(id, .row k false ((o.set i x).map f))]), some (f (o.getD i default)), none, []⟩,
    [o.length = (o.map f).length, (o.map f)[i]? = some (f (o.getD i default)), g ++ [(id, Ob.row k false ((o.set i x).map f))] = g ++ [(id, Ob.row k false ((o.map f).set i (f x)))]],
    fun h => ⟨List.length_map _ |>.symm, elt_nat h, by rw [row_set rfl], trivial⟩⟩
/-- Parts of a list. -/
def Xst {α : Type} (f : α → Tree) (k : Nat) (l : List α) (hi : Int) : Px (0 ≤ hi ∧ hi ≤ (l.length : Int)) :=
  ⟨oV (VL k f (l.take hi.toNat)), [0 ≤ hi, hi ≤ (((l.map f).length : Nat) : Int), Weak (.t (.lst k ((l.map f).take hi.toNat))) (VL k f (l.take hi.toNat))], fun h => ⟨h.1, by rw [List.length_map]; exact h.2, Weak.of_eq sl_take, trivial⟩⟩
def Xsd {α : Type} (f : α → Tree) (k : Nat) (l : List α) (lo : Int) : Px (0 ≤ lo ∧ lo ≤ (l.length : Int)) :=
  ⟨oV (VL k f (l.drop lo.toNat)), [0 ≤ lo, lo ≤ (((l.map f).length : Nat) : Int), Weak (.t (.lst k ((l.map f).drop lo.toNat))) (VL k f (l.drop lo.toNat))], fun h => ⟨h.1, by rw [List.length_map]; exact h.2, Weak.of_eq sl_drop, trivial⟩⟩
def Xsb {α : Type} (f : α → Tree) (k : Nat) (l : List α) (lo hi : Int) : Px (0 ≤ lo ∧ lo ≤ hi ∧ hi ≤ (l.length : Int)) :=
  ⟨oV (VL k f ((l.take hi.toNat).drop lo.toNat)), [0 ≤ lo, lo ≤ hi, hi ≤ (((l.map f).length : Nat) : Int), Weak (.t (.lst k (((l.map f).take hi.toNat).drop lo.toNat))) (VL k f ((l.take hi.toNat).drop lo.toNat))],
    fun h => ⟨h.1, h.2.1, by rw [List.length_map]; exact h.2.2, Weak.of_eq sl_both, trivial⟩⟩
/-- The same, of an owned row. -/
def rowC {p : Prop} {α : Type} (f : α → Tree) (o : List α) (x : Px p) : Px p := ⟨x.o, (o.length = (o.map f).length) :: x.cs, fun h => ⟨List.length_map _ |>.symm, x.h h⟩⟩
theorem lm {α : Type} {n : Nat} {f : α → Tree} {o : List α} (h : n = o.length := by first | with_reducible rfl | omega | (simp; done) | (simp; omega)) : n = (o.map f).length := by rw [List.length_map]; exact h
def rowX {p : Prop} {α : Type} (n : Nat) (f : α → Tree) (o : List α) (x : Px p) (h : n = o.length := by first | omega | (simp; done) | (simp; omega)) : Px p := ⟨x.o, (n = (o.map f).length) :: x.cs, fun hp => ⟨by rw [List.length_map]; exact h, x.h hp⟩⟩
/-- The row's number is said otherwise. -/
def Xen {α : Type} [Inhabited α] (n : Nat) (f : α → Tree) (o : List α) (i : Nat) : Px (n = o.length ∧ i < o.length) :=
  ⟨oE (f (o.getD i default)), [n = (o.map f).length, (o.map f)[i]? = some (f (o.getD i default))], fun h => ⟨by rw [List.length_map]; exact h.1, elt_nat h.2, trivial⟩⟩
def Xpn {α : Type} (n : Nat) (f : α → Tree) (o : List α) (j : Int) : Px (n = o.length ∧ 0 ≤ j ∧ j < (n : Int)) :=
  ⟨Orc.no, [n = (o.map f).length, 0 ≤ j, j < (n : Int)], fun h => ⟨by rw [List.length_map]; exact h.1, h.2.1, h.2.2, trivial⟩⟩
def Xsn {α : Type} [Inhabited α] (n k : Nat) (f : α → Tree) (id : Nat) (o : List α) (i : Nat) (x : α) (g : List (Nat × Ob) := []) : Px (n = o.length ∧ i < o.length) :=
  ⟨⟨none, some (g ++ [(id, .row k false ((o.set i x).map f))]), some (f (o.getD i default)), none, []⟩,
    [n = (o.map f).length, (o.map f)[i]? = some (f (o.getD i default)), g ++ [(id, Ob.row k false ((o.set i x).map f))] = g ++ [(id, Ob.row k false ((o.map f).set i (f x)))]],
    fun h => ⟨by rw [List.length_map]; exact h.1, elt_nat h.2, by rw [row_set rfl], trivial⟩⟩
def Xapn {α : Type} (n k : Nat) (f : α → Tree) (id : Nat) (o ys : List α) : Px (n = o.length ∧ o.length + ys.length ≤ 1099511627776) :=
  ⟨⟨some (.row id (o ++ ys).length), some [(id, .row k false ((o ++ ys).map f))], none, none, []⟩,
    [n = (o.map f).length, n + (ys.map f).length ≤ 1099511627776, Weak (.row id (n + (ys.map f).length)) (.row id (o ++ ys).length), [(id, Ob.row k false ((o ++ ys).map f))] = [(id, Ob.row k false (o.map f ++ ys.map f))]],
    fun h => ⟨by rw [List.length_map]; exact h.1, by rw [List.length_map]; omega, Weak.of_eq (by rw [h.1]; simp), row_append rfl, trivial⟩⟩
/-- A byte of a string. -/
def Xb (s : ByteArray) (j : Int) : Px (0 ≤ j ∧ j < (s.size : Int)) := ⟨Orc.no, [0 ≤ j, j < (s.size : Int)], fun h => ⟨h.1, h.2, trivial⟩⟩
/-- A cell of an array in a box, its number known. -/
def Xlit (id off z len : Nat) (j : Int) (i : Nat) : Px (j = (i : Int) ∧ i < len) :=
  ⟨oV (.ptr id (off + i * z)), [0 ≤ j, j < (len : Int), Weak (.ptr id (off + j.toNat * z)) (.ptr id (off + i * z))], fun h => ⟨by omega, by omega, Weak.of_eq (by rw [show j.toNat = i by omega]), trivial⟩⟩
/-- append to nil, to a row. -/
def Xan {α : Type} (f : α → Tree) (id : Nat) (ys : List α) : Px (ys.length ≤ 1099511627776) :=
  ⟨oV (.row id ys.length), [(ys.map f).length ≤ 1099511627776, Weak (.row id (ys.map f).length) (.row id ys.length)], fun h => ⟨by rw [List.length_map]; exact h, Weak.of_eq (by rw [List.length_map]), trivial⟩⟩
def Xap {α : Type} (k : Nat) (f : α → Tree) (id : Nat) (o ys : List α) : Px (o.length + ys.length ≤ 1099511627776) :=
  ⟨⟨some (.row id (o ++ ys).length), some [(id, .row k false ((o ++ ys).map f))], none, none, []⟩,
    [o.length = (o.map f).length, o.length + (ys.map f).length ≤ 1099511627776, Weak (.row id (o.length + (ys.map f).length)) (.row id (o ++ ys).length), [(id, Ob.row k false ((o ++ ys).map f))] = [(id, Ob.row k false (o.map f ++ ys.map f))]],
    fun h => ⟨List.length_map _ |>.symm, by rw [List.length_map]; exact h, Weak.of_eq (by simp), row_append rfl, trivial⟩⟩
/-- make -/
def Xmk {α : Type} (k : Nat) (f : α → Tree) (id : Nat) (n m : Int) (z : α) : Px (0 ≤ n ∧ n ≤ m ∧ m ≤ 1099511627776) :=
  ⟨⟨none, some [(id, .row k false ((List.replicate n.toNat z).map f))], none, none, []⟩, [0 ≤ n, n ≤ m, m ≤ 1099511627776, [(id, Ob.row k false ((List.replicate n.toNat z).map f))] = [(id, Ob.row k false (List.replicate n.toNat (f z)))]],
    fun h => ⟨h.1, h.2.1, h.2.2, by rw [List.map_replicate], trivial⟩⟩
def Xmz {α : Type} (k : Nat) (f : α → Tree) (id : Nat) (n m : Int) (z : α) (zs : List Tree) (hz : TWs zs (f z).cells) : Px (0 ≤ n ∧ n ≤ m ∧ m ≤ 1099511627776) :=
  ⟨⟨none, some [(id, .row k false ((List.replicate n.toNat z).map f))], some (f z), none, []⟩, [0 ≤ n, n ≤ m, m ≤ 1099511627776, TWs zs (f z).cells, [(id, Ob.row k false ((List.replicate n.toNat z).map f))] = [(id, Ob.row k false (List.replicate n.toNat (f z)))]],
    fun h => ⟨h.1, h.2.1, h.2.2, hz, by rw [List.map_replicate], trivial⟩⟩
/-- Nil cells of a struct. -/
def Xf (l : List (Nat × Nat)) : Px True := ⟨⟨none, none, none, none, l⟩, [], fun _ => trivial⟩
def Xw' (d v : AVal) : Px (Weak d v) := ⟨oV v, [Weak d v], fun h => ⟨h, trivial⟩⟩
/-- Whatever an operation asks, given whole. -/
def Xx (o : Orc) (cs : List Prop) : Px (All cs) := ⟨o, cs, id⟩

/-- Under a guard, guarded values are read (k of them, by the same guard). -/
def rpC (e : Bool) : Nat → List Prop → List Prop
  | 0, l => l
  | k + 1, l => (e = true) :: rpC e k l
theorem rpC_all {e : Bool} (he : e = true) {l : List Prop} (h : All l) : ∀ k, All (rpC e k l)
  | 0 => h
  | k + 1 => ⟨he, rpC_all he h k⟩
def Xv {p : Prop} (k : Nat) (e : Bool) (x : Px p) (h : e = true → p := by first | (intro _; with_reducible exact True.intro) | (intro hg; (try simp [-List.getD_eq_getElem?_getD] at hg); first | omega | (and_intros <;> first | omega | with_reducible rfl | with_reducible assumption | with_reducible exact True.intro | (simp only [List.length_map]; omega) | (simp; omega) | (simp [hg]; done)))) : Ox :=
  ⟨x.o, gdC e (rpC e k x.cs), gdC_all fun he => rpC_all he (x.h (h he)) k⟩
/-- pick: 'and', 'or'. -/
def Xk (g : Bool) : Px True := ⟨Orc.no, [g = true → g = true], fun _ => ⟨id, trivial⟩⟩
def Xk' (g : Bool) : Px True := ⟨Orc.no, [g = false → (!g) = true], fun _ => ⟨fun h => by simp [h], trivial⟩⟩

def Xka (e g : Bool) : Ox := ⟨Orc.no, [e = true → e = true, e = true → g = true → (e && g) = true], ⟨id, fun h k => by rw [h, k]; rfl, trivial⟩⟩
def Xko (e g : Bool) : Ox := ⟨Orc.no, [e = true → e = true, e = true → g = false → (e && !g) = true], ⟨id, fun h k => by rw [h, k]; rfl, trivial⟩⟩
/-! ### A slice of slices -/
theorem mat_at {α : Type} [Inhabited α] {f : α → Tree} {l : List α} {k : Nat} (h : k < l.length) : (matC (l.map f) none)[k]? = some (.t (f (l.getD k default))) := by
  simp [matC, List.getD, List.getElem?_eq_getElem h]
theorem mat_at' {α : Type} [Inhabited α] {f : α → Tree} {l : List α} {k i r n : Nat} (h : k < l.length) (hk : k ≠ i) : (matC (l.map f) (some (i, r, n)))[k]? = some (.t (f (l.getD k default))) := by
  simp only [matC, List.getElem?_set]
  rw [if_neg (fun e => hk e.symm)]
  simp [List.getD, List.getElem?_eq_getElem h]
def Xmm {α : Type} (f : α → Tree) (id : Nat) (n m : Int) (z : α) (zs : List Tree) (hz : TWs zs (f z).cells) : Px (0 ≤ n ∧ n = m ∧ m ≤ 1099511627776) :=
  ⟨⟨none, some [(id, .mat false ((List.replicate n.toNat z).map f) none)], some (f z), none, [(0, 0)]⟩, [0 ≤ n, n = m, m ≤ 1099511627776, TWs zs (f z).cells, [(id, Ob.mat false ((List.replicate n.toNat z).map f) none)] = [(id, Ob.mat false (List.replicate n.toNat (f z)) none)]],
    fun h => ⟨h.1, h.2.1, h.2.2, hz, by rw [List.map_replicate], trivial⟩⟩
def Xmi {α : Type} (f : α → Tree) (l : List α) (j : Int) : Px (0 ≤ j ∧ j < (l.length : Int)) := ⟨Orc.no, [0 ≤ j, j < ((l.map f).length : Int)], fun h => ⟨h.1, by rw [List.length_map]; exact h.2, trivial⟩⟩
def Xmi' {α : Type} (f : α → Tree) (id : Nat) (l : List α) (j : Int) (k : Nat) : Px (j = (k : Int) ∧ k < l.length) := ⟨oV (.mptr id k), [0 ≤ j, j < ((l.map f).length : Int), Weak (.mptr id j.toNat) (.mptr id k)], fun h => ⟨by omega, by rw [List.length_map]; omega, Weak.of_eq (by rw [show j.toNat = k by omega]), trivial⟩⟩
def Xml {α : Type} [Inhabited α] (f : α → Tree) (l : List α) (k : Nat) : Px (k < l.length) := ⟨⟨none, none, some (f (l.getD k default)), none, []⟩, [(matC (l.map f) none)[k]? = some (.t (f (l.getD k default)))], fun h => ⟨mat_at h, trivial⟩⟩
def Xml' {α : Type} [Inhabited α] (f : α → Tree) (l : List α) (k i r n : Nat) : Px (k < l.length ∧ k ≠ i) := ⟨⟨none, none, some (f (l.getD k default)), none, []⟩, [(matC (l.map f) (some (i, r, n)))[k]? = some (.t (f (l.getD k default)))], fun h => ⟨mat_at' h.1 h.2, trivial⟩⟩
def Xmh {α : Type} (f : α → Tree) (l : List α) (k i : Nat) : Px (k = i ∧ i < l.length) := ⟨Orc.no, [k = i, i < (l.map f).length], fun h => ⟨h.1, by rw [List.length_map]; exact h.2, trivial⟩⟩
def Xms {α : Type} (f : α → Tree) (l : List α) (k : Nat) : Px (k < l.length) := ⟨Orc.no, [k < (l.map f).length], fun h => ⟨by rw [List.length_map]; exact h, trivial⟩⟩
/-! ### Calls -/
theorem FC.nil {f : FuncId} {args : List AVal} {res : AVal} {st st' : Store} (i k : Nat) (h : FC P f args st res st') (hi : args[i]? = some (.t (.lst k [])) := by kernel_rfl) (hk : Nat.blt 0 k = true := by kernel_rfl) : FC P f (args.set i VN) st res st' := by
  intro F m w us hS hl hv
  refine h F m w us hS (by simpa using hl) (fun j v u hj hu => ?_)
  by_cases e : i = j
  · subst e
    rw [hi] at hj
    cases hj
    have hlt := (List.getElem?_eq_some_iff.1 hi).1
    have := hv i VN u (by simp [hlt]) hu
    exact nil_lst (Nat.lt_of_succ_le (Nat.le_of_ble_eq_true hk)) _ _ _ _ _ this
  · exact hv j v u (by rw [List.getElem?_set_ne e]; exact hj) hu
/-- A callee that makes nothing; what its arguments ask ahead. -/
def Xc0 {p : Prop} {f : FuncId} {args : List AVal} {res : AVal} (h : FC P f args emp res emp) (x : Px p) (hc : callable P f = true := by kernel_rfl) : Px p :=
  ⟨⟨none, none, none, some ⟨0, [], res, []⟩, []⟩, (callable P f = true) :: (x.cs ++ [FC P f args emp res emp]), fun hp => ⟨hc, All_app.2 ⟨x.h hp, h, trivial⟩⟩⟩
/-- Behind a guard that the callee's contract leans on. -/
def Xc0g {p : Prop} {e : Bool} {f : FuncId} {args : List AVal} {res : AVal} (h : e = true → FC P f args emp res emp) (x : Px p) (hc : callable P f = true := by kernel_rfl) : Px (e = true ∧ p) :=
  ⟨⟨none, none, none, some ⟨0, [], res, []⟩, []⟩, (callable P f = true) :: (x.cs ++ [FC P f args emp res emp]), fun hp => ⟨hc, All_app.2 ⟨x.h hp.2, h hp.1, trivial⟩⟩⟩
def freshT : Nat → List (Nat × Ob) → List (Nat × Nat) → List (Nat × Nat)
  | _, [], _ => []
  | nid, (i, _) :: l, τ => match lk τ i with
    | some _ => freshT nid l τ
    | none => (i, nid) :: freshT (nid + 1) l τ
def orL {α : Type} (o : Option (List α)) : List α := o.getD []
def orV (o : Option AVal) : AVal := o.getD .junk
def ck1 (τ : List (Nat × Nat)) (res : AVal) (l1 : List (Nat × Ob)) : Bool := nodupB (τ.map (·.1)) && nodupB (τ.map (·.2)) && (renStore τ (app emp l1) τ).isSome && (renV τ res).isSome
theorem renL_nil_inv {args : List AVal} (h : renL [] args = some args) : renL (inv []) args = some args := h
theorem FC.fresh {f : FuncId} {args : List AVal} {res : AVal} {l1 : List (Nat × Ob)} (τ : List (Nat × Nat)) (h : FC P f args emp res (app emp l1)) (ha : renL [] args = some args) (hk : ck1 τ res l1 = true) :
    FC P f args emp (orV (renV τ res)) (app emp (orL (renStore τ (app emp l1) τ))) := by
  simp only [ck1, Bool.and_eq_true] at hk
  obtain ⟨⟨⟨k1, k2⟩, k3⟩, k4⟩ := hk
  obtain ⟨l', e3⟩ := Option.isSome_iff_exists.1 k3
  obtain ⟨r', e4⟩ := Option.isSome_iff_exists.1 k4
  refine FC.ren (l0 := []) (l0' := []) h [] τ (by simp [nodupB, k1, k2]) rfl (renL_nil_inv ha) rfl ?_ ?_
  · rw [e3]; rfl
  · rw [e4]; rfl
/-- A callee that makes objects of its own. -/
def Xc1 {p : Prop} {f : FuncId} {args : List AVal} {res : AVal} {l1 : List (Nat × Ob)} (nid : Nat) (h : FC P f args emp res (app emp l1)) (x : Px p) (ha : renL [] args = some args := by kernel_rfl)
    (hk : ck1 (freshT nid l1 []) res l1 = true := by kernel_rfl) (hc : callable P f = true := by kernel_rfl) : Px p :=
  ⟨⟨none, none, none, some ⟨1, [], orV (renV (freshT nid l1 []) res), orL (renStore (freshT nid l1 []) (app emp l1) (freshT nid l1 []))⟩, []⟩,
    (callable P f = true) :: (x.cs ++ [FC P f args emp (orV (renV (freshT nid l1 []) res)) (app emp (orL (renStore (freshT nid l1 []) (app emp l1) (freshT nid l1 []))))]),
    fun hp => ⟨hc, All_app.2 ⟨x.h hp, FC.fresh _ h ha hk, trivial⟩⟩⟩
def sndL : List (Nat × Nat) → List Nat
  | [] => []
  | (_, j) :: l => j :: sndL l
def ck3 (τ0 τ : List (Nat × Nat)) (args : List AVal) (l0 : List (Nat × Ob)) (res : AVal) (l1 : List (Nat × Ob)) : Bool :=
  (nodupB (τ0.map (·.1)) && nodupB (τ0.map (·.2)) && nodupB (τ.map (·.1)) && nodupB (τ.map (·.2)) && τ0.all (fun p => match lk τ p.1 with | some j => Nat.beq j p.2 | none => false)) &&
    (orL (renStore τ0 (app emp l0) τ0)).all (fun x => hasId (τ0.map (·.2)) x.1) && (renStore τ (app emp l1) τ).isSome && (renV τ res).isSome &&
    (orL (renStore τ0 (app emp l0) τ0)).all (fun x => hasId ((orL (renStore τ (app emp l1) τ)).map (·.1)) x.1)
theorem app_over {a b : List (Nat × Ob)} (h : ∀ x ∈ a, x.1 ∈ b.map (·.1)) : app (app emp a) b = app emp b := by
  funext i
  by_cases hi : i ∈ b.map (·.1)
  · exact app_at (.inl hi)
  · rw [app_not hi, app_not hi]
    refine app_not (fun hm => ?_)
    obtain ⟨x, hx, rfl⟩ := List.mem_map.1 hm
    exact hi (h x hx)
theorem FC.obj {f : FuncId} {args : List AVal} {res : AVal} {l0 l1 : List (Nat × Ob)} (τ0 τ : List (Nat × Nat)) (h : FC P f args (app emp l0) res (app emp l1)) (hk : ck3 τ0 τ args l0 res l1 = true)
    (h0 : renStore (inv τ0) (app emp (orL (renStore τ0 (app emp l0) τ0))) (inv τ0) = some l0) (ha : renL (inv τ0) (orL (renL τ0 args)) = some args) :
    FC P f (orL (renL τ0 args)) (app emp (orL (renStore τ0 (app emp l0) τ0))) (orV (renV τ res)) (app (app emp (orL (renStore τ0 (app emp l0) τ0))) (orL (renStore τ (app emp l1) τ))) := by
  simp only [ck3, Bool.and_eq_true] at hk
  obtain ⟨⟨⟨⟨k1, k2⟩, k3⟩, k4⟩, k5⟩ := hk
  obtain ⟨l', e3⟩ := Option.isSome_iff_exists.1 k3
  obtain ⟨r', e4⟩ := Option.isSome_iff_exists.1 k4
  rw [app_over (fun x hx => hasId_iff.1 (List.all_eq_true.1 k5 x hx))]
  refine FC.ren h τ0 τ (by simp only [Bool.and_eq_true]; exact k1) h0 ha k2 ?_ ?_
  · rw [e3]; rfl
  · rw [e4]; rfl
/-- A callee that is handed objects. -/
def Xc3 {p : Prop} {f : FuncId} {args : List AVal} {res : AVal} {l0 l1 : List (Nat × Ob)} (nid : Nat) (τ0 : List (Nat × Nat)) (h : FC P f args (app emp l0) res (app emp l1)) (x : Px p)
    (hk : ck3 τ0 (τ0 ++ freshT nid l1 τ0) args l0 res l1 = true := by kernel_rfl)
    (h0 : renStore (inv τ0) (app emp (orL (renStore τ0 (app emp l0) τ0))) (inv τ0) = some l0 := by kernel_rfl) (ha : renL (inv τ0) (orL (renL τ0 args)) = some args := by kernel_rfl) (hc : callable P f = true := by kernel_rfl) : Px p :=
  ⟨⟨none, none, none, some ⟨3, sndL τ0, orV (renV (τ0 ++ freshT nid l1 τ0) res), orL (renStore (τ0 ++ freshT nid l1 τ0) (app emp l1) (τ0 ++ freshT nid l1 τ0))⟩, []⟩,
    [callable P f = true, FC P f (orL (renL τ0 args)) (app emp (orL (renStore τ0 (app emp l0) τ0))) (orV (renV (τ0 ++ freshT nid l1 τ0) res)) (app (app emp (orL (renStore τ0 (app emp l0) τ0))) (orL (renStore (τ0 ++ freshT nid l1 τ0) (app emp l1) (τ0 ++ freshT nid l1 τ0))))],
    fun hp => ⟨hc, FC.obj _ _ h hk h0 ha, trivial⟩⟩
/-- One that only reads them. -/
theorem FC.objr {f : FuncId} {args : List AVal} {res : AVal} {l0 : List (Nat × Ob)} (τ0 : List (Nat × Nat)) (h : FC P f args (app emp l0) res (app emp l0)) (hk : ck3 τ0 τ0 args l0 res l0 = true)
    (h0 : renStore (inv τ0) (app emp (orL (renStore τ0 (app emp l0) τ0))) (inv τ0) = some l0) (ha : renL (inv τ0) (orL (renL τ0 args)) = some args) :
    FC P f (orL (renL τ0 args)) (app emp (orL (renStore τ0 (app emp l0) τ0))) (orV (renV τ0 res)) (app (app emp (orL (renStore τ0 (app emp l0) τ0))) []) := by
  have := FC.obj τ0 τ0 h hk h0 ha
  simp only [ck3, Bool.and_eq_true] at hk
  rw [app_over (fun x hx => hasId_iff.1 (List.all_eq_true.1 hk.2 x hx))] at this
  exact this
def Xc4 {p : Prop} {f : FuncId} {args : List AVal} {res : AVal} {l0 : List (Nat × Ob)} (τ0 : List (Nat × Nat)) (h : FC P f args (app emp l0) res (app emp l0)) (x : Px p)
    (hk : ck3 τ0 τ0 args l0 res l0 = true := by kernel_rfl)
    (h0 : renStore (inv τ0) (app emp (orL (renStore τ0 (app emp l0) τ0))) (inv τ0) = some l0 := by kernel_rfl) (ha : renL (inv τ0) (orL (renL τ0 args)) = some args := by kernel_rfl) (hc : callable P f = true := by kernel_rfl) : Px p :=
  ⟨⟨none, none, none, some ⟨3, sndL τ0, orV (renV τ0 res), []⟩, []⟩,
    [callable P f = true, FC P f (orL (renL τ0 args)) (app emp (orL (renStore τ0 (app emp l0) τ0))) (orV (renV τ0 res)) (app (app emp (orL (renStore τ0 (app emp l0) τ0))) [])],
    fun hp => ⟨hc, FC.objr _ h hk h0 ha, trivial⟩⟩
/-- Numbers of other widths. -/
theorem wrap_u8 {z : Int} (h : 0 ≤ z ∧ z ≤ 255) : IntKind.u8.wrap z = z := by unfold IntKind.wrap; simp [IntKind.bits, IntKind.signed]; omega
theorem wrap_u32 {z : Int} (h : 0 ≤ z ∧ z ≤ 4294967295) : IntKind.u32.wrap z = z := by unfold IntKind.wrap; simp [IntKind.bits, IntKind.signed]; omega
theorem wrap_i32 {z : Int} (h : 0 ≤ z ∧ z ≤ 2147483647) : IntKind.i32.wrap z = z := by unfold IntKind.wrap; simp [IntKind.bits, IntKind.signed]; omega
def Xcv (k : IntKind) (z : Int) : Px (k.wrap z = z) := ⟨oV (.t (.sc (.int k z))), [Weak (.t (.sc (.int k (k.wrap z)))) (.t (.sc (.int k z)))], fun h => ⟨Weak.of_eq (by rw [h]), trivial⟩⟩
/-- Bytes as a string. -/
def byteT (z : Int) : Tree := .sc (.int .u8 z)
def intsB (s : ByteArray) : List Int := s.data.toList.map fun b => (b.toNat : Int)
def Xstr (n : Nat) (l : List Int) (s : ByteArray) : Px (n = l.length ∧ l = intsB s) :=
  ⟨oE (.sc (.string s)), [n = (l.map byteT).length, l.map byteT = bytesT s], fun h => ⟨by rw [List.length_map]; exact h.1, by rw [h.2]; unfold intsB bytesT; rw [List.map_map]; rfl, trivial⟩⟩
/-- Bits and shifts, as arithmetic. -/
def Xbit (k : IntKind) (y z : Int) : Px (y = z) := ⟨oV (.t (.sc (.int k z))), [Weak (.t (.sc (.int k y))) (.t (.sc (.int k z)))], fun h => ⟨Weak.of_eq (by rw [h]), trivial⟩⟩
def Xsh (k : IntKind) (b y z : Int) : Px (0 ≤ b ∧ y = z) := ⟨oV (.t (.sc (.int k z))), [0 ≤ b, Weak (.t (.sc (.int k y))) (.t (.sc (.int k z)))], fun h => ⟨h.1, Weak.of_eq (by rw [h.2]), trivial⟩⟩
end Go.Ab
end
section
set_option linter.unusedVariables false
set_option linter.unusedSimpArgs false
namespace Go.Ch
open Go Go.Ab

structure Attr where
  name : ByteArray
  val : ByteArray
abbrev mt : ByteArray := { data := #[] }
instance : Inhabited Attr := ⟨⟨mt, mt⟩⟩
def attrT (a : Attr) : Tree := .agg [.sc (.string a.name), .sc (.string a.val)]

/-! ### The order of strings -/
theorem byt_ext {a b : ByteArray} (h : a.toList = b.toList) : a = b := by
  rw [ByteArray.toList_eq, ByteArray.toList_eq] at h
  obtain ⟨⟨x⟩⟩ := a
  obtain ⟨⟨y⟩⟩ := b
  simpa using h
theorem seq_iff {a b : ByteArray} : seq a b = true ↔ a = b := by
  unfold seq
  rw [beq_iff_eq]
  exact ⟨byt_ext, fun h => by rw [h]⟩
theorem seq_no {a b : ByteArray} : seq a b = false ↔ a ≠ b := by
  rw [← Bool.not_eq_true, seq_iff]
/-! ### Lists in order -/
/-- All names are greater than n. -/
def Above (n : ByteArray) (l : List Attr) : Prop := ∀ a ∈ l, slt n a.name = true
def Sorted : List Attr → Prop
  | [] => True
  | a :: l => Above a.name l ∧ Sorted l
def look : List Attr → ByteArray → Option ByteArray
  | [], _ => none
  | a :: l, n => if a.name = n then some a.val else look l n
theorem look_mem {l : List Attr} {n v : ByteArray} (h : look l n = some v) : (⟨n, v⟩ : Attr) ∈ l := by
  induction l with
  | nil => cases h
  | cons a l ih =>
    rw [look] at h
    split at h
    · rename_i hn
      cases h
      subst hn
      exact List.mem_cons_self
    · exact List.mem_cons_of_mem _ (ih h)
/-! ### Two lists at once -/
def bothL : List Attr → List Attr → List (Attr × Attr)
  | [], [] => []
  | [], y :: b => (default, y) :: bothL [] b
  | x :: a, [] => (x, default) :: bothL a []
  | x :: a, y :: b =>
    if slt x.name y.name = true then (x, default) :: bothL a (y :: b)
    else if slt y.name x.name = true then (default, y) :: bothL (x :: a) b
    else (x, y) :: bothL a b
termination_by a b => a.length + b.length
def Named (l : List Attr) : Prop := ∀ a ∈ l, a.name ≠ mt
/-- What a visitor may make of a pair: nothing, or an attribute of that name. -/
def Fair (g : Attr → Attr → Option Attr) : Prop := ∀ x y z, g x y = some z → z.name = if y.name = mt then x.name else y.name
def fm (g : Attr → Attr → Option Attr) (a b : List Attr) : List Attr := (bothL a b).filterMap fun p => g p.1 p.2
/-- What the visitor makes of what both lists have under a name. -/
def at2 (g : Attr → Attr → Option Attr) (n : ByteArray) : Option ByteArray → Option ByteArray → Option ByteArray
  | none, none => none
  | some v, none => (g ⟨n, v⟩ default).map (·.val)
  | none, some w => (g default ⟨n, w⟩).map (·.val)
  | some v, some w => (g ⟨n, v⟩ ⟨n, w⟩).map (·.val)

/-! ### The four visitors -/
def rawG (x y : Attr) : Option Attr := if y.name = mt then some x else if y.val = mt then none else some y
def chgG (x y : Attr) : Option Attr := if y.name = mt then some ⟨x.name, mt⟩ else if x.name = y.name ∧ x.val = y.val then none else some y
def botG (x y : Attr) : Option Attr := some (if y.name = mt then x else y)
def wioG (x y : Attr) : Option Attr := if y.name = mt then some x else none
section
variable (NP VP : ByteArray → Prop)
/-- A value that may stand under a name: in a list (e = false) or in a change (e = true). -/
def Q (e : Bool) (n v : ByteArray) : Prop := NP n ∧ (VP v ∨ (e = true ∧ v = mt))
def V (e : Bool) (l : List Attr) : Prop := Sorted l ∧ ∀ a ∈ l, Q NP VP e a.name a.val
end
section
variable {NP VP : ByteArray → Prop} (hN : ¬ NP mt) (hV : ¬ VP mt)
include hN
theorem V.named {e : Bool} {l : List Attr} (h : V NP VP e l) : Named l := fun a ha e' => hN (by have := (h.2 a ha).1; rwa [e'] at this)
omit hN in
theorem V.look {e : Bool} {l : List Attr} (h : V NP VP e l) {n v : ByteArray} (hl : look l n = some v) : Q NP VP e n v := h.2 ⟨n, v⟩ (look_mem hl)
include hV
end

end Go.Ch
end
section
set_option linter.unusedVariables false
set_option linter.unusedSimpArgs false
set_option maxRecDepth 100000
set_option maxHeartbeats 4000000
open Go Go.Proofs Go.Ab
namespace Go.Ch
theorem seq_mt {s : ByteArray} : seq s { data := #[] } = decide (s.size = 0) := by
  by_cases h : s.size = 0
  · rw [decide_eq_true h, seq_iff]
    obtain ⟨⟨l⟩⟩ := s
    cases l with
    | nil => rfl
    | cons a l => simp [ByteArray.size] at h
  · rw [decide_eq_false h, seq_no]
    intro e; subst e; exact h rfl
theorem str_pos {s : ByteArray} (h : seq s { data := #[] } = false) : (0 : Int) < (s.size : Int) := by
  rw [seq_mt, decide_eq_false_iff_not] at h; omega
def byt (s : ByteArray) (i : Nat) : Nat := ((s[i]?).getD 0).toNat
def badC (b : Nat) : Prop := (b < 97 ∨ 122 < b) ∧ (b < 48 ∨ 57 < b) ∧ b ≠ 46 ∧ b ≠ 45
instance (b : Nat) : Decidable (badC b) := by unfold badC; infer_instance
def nmS (s : ByteArray) (i : Nat) : Bool := if i < s.size then (if badC (byt s i) then false else nmS s (i + 1)) else true
termination_by s.size - i
def nameGo (s : ByteArray) : Bool := decide (1 ≤ s.size ∧ s.size ≤ 24 ∧ 97 ≤ byt s 0 ∧ byt s 0 ≤ 122) && nmS s 0
def vlS (s : ByteArray) (i : Nat) : Bool := if i < s.size then (if byt s i < 32 ∨ 126 < byt s i then false else vlS s (i + 1)) else true
termination_by s.size - i
def valGo (s : ByteArray) : Bool := decide (1 ≤ s.size ∧ s.size ≤ 200) && vlS s 0
def nmR (s : ByteArray) (i : Nat) : Bool := if i < s.size then (if (byt s i < 97 ∨ 122 < byt s i) ∧ (i = 0 ∨ (byt s i ≠ 46 ∧ byt s i ≠ 45 ∧ (byt s i < 48 ∨ 57 < byt s i))) then false else nmR s (i + 1)) else true
termination_by s.size - i
def nameRf (s : ByteArray) : Bool := nmR s 0 && decide (1 ≤ s.size ∧ s.size ≤ 24)
def valRf (s : ByteArray) : Bool := vlS s 0 && decide (1 ≤ s.size ∧ s.size ≤ 200)
theorem byt0 (s : ByteArray) (i : Nat) : ((s[i]?).getD 0).toNat = byt s i := rfl

theorem fc_name (s : ByteArray) : FC Tryd.prog 33 [VS s] (app emp []) (VB (nameGo s)) (app emp []) := by
 refine .go Tryd.f33 ?_
 refine .br [.r [], .r [(4, Xv 1 (!(seq s ({ data := #[] }))) X0), (5, Xv 1 (!(seq s ({ data := #[] }))) X0), (6, X (Xk' (seq s ({ data := #[] })))), (9, Xv 1 (!(seq s ({ data := #[] }) || decide ((s.size : Int) > 24))) (Xb s 0) (fun hg => by (try simp only [decide_eq_true_eq, decide_eq_false_iff_not, Int.not_lt, Int.not_le, gt_iff_lt, Bool.not_eq_true', Bool.not_eq_false', Bool.or_eq_true, Bool.or_eq_false_iff] at hg); exact ⟨(by first | omega | (simp; omega) | (simp; done) | assumption), (str_pos (by first | exact hg | exact hg.1 | exact hg.1.1))⟩)), (10, Xv 1 (!(seq s ({ data := #[] }) || decide ((s.size : Int) > 24))) X0), (11, X (Xk' (seq s ({ data := #[] }) || decide ((s.size : Int) > 24)))), (14, Xv 1 (!((seq s ({ data := #[] }) || decide ((s.size : Int) > 24)) || decide (((((s[0]?).getD 0).toNat : Nat) : Int) < 97))) (Xb s 0) (fun hg => by (try simp only [decide_eq_true_eq, decide_eq_false_iff_not, Int.not_lt, Int.not_le, gt_iff_lt, Bool.not_eq_true', Bool.not_eq_false', Bool.or_eq_true, Bool.or_eq_false_iff] at hg); exact ⟨(by first | omega | (simp; omega) | (simp; done) | assumption), (str_pos (by first | exact hg | exact hg.1 | exact hg.1.1))⟩)), (15, Xv 1 (!((seq s ({ data := #[] }) || decide ((s.size : Int) > 24)) || decide (((((s[0]?).getD 0).toNat : Nat) : Int) < 97))) X0), (16, X (Xk' ((seq s ({ data := #[] }) || decide ((s.size : Int) > 24)) || decide (((((s[0]?).getD 0).toNat : Nat) : Int) < 97))))]] (((seq s ({ data := #[] }) || decide ((s.size : Int) > 24)) || decide (((((s[0]?).getD 0).toNat : Nat) : Int) < 97)) || decide (((((s[0]?).getD 0).toNat : Nat) : Int) > 122)) (fun h1 => ?_) (fun h1 => ?_)
 ·
  (try simp only [decide_eq_true_eq, decide_eq_false_iff_not, Int.not_lt, Int.not_le, gt_iff_lt, Bool.or_eq_true, Bool.or_eq_false_iff] at h1)
  have e1 : ((nameGo s) : Bool) = false := by
   simp only [byt0, seq_mt, decide_eq_true_eq] at h1; unfold nameGo; rw [decide_eq_false (by omega)]; rfl
  exact .finE [.r []] [] (fun z0 => (VB z0, [])) (false : Bool) ((nameGo s) : Bool) e1
 ·
  (try simp only [decide_eq_true_eq, decide_eq_false_iff_not, Int.not_lt, Int.not_le, gt_iff_lt, Bool.or_eq_true, Bool.or_eq_false_iff] at h1)
  refine .loop (α := Nat) [.r []] 168 (fun i => ([(0, VS s), (23, VI (s.size : Int)), (24, VI (i : Int))], [])) (fun i => i ≤ s.size ∧ nmS s 0 = nmS s i) (fun i => s.size - i) (0 : Nat) ?_ ?_
  ·
   exact ⟨by omega, rfl⟩
  rintro i I4 ih4
  try dsimp only at I4
  refine .br [.r []] (decide ((i : Int) < (s.size : Int))) (fun h4 => ?_) (fun h4 => ?_)
  ·
   (try simp only [decide_eq_true_eq, decide_eq_false_iff_not, Int.not_lt, Int.not_le] at h4)
   refine .br [.r [], .r [(2, X (Xb s (i : Int)))], .r [(4, Xv 1 (!(decide (((((s[i]?).getD 0).toNat : Nat) : Int) < 97))) X0), (5, X (Xk' (decide (((((s[i]?).getD 0).toNat : Nat) : Int) < 97)))), (8, Xv 1 (decide (((((s[i]?).getD 0).toNat : Nat) : Int) < 97) || decide (((((s[i]?).getD 0).toNat : Nat) : Int) > 122)) X0), (9, Xv 1 (decide (((((s[i]?).getD 0).toNat : Nat) : Int) < 97) || decide (((((s[i]?).getD 0).toNat : Nat) : Int) > 122)) X0), (11, Xv 1 ((decide (((((s[i]?).getD 0).toNat : Nat) : Int) < 97) || decide (((((s[i]?).getD 0).toNat : Nat) : Int) > 122)) && !(decide (((((s[i]?).getD 0).toNat : Nat) : Int) < 48))) X0), (12, Xko (decide (((((s[i]?).getD 0).toNat : Nat) : Int) < 97) || decide (((((s[i]?).getD 0).toNat : Nat) : Int) > 122)) (decide (((((s[i]?).getD 0).toNat : Nat) : Int) < 48))), (13, X (Xk (decide (((((s[i]?).getD 0).toNat : Nat) : Int) < 97) || decide (((((s[i]?).getD 0).toNat : Nat) : Int) > 122)))), (16, Xv 1 ((decide (((((s[i]?).getD 0).toNat : Nat) : Int) < 97) || decide (((((s[i]?).getD 0).toNat : Nat) : Int) > 122)) && (decide (((((s[i]?).getD 0).toNat : Nat) : Int) < 48) || decide (((((s[i]?).getD 0).toNat : Nat) : Int) > 57))) X0), (17, X (Xk ((decide (((((s[i]?).getD 0).toNat : Nat) : Int) < 97) || decide (((((s[i]?).getD 0).toNat : Nat) : Int) > 122)) && (decide (((((s[i]?).getD 0).toNat : Nat) : Int) < 48) || decide (((((s[i]?).getD 0).toNat : Nat) : Int) > 57))))), (20, Xv 1 (((decide (((((s[i]?).getD 0).toNat : Nat) : Int) < 97) || decide (((((s[i]?).getD 0).toNat : Nat) : Int) > 122)) && (decide (((((s[i]?).getD 0).toNat : Nat) : Int) < 48) || decide (((((s[i]?).getD 0).toNat : Nat) : Int) > 57))) && (((((s[i]?).getD 0).toNat : Nat) : Int) != 46)) X0), (21, X (Xk (((decide (((((s[i]?).getD 0).toNat : Nat) : Int) < 97) || decide (((((s[i]?).getD 0).toNat : Nat) : Int) > 122)) && (decide (((((s[i]?).getD 0).toNat : Nat) : Int) < 48) || decide (((((s[i]?).getD 0).toNat : Nat) : Int) > 57))) && (((((s[i]?).getD 0).toNat : Nat) : Int) != 46))))]] ((((decide (((((s[i]?).getD 0).toNat : Nat) : Int) < 97) || decide (((((s[i]?).getD 0).toNat : Nat) : Int) > 122)) && (decide (((((s[i]?).getD 0).toNat : Nat) : Int) < 48) || decide (((((s[i]?).getD 0).toNat : Nat) : Int) > 57))) && (((((s[i]?).getD 0).toNat : Nat) : Int) != 46)) && (((((s[i]?).getD 0).toNat : Nat) : Int) != 45)) (fun h7 => ?_) (fun h7 => ?_)
   ·
    (try simp only [decide_eq_true_eq, decide_eq_false_iff_not, Int.not_lt, Int.not_le, gt_iff_lt, Bool.and_eq_true, Bool.and_eq_false_iff, Bool.not_eq_true', Bool.not_eq_false', Bool.or_eq_true, Bool.or_eq_false_iff, bne_iff_ne, bne_eq_false_iff_eq, ne_eq] at h7)
    have e2 : ((nameGo s) : Bool) = false := by
     simp only [byt0] at h7; unfold nameGo; rw [I4.2, nmS, if_pos (by omega), if_pos (by unfold badC; omega)]; simp
    exact .finE [.r []] [] (fun z0 => (VB z0, [])) (false : Bool) ((nameGo s) : Bool) e2
   ·
    (try simp only [decide_eq_true_eq, decide_eq_false_iff_not, Int.not_lt, Int.not_le, gt_iff_lt, Bool.and_eq_true, Bool.and_eq_false_iff, Bool.not_eq_true', Bool.not_eq_false', Bool.or_eq_true, Bool.or_eq_false_iff, bne_iff_ne, bne_eq_false_iff_eq, ne_eq] at h7)
    refine .back [.r [(0, X (Xn ((i : Int) + 1)))]] [] (ih4 ((i + 1) : Nat) ?_ ?_)
    ·
     simp only [byt0] at h7; refine ⟨by omega, ?_⟩; rw [I4.2, nmS, if_pos (by omega), if_neg (by unfold badC; omega)]
    ·
     ((try dsimp only); omega)
  ·
   (try simp only [decide_eq_true_eq, decide_eq_false_iff_not, Int.not_lt, Int.not_le] at h4)
   have e3 : ((nameGo s) : Bool) = true := by
    simp only [byt0, seq_mt, decide_eq_false_iff_not] at h1; unfold nameGo; rw [I4.2, nmS, if_neg (by omega), decide_eq_true (by omega)]; rfl
   exact .finE [.r []] [] (fun z0 => (VB z0, [])) (true : Bool) ((nameGo s) : Bool) e3

theorem fc_value (s : ByteArray) : FC Tryd.prog 34 [VS s] (app emp []) (VB (valGo s)) (app emp []) := by
 refine .go Tryd.f34 ?_
 refine .br [.r [], .r [(4, Xv 1 (!(seq s ({ data := #[] }))) X0), (5, Xv 1 (!(seq s ({ data := #[] }))) X0), (6, X (Xk' (seq s ({ data := #[] }))))]] (seq s ({ data := #[] }) || decide ((s.size : Int) > 200)) (fun h1 => ?_) (fun h1 => ?_)
 ·
  (try simp only [decide_eq_true_eq, decide_eq_false_iff_not, Int.not_lt, Int.not_le, gt_iff_lt, Bool.or_eq_true, Bool.or_eq_false_iff] at h1)
  have e1 : ((valGo s) : Bool) = false := by
   simp only [seq_mt, decide_eq_true_eq] at h1; unfold valGo; rw [decide_eq_false (by omega)]; rfl
  exact .finE [.r []] [] (fun z0 => (VB z0, [])) (false : Bool) ((valGo s) : Bool) e1
 ·
  (try simp only [decide_eq_true_eq, decide_eq_false_iff_not, Int.not_lt, Int.not_le, gt_iff_lt, Bool.or_eq_true, Bool.or_eq_false_iff] at h1)
  refine .loop (α := Nat) [.r []] 88 (fun i => ([(0, VS s), (12, VI (s.size : Int)), (13, VI (i : Int))], [])) (fun i => i ≤ s.size ∧ vlS s 0 = vlS s i) (fun i => s.size - i) (0 : Nat) ?_ ?_
  ·
   exact ⟨by omega, rfl⟩
  rintro i I4 ih4
  try dsimp only at I4
  refine .br [.r []] (decide ((i : Int) < (s.size : Int))) (fun h4 => ?_) (fun h4 => ?_)
  ·
   (try simp only [decide_eq_true_eq, decide_eq_false_iff_not, Int.not_lt, Int.not_le] at h4)
   refine .br [.r [], .r [(2, X (Xb s (i : Int))), (7, Xv 2 (!(decide (((((s[i]?).getD 0).toNat : Nat) : Int) < 32))) (Xb s (i : Int))), (8, Xv 1 (!(decide (((((s[i]?).getD 0).toNat : Nat) : Int) < 32))) X0), (9, X (Xk' (decide (((((s[i]?).getD 0).toNat : Nat) : Int) < 32))))]] (decide (((((s[i]?).getD 0).toNat : Nat) : Int) < 32) || decide (((((s[i]?).getD 0).toNat : Nat) : Int) > 126)) (fun h6 => ?_) (fun h6 => ?_)
   ·
    (try simp only [decide_eq_true_eq, decide_eq_false_iff_not, Int.not_lt, Int.not_le, gt_iff_lt, Bool.or_eq_true, Bool.or_eq_false_iff] at h6)
    have e2 : ((valGo s) : Bool) = false := by
     simp only [byt0] at h6; unfold valGo; rw [I4.2, vlS, if_pos (by omega), if_pos (by omega)]; simp
    exact .finE [.r []] [] (fun z0 => (VB z0, [])) (false : Bool) ((valGo s) : Bool) e2
   ·
    (try simp only [decide_eq_true_eq, decide_eq_false_iff_not, Int.not_lt, Int.not_le, gt_iff_lt, Bool.or_eq_true, Bool.or_eq_false_iff] at h6)
    refine .back [.r [(0, X (Xn ((i : Int) + 1)))]] [] (ih4 ((i + 1) : Nat) ?_ ?_)
    ·
     simp only [byt0] at h6; refine ⟨by omega, ?_⟩; rw [I4.2, vlS, if_pos (by omega), if_neg (by omega)]
    ·
     ((try dsimp only); omega)
  ·
   (try simp only [decide_eq_true_eq, decide_eq_false_iff_not, Int.not_lt, Int.not_le] at h4)
   have e3 : ((valGo s) : Bool) = true := by
    simp only [seq_mt, decide_eq_false_iff_not] at h1; unfold valGo; rw [I4.2, vlS, if_neg (by omega), decide_eq_true (by omega)]; rfl
   exact .finE [.r []] [] (fun z0 => (VB z0, [])) (true : Bool) ((valGo s) : Bool) e3

def chkA (e : Bool) (l : List Attr) (i : Nat) : Int :=
  if i < l.length then
    if nameGo (l.getD i default).name = false then 9
    else if valGo (l.getD i default).val = false ∧ (e = false ∨ seq (l.getD i default).val { data := #[] } = false) then 23
    else if 0 < i ∧ (slt (l.getD i default).name (l.getD (i - 1) default).name = true ∨ seq (l.getD i default).name (l.getD (i - 1) default).name = true) then 5
    else chkA e l (i + 1)
  else 0
termination_by l.length - i
def Szd (l : List Attr) : Prop := ∀ a ∈ l, a.name.size ≤ 9223372036854775807 ∧ a.val.size ≤ 9223372036854775807
theorem Szd.at {l : List Attr} (h : Szd l) {i : Nat} (hi : i < l.length) : (l.getD i default).name.size ≤ 9223372036854775807 ∧ (l.getD i default).val.size ≤ 9223372036854775807 := by
  rw [show l.getD i default = l[i] by simp [List.getD, List.getElem?_eq_getElem hi]]
  exact h _ (List.getElem_mem hi)

theorem fc_chk (l : List Attr) (e : Bool) : FC Tryd.prog 27 [VL 2 attrT l, VB e] (app emp []) (VI (chkA e l 0)) (app emp []) := by
 refine .go Tryd.f27 ?_
 refine .len 0 (fun hl0 => ?_)
 refine .loop (α := Nat) [.r [], .r [(1, X (Xl attrT l))]] 32 (fun i => ([(0, VL 2 attrT l), (1, VB e), (7, VL 2 attrT l), (8, VI (l.length : Int)), (9, VI (i : Int))], [])) (fun i => i ≤ l.length ∧ chkA e l 0 = chkA e l i) (fun i => l.length - i) (0 : Nat) ?_ ?_
 ·
  exact ⟨by omega, rfl⟩
 rintro i I2 ih2
 try dsimp only at I2
 refine .br [.r []] (decide ((i : Int) < (l.length : Int))) (fun h2 => ?_) (fun h2 => ?_)
 ·
  (try simp only [decide_eq_true_eq, decide_eq_false_iff_not, Int.not_lt, Int.not_le] at h2)
  refine .br [.r [(1, X (Xi attrT l (i : Int)))], .r [(2, X (Xc0 (fc_name (((l.getD i default)).name)) X0))]] (!(nameGo (((l.getD i default)).name))) (fun h4 => ?_) (fun h4 => ?_)
  ·
   (try simp only [Bool.not_eq_true', Bool.not_eq_false'] at h4)
   have e1 : ((chkA e l 0) : Int) = 9 := by
    rw [I2.2, chkA, if_pos (by omega), if_pos h4]
   exact .finE [.r []] [] (fun z0 => (VI z0, [])) (9 : Int) ((chkA e l 0) : Int) e1
  ·
   (try simp only [Bool.not_eq_true', Bool.not_eq_false'] at h4)
   refine .br [.r [(2, X (Xc0 (fc_value (((l.getD i default)).val)) X0)), (6, Xv 1 (!(valGo (((l.getD i default)).val))) X0), (8, Xv 1 ((!(valGo (((l.getD i default)).val))) && e) X0), (9, Xv 1 ((!(valGo (((l.getD i default)).val))) && e) X0), (10, Xka (!(valGo (((l.getD i default)).val))) e), (11, Xv 1 (!(valGo (((l.getD i default)).val))) X0), (12, X (Xk (!(valGo (((l.getD i default)).val)))))]] (!(valGo (((l.getD i default)).val)) && !(e && seq (((l.getD i default)).val) ({ data := #[] }))) (fun h6 => ?_) (fun h6 => ?_)
   ·
    (try simp only [Bool.not_eq_true', Bool.not_eq_false', Bool.and_eq_true, Bool.and_eq_false_iff] at h6)
    have e2 : ((chkA e l 0) : Int) = 23 := by
     rw [I2.2, chkA, if_pos (by omega), if_neg (by rw [h4]; decide), if_pos h6]
    exact .finE [.r []] [] (fun z0 => (VI z0, [])) (23 : Int) ((chkA e l 0) : Int) e2
   ·
    (try simp only [Bool.not_eq_true', Bool.not_eq_false', Bool.and_eq_true, Bool.and_eq_false_iff] at h6)
    refine .br [.r [(4, Xv 1 (decide ((i : Int) > 0)) X0), (7, Xv 1 (decide ((i : Int) > 0)) (Xn ((i : Int) - 1))), (8, Xv 2 (decide ((i : Int) > 0)) (Xi' attrT l ((i : Int) - 1) (i - 1))), (9, Xv 1 (decide ((i : Int) > 0)) X0), (10, Xv 1 (decide ((i : Int) > 0)) X0), (11, Xv 2 (decide ((i : Int) > 0)) X0), (12, X (Xk (decide ((i : Int) > 0))))]] (decide ((i : Int) > 0) && (slt (((l.getD i default)).name) (((l.getD (i - 1) default)).name) || seq (((l.getD i default)).name) (((l.getD (i - 1) default)).name))) (fun h8 => ?_) (fun h8 => ?_)
    ·
     (try simp only [decide_eq_true_eq, decide_eq_false_iff_not, Int.not_lt, Int.not_le, gt_iff_lt, Bool.and_eq_true, Bool.and_eq_false_iff, Bool.not_eq_true', Bool.not_eq_false', Bool.or_eq_true, Bool.or_eq_false_iff] at h8)
     have e3 : ((chkA e l 0) : Int) = 5 := by
      rw [I2.2, chkA, if_pos (by omega), if_neg (by rw [h4]; decide), if_neg (by clear ih2; rintro ⟨a, b⟩; simp_all), if_pos ⟨by omega, h8.2⟩]
     exact .finE [.r []] [] (fun z0 => (VI z0, [])) (5 : Int) ((chkA e l 0) : Int) e3
    ·
     (try simp only [decide_eq_true_eq, decide_eq_false_iff_not, Int.not_lt, Int.not_le, gt_iff_lt, Bool.and_eq_true, Bool.and_eq_false_iff, Bool.not_eq_true', Bool.not_eq_false', Bool.or_eq_true, Bool.or_eq_false_iff] at h8)
     refine .back [.r [(0, X (Xn ((i : Int) + 1)))]] [] (ih2 ((i + 1) : Nat) ?_ ?_)
     ·
      refine ⟨by omega, ?_⟩; rw [I2.2, chkA, if_pos (by omega), if_neg (by rw [h4]; decide), if_neg (by clear ih2; rintro ⟨a, b⟩; simp_all), if_neg (by clear ih2; rintro ⟨a, b⟩; rcases h8 with h | ⟨h, h2⟩; omega; rcases b with b | b <;> simp_all)]
     ·
      ((try dsimp only); omega)
 ·
  (try simp only [decide_eq_true_eq, decide_eq_false_iff_not, Int.not_lt, Int.not_le] at h2)
  have e4 : ((chkA e l 0) : Int) = 0 := by
   rw [I2.2, chkA, if_neg (by omega)]
  exact .finE [.r []] [] (fun z0 => (VI z0, [])) (0 : Int) ((chkA e l 0) : Int) e4

theorem fc_acheck (l : List Attr) : FC Tryd.prog 18 [VL 2 attrT l] (app emp []) (VI (chkA false l 0)) (app emp []) := by
 refine .go Tryd.f18 ?_
 refine .len 0 (fun hl0 => ?_)
 exact .fin [.r [], .r [(1, X (Xc0 (fc_chk l false) X0))]] []

def errA (e : Bool) (l : List Attr) (i : Nat) : Int :=
  if i < l.length then
    if nameRf (l.getD i default).name = false then 9
    else if valRf (l.getD i default).val = false ∧ (e = false ∨ seq (l.getD i default).val { data := #[] } = false) then 23
    else if 0 < i ∧ slt (l.getD (i - 1) default).name (l.getD i default).name = false then 5
    else errA e l (i + 1)
  else 0
termination_by l.length - i
def sameA (a b : List Attr) (i : Nat) : Bool :=
  if i < a.length then (if (a.getD i default).name = (b.getD i default).name ∧ (a.getD i default).val = (b.getD i default).val then sameA a b (i + 1) else false) else true
termination_by a.length - i
def sameL (a b : List Attr) : Bool := decide (a.length = b.length) && sameA a b 0
def getA (l : List Attr) (n : ByteArray) (i : Nat) : ByteArray :=
  if i < l.length then (if (l.getD i default).name = n then (l.getD i default).val else getA l n (i + 1)) else mt
termination_by l.length - i
end Go.Ch
end
section
set_option linter.unusedVariables false
set_option linter.unusedSimpArgs false
set_option maxRecDepth 100000
set_option maxHeartbeats 4000000
open Go Go.Proofs Go.Ab
namespace Go.Ch
end Go.Ch
end
section
set_option linter.unusedVariables false
set_option linter.unusedSimpArgs false
set_option maxRecDepth 100000
set_option maxHeartbeats 4000000
open Go Go.Proofs Go.Ab
namespace Go.Ch
def applyL (l c : List Attr) : List Attr := if chkA false l 0 = 0 ∧ chkA true c 0 = 0 then fm rawG l c else []
def applyE (l c : List Attr) : Int := if chkA false l 0 = 0 then chkA true c 0 else chkA false l 0
def undoL (l c : List Attr) : List Attr := if applyE l c = 0 then fm chgG (applyL l c) l else []
def betL (a b : List Attr) : List Attr := if chkA false a 0 = 0 ∧ chkA false b 0 = 0 then fm chgG a b else []
def betE (a b : List Attr) : Int := if chkA false a 0 = 0 then chkA false b 0 else chkA false a 0
def joinL (a b : List Attr) : List Attr := if chkA true a 0 = 0 ∧ chkA true b 0 = 0 then fm botG a b else []
def joinE (a b : List Attr) : Int := if chkA true a 0 = 0 then chkA true b 0 else chkA true a 0
def pairL (a b : List Attr) : List Attr := if chkA true a 0 = 0 ∧ chkA true b 0 = 0 then fm wioG a b else []
def pairR (a b : List Attr) : List Attr := if chkA true a 0 = 0 ∧ chkA true b 0 = 0 then b else []
end Go.Ch
end
section
set_option linter.unusedVariables false
set_option linter.unusedSimpArgs false
namespace Go.Ch
open Go Go.Ab

def NPg (s : ByteArray) : Prop := nameGo s = true
def VPg (s : ByteArray) : Prop := valGo s = true
abbrev VG := V NPg VPg
end Go.Ch
end
section
set_option linter.unusedVariables false
set_option linter.unusedSimpArgs false
namespace Go.Ch
open Go Go.Ab

structure Elem where
  char : Int
  ref : Int
  attrs : List Attr
instance : Inhabited Elem := ⟨⟨0, 0, []⟩⟩
def elemT (e : Elem) : Tree := .agg [.sc (.int .i64 e.char), .sc (.int .i64 e.ref), .lst 2 (e.attrs.map attrT)]
def CharP (c : Int) : Prop := c = 9 ∨ c = 10 ∨ (32 ≤ c ∧ c < 127) ∨ (160 ≤ c ∧ c < 55296) ∨ (57343 < c ∧ c ≤ 1114111)
instance (c : Int) : Decidable (CharP c) := by unfold CharP; infer_instance
def elemE (x : Elem) : Int :=
  if x.char = 0 ↔ x.ref = 0 then 4
  else if (x.ref = 0 ∧ ¬ CharP x.char) ∨ (x.ref ≠ 0 ∧ (x.ref < 1 ∨ 1073741824 < x.ref)) then 2
  else chkA false x.attrs 0
theorem elemE_4 {x : Elem} (h : x.char = 0 ↔ x.ref = 0) : elemE x = 4 := by unfold elemE; rw [if_pos h]
theorem elemE_2 {x : Elem} (h : ¬ (x.char = 0 ↔ x.ref = 0)) (h2 : (x.ref = 0 ∧ ¬ CharP x.char) ∨ (x.ref ≠ 0 ∧ (x.ref < 1 ∨ 1073741824 < x.ref))) : elemE x = 2 := by unfold elemE; rw [if_neg h, if_pos h2]
theorem elemE_c {x : Elem} (h : ¬ (x.char = 0 ↔ x.ref = 0)) (h3 : ¬ x.ref = 0 ∨ CharP x.char) (h4 : x.ref = 0 ∨ (1 ≤ x.ref ∧ x.ref ≤ 1073741824)) : elemE x = chkA false x.attrs 0 := by
  unfold elemE
  rw [if_neg h, if_neg]
  rintro (⟨a, b⟩ | ⟨a, b⟩)
  · rcases h3 with h3 | h3
    · exact h3 a
    · exact b h3
  · rcases h4 with h4 | h4
    · exact a h4
    · omega
def partE (l : List Elem) (i : Nat) : Int := if i < l.length then (if elemE (l.getD i default) = 0 then partE l (i + 1) else elemE (l.getD i default)) else 0
termination_by l.length - i
def SzE (l : List Elem) : Prop := ∀ x ∈ l, Szd x.attrs
theorem getDE_mem {l : List Elem} {k : Nat} (h : k < l.length) : l.getD k default ∈ l := by
  rw [show l.getD k default = l[k] by simp [List.getD, List.getElem?_eq_getElem h]]
  exact List.getElem_mem h
def sameE (x y : Elem) : Bool := (x.char == y.char && x.ref == y.ref) && sameL x.attrs y.attrs
def sameFi (a b : List Elem) (i : Nat) : Bool := if i < a.length then (if sameE (a.getD i default) (b.getD i default) = true then sameFi a b (i + 1) else false) else true
termination_by a.length - i
def sameF (a b : List Elem) : Bool := decide (a.length = b.length) && sameFi a b 0
theorem partE_all (l : List Elem) : ∀ (n i : Nat), l.length - i = n → (partE l i = 0 ↔ ∀ k, i ≤ k → k < l.length → elemE (l.getD k default) = 0)
  | 0, i, h => by rw [partE, if_neg (by omega)]; exact ⟨fun _ k h1 h2 => by omega, fun _ => rfl⟩
  | n + 1, i, h => by
    have hi : i < l.length := by omega
    have ih := partE_all l n (i + 1) (by omega)
    rw [partE, if_pos hi]
    by_cases e : elemE (l.getD i default) = 0
    · rw [if_pos e, ih]
      constructor
      · intro h k h1 h2
        by_cases ek : k = i
        · subst ek; exact e
        · exact h k (by omega) h2
      · exact fun h k h1 h2 => h k (by omega) h2
    · rw [if_neg e]
      exact ⟨fun h => absurd h e, fun h => h i (Nat.le_refl _) hi⟩
end Go.Ch
end
section
namespace Go.Ab
open Go Go.Proofs Go.RowKit Go.Shelf
open Go.Ch
set_option linter.unusedVariables false
set_option linter.unusedSimpArgs false
attribute [local go_sem] Oper.semAt_some

/-- What has come of the paragraphs when k elements are over, and where the next one begins. -/
def parTo (f : List Elem) : Nat → List (Nat × Nat) × Nat
  | 0 => ([], 0)
  | k + 1 => if (f.getD k default).char = 10 ∧ (f.getD k default).ref = 0 then ((parTo f k).1 ++ [((parTo f k).2, k + 1)], k + 1) else parTo f k
theorem parTo_len (f : List Elem) : ∀ k, (parTo f k).1.length ≤ k
  | 0 => Nat.le_refl _
  | k + 1 => by
    have := parTo_len f k
    simp only [parTo]
    split
    · simp; omega
    · omega
theorem parTo_hit {f : List Elem} {k : Nat} (h : (f.getD k default).char = 10) (h' : (f.getD k default).ref = 0) : parTo f (k + 1) = ((parTo f k).1 ++ [((parTo f k).2, k + 1)], k + 1) := by
  simp only [parTo]; rw [if_pos ⟨h, h'⟩]
theorem parTo_miss {f : List Elem} {k : Nat} (h : ¬ ((f.getD k default).char = 10 ∧ (f.getD k default).ref = 0)) : parTo f (k + 1) = parTo f k := by
  simp only [parTo]; rw [if_neg h]
theorem parTo_prefix (f : List Elem) {k n : Nat} (h : k ≤ n) : (parTo f k).1 <+: (parTo f n).1 := by
  induction n with
  | zero => obtain rfl : k = 0 := by omega
            exact List.prefix_refl _
  | succ n ih =>
    by_cases e : k = n + 1
    · subst e; exact List.prefix_refl _
    · refine (ih (by omega)).trans ?_
      simp only [parTo]
      split
      · exact List.prefix_append _ _
      · exact List.prefix_refl _

set_option maxRecDepth 100000 in
set_option maxHeartbeats 4000000 in
theorem par1_in (F : Fence) (n : Nat) (h26 : F.fn 26) (hro : F.round = none) (hn : 1 ≤ n) (l Bs n₀ b off cap : Nat) (f : List Elem) (hreach : f.length * 24 ≤ 140737488351232) (hb : b < n₀) (J Jx : List (Nat × Nat) → World → Prop)
    (hJ : ∀ k, ∀ W o, J k W → J k (World.alloc W o)) 
    (hY : ∀ pre x W, J pre W → pre.length < f.length → YieldAt F (n - 1) Tryd.prog l #[.int .i64 (x.1 : Int), .int .i64 (x.2 : Int)] W fun e W' =>
      (e = .returned (.bool true) ∧ J (pre ++ [x]) W' ∧ Below n₀ W W') ∨ (e = .returned (.bool false) ∧ Jx (pre ++ [x]) W'))
    (W : World) (hn0 : n₀ ≤ W.heap.size) (hBs : W.cell? ⟨Bs, 0, none⟩ = some (.slice (some ⟨b, off, none⟩) f.length cap))
    (hc : ∀ j, j < f.length → W.cell? ⟨b, off + j * 3, none⟩ = some (.int .i64 (f.getD j default).char))
    (hr : ∀ j, j < f.length → W.cell? ⟨b, off + j * 3 + 1, none⟩ = some (.int .i64 (f.getD j default).ref))
    (ha : ∀ j, j < f.length → ∃ A n c, W.cell? ⟨b, off + j * 3 + 2, none⟩ = some (.slice A n c)) (h0 : J [] W) :
    CallsIn F n Tryd.prog 26 #[.func (.yield l) #[] #[], .pointer (some ⟨Bs, 0, none⟩)] W fun e W' => (∃ v, e = .returned v) ∧
      ((∃ ys, ys = (parTo f f.length).1 ∧ J ys W') ∨ (∃ pre, pre <+: (parTo f f.length).1 ∧ Jx pre W')) := by
  refine callsIn_of_wp Tryd.func26 rfl h26 ?_ hro
  simp only [Tryd.ntmps26, List.size_toArray, List.length_cons, List.length_nil, Nat.reduceAdd, Nat.reduceSub, Array.replicate_succ, Array.replicate_zero, List.push_toArray, List.append_toArray, List.nil_append, List.cons_append]
  gi_wp2
  gi_loopw [3, 8] (fun a i wr => ∃ k : Nat, k ≤ f.length ∧ i = .int .i64 k ∧ a = .int .i64 ((parTo f k).2 : Int) ∧ J (parTo f k).1 wr ∧ Below n₀ W wr)
    (fun _ i _ => f.length - (intOf i).toNat)
  case atStart => exact ⟨0, Nat.zero_le _, rfl, rfl, h0, Below.refl _ _⟩
  case round =>
    obtain ⟨k, hk, rfl, rfl, hJs, hnx⟩ := hrel
    by_cases hlt : k < f.length
    · have c0 := (hnx.cell (p := ⟨b, off + k * 3, none⟩) hb).trans (hc k hlt)
      have c1 := (hnx.cell (p := ⟨b, off + k * 3 + 1, none⟩) hb).trans (hr k hlt)
      obtain ⟨A, m, c, c2'⟩ := ha k hlt
      have c2 := (hnx.cell (p := ⟨b, off + k * 3 + 2, none⟩) hb).trans c2'
      have hJa : ∀ x y z, J (parTo f k).1 (wr.alloc (.cells #[x, y, z] 31)) := fun x y z => hJ _ _ _ hJs
      have hBa : ∀ x y z, Below n₀ wr (wr.alloc (.cells #[x, y, z] 31)) := fun x y z => (Below.refl n₀ wr).alloc (Nat.le_trans hn0 hnx.size) _
      generalize hce : (f.getD k default).char = ce at *
      generalize hre : (f.getD k default).ref = re at *
      by_cases hhit : ce = 10 ∧ re = 0
      · obtain ⟨rfl, rfl⟩ := hhit
        have hp := parTo_hit hce hre
        obtain ⟨fn, tmps, assign, body, hy, hR⟩ := hY _ ((parTo f k).2, k + 1) _ (hJa (.int .i64 10) (.int .i64 0) (.slice A m c)) (Nat.lt_of_le_of_lt (parTo_len f k) hlt)
        dsimp only at hy
        rw [show ((k + 1 : Nat) : Int) = (k : Int) + 1 from rfl] at hy
        gi_wp2
        refine hR.mono ?_
        rintro e W3 (⟨rfl, hJ3, hk3⟩ | ⟨rfl, hJx3⟩)
        · gi_wp2
          go_roundw
          case rel => exact ⟨k + 1, by omega, by simp, by rw [hp]; simp, by rw [hp]; exact hJ3, hnx.trans ((hBa _ _ _).trans hk3)⟩
          case measure => simp [intOf]; omega
        · gi_wp2
          refine bodyPost_ret (results_none rfl _ _ _) rfl ?_
          exact ⟨⟨_, rfl⟩, .inr ⟨_, by have := parTo_prefix f (show k + 1 ≤ f.length by omega); rw [hp] at this; exact this, hJx3⟩⟩
      · have hp := parTo_miss (f := f) (k := k) (by rw [hce, hre]; exact hhit)
        gi_wp2
        all_goals refine ⟨⟨k + 1, by omega, by simp, by rw [hp], by rw [hp]; exact hJa _ _ _, hnx.trans (hBa _ _ _)⟩, by simp [intOf]; omega⟩
    · obtain rfl : k = f.length := by omega
      gi_wp2
      go_end0
      exact ⟨⟨_, rfl⟩, .inl ⟨_, rfl, hJs⟩⟩
end Go.Ab
end
section
set_option linter.unusedVariables false
set_option linter.unusedSimpArgs false
set_option maxRecDepth 100000
set_option maxHeartbeats 4000000
open Go Go.Proofs Go.Ab
namespace Go.Ch
theorem fc_char (c : Int) : FC Tryd.prog 20 [VI c] (app emp []) (VB (decide (CharP c))) (app emp []) := by
 refine .go Tryd.f20 ?_
 have e1 : ((decide (CharP c)) : Bool) = (((((c == 9) || (c == 10)) || (decide (c ≥ 32) && decide (c < 127))) || (decide (c ≥ 160) && decide (c < 55296))) || (decide (c > 57343) && decide (c ≤ 1114111))) := by
  rw [Bool.eq_iff_iff, decide_eq_true_iff]; unfold CharP; simp only [Bool.or_eq_true, Bool.and_eq_true, decide_eq_true_eq, beq_iff_eq]; constructor <;> intro hh <;> omega
 exact .finE [.r [], .r [(4, Xv 1 (!(c == 9)) X0), (5, X (Xk' (c == 9))), (8, Xv 1 (!((c == 9) || (c == 10))) X0), (9, Xv 1 (!((c == 9) || (c == 10))) X0), (11, Xv 1 ((!((c == 9) || (c == 10))) && (decide (c ≥ 32))) X0), (12, Xka (!((c == 9) || (c == 10))) (decide (c ≥ 32))), (13, X (Xk' ((c == 9) || (c == 10)))), (16, Xv 1 (!(((c == 9) || (c == 10)) || (decide (c ≥ 32) && decide (c < 127)))) X0), (17, Xv 1 (!(((c == 9) || (c == 10)) || (decide (c ≥ 32) && decide (c < 127)))) X0), (19, Xv 1 ((!(((c == 9) || (c == 10)) || (decide (c ≥ 32) && decide (c < 127)))) && (decide (c ≥ 160))) X0), (20, Xka (!(((c == 9) || (c == 10)) || (decide (c ≥ 32) && decide (c < 127)))) (decide (c ≥ 160))), (21, X (Xk' (((c == 9) || (c == 10)) || (decide (c ≥ 32) && decide (c < 127))))), (24, Xv 1 (!((((c == 9) || (c == 10)) || (decide (c ≥ 32) && decide (c < 127))) || (decide (c ≥ 160) && decide (c < 55296)))) X0), (25, Xv 1 (!((((c == 9) || (c == 10)) || (decide (c ≥ 32) && decide (c < 127))) || (decide (c ≥ 160) && decide (c < 55296)))) X0), (27, Xv 1 ((!((((c == 9) || (c == 10)) || (decide (c ≥ 32) && decide (c < 127))) || (decide (c ≥ 160) && decide (c < 55296)))) && (decide (c > 57343))) X0), (28, Xka (!((((c == 9) || (c == 10)) || (decide (c ≥ 32) && decide (c < 127))) || (decide (c ≥ 160) && decide (c < 55296)))) (decide (c > 57343))), (29, X (Xk' ((((c == 9) || (c == 10)) || (decide (c ≥ 32) && decide (c < 127))) || (decide (c ≥ 160) && decide (c < 55296)))))]] [] (fun z0 => (VB z0, [])) ((((((c == 9) || (c == 10)) || (decide (c ≥ 32) && decide (c < 127))) || (decide (c ≥ 160) && decide (c < 55296))) || (decide (c > 57343) && decide (c ≤ 1114111))) : Bool) ((decide (CharP c)) : Bool) e1

theorem nz_iff {a b : Int} : ((a != 0) = (b != 0)) ↔ (a = 0 ↔ b = 0) := by
  rw [Bool.eq_iff_iff]; simp; omega

theorem fc_elem (x : Elem) : FC Tryd.prog 22 [.t (elemT x)] (app emp []) (VI (elemE x)) (app emp []) := by
 refine .go Tryd.f22 ?_
 refine .br [.r [], .r []] ((x.char != 0) == (x.ref != 0)) (fun h1 => ?_) (fun h1 => ?_)
 ·
  (try simp only [beq_iff_eq, beq_eq_false_iff_ne, ne_eq, bne_iff_ne, bne_eq_false_iff_eq] at h1)
  have e1 : ((elemE x) : Int) = 4 := by
   first | exact elemE_4 (nz_iff.1 h1) | exact elemE_2 (fun h => h1 (nz_iff.2 h)) (.inl h3) | exact elemE_2 (fun h => h1 (nz_iff.2 h)) (.inr h4) | exact elemE_c (fun h => h1 (nz_iff.2 h)) h3 h4 | (exfalso; simp_all; done)
  exact .finE [.r []] [] (fun z0 => (VI z0, [])) (4 : Int) ((elemE x) : Int) e1
 ·
  (try simp only [beq_iff_eq, beq_eq_false_iff_ne, ne_eq, bne_iff_ne, bne_eq_false_iff_eq] at h1)
  refine .br [.r [(5, Xv 1 (x.ref == 0) X0), (6, Xv 1 (x.ref == 0) (Xc0 (fc_char x.char) X0)), (7, Xv 1 (x.ref == 0) X0), (8, X (Xk (x.ref == 0)))]] ((x.ref == 0) && !(decide (CharP x.char))) (fun h3 => ?_) (fun h3 => ?_)
  ·
   (try simp only [decide_eq_true_eq, decide_eq_false_iff_not, Int.not_lt, Int.not_le, Bool.not_eq_true', Bool.not_eq_false', Bool.and_eq_true, Bool.and_eq_false_iff, beq_iff_eq, beq_eq_false_iff_ne, ne_eq] at h3)
   refine .br [] ((x.ref == 0) && !(decide (CharP x.char))) (fun h3 => ?_) (fun h3 => ?_)
   ·
    (try simp only [decide_eq_true_eq, decide_eq_false_iff_not, Int.not_lt, Int.not_le, Bool.not_eq_true', Bool.not_eq_false', Bool.and_eq_true, Bool.and_eq_false_iff, beq_iff_eq, beq_eq_false_iff_ne, ne_eq] at h3)
    have e2 : ((elemE x) : Int) = 2 := by
     first | exact elemE_4 (nz_iff.1 h1) | exact elemE_2 (fun h => h1 (nz_iff.2 h)) (.inl h3) | exact elemE_2 (fun h => h1 (nz_iff.2 h)) (.inr h4) | exact elemE_c (fun h => h1 (nz_iff.2 h)) h3 h4 | (exfalso; simp_all; done)
    exact .finE [.r []] [] (fun z0 => (VI z0, [])) (2 : Int) ((elemE x) : Int) e2
   ·
    (try simp only [decide_eq_true_eq, decide_eq_false_iff_not, Int.not_lt, Int.not_le, Bool.not_eq_true', Bool.not_eq_false', Bool.and_eq_true, Bool.and_eq_false_iff, beq_iff_eq, beq_eq_false_iff_ne, ne_eq] at h3)
    have e3 : ((elemE x) : Int) = (chkA false x.attrs 0) := by
     first | exact elemE_4 (nz_iff.1 h1) | exact elemE_2 (fun h => h1 (nz_iff.2 h)) (.inl h3) | exact elemE_2 (fun h => h1 (nz_iff.2 h)) (.inr h4) | exact elemE_c (fun h => h1 (nz_iff.2 h)) h3 h4 | (exfalso; simp_all; done)
    exact .finE [.r [(2, X (Xc0 (fc_acheck x.attrs) X0))]] [] (fun z0 => (VI z0, [])) ((chkA false x.attrs 0) : Int) ((elemE x) : Int) e3
  ·
   (try simp only [decide_eq_true_eq, decide_eq_false_iff_not, Int.not_lt, Int.not_le, Bool.not_eq_true', Bool.not_eq_false', Bool.and_eq_true, Bool.and_eq_false_iff, beq_iff_eq, beq_eq_false_iff_ne, ne_eq] at h3)
   refine .br [.r [(5, Xv 1 (x.ref != 0) X0), (6, Xv 1 (x.ref != 0) X0), (7, Xv 1 (x.ref != 0) X0), (9, Xv 1 ((x.ref != 0) && !(decide (x.ref < 1))) X0), (10, Xv 1 ((x.ref != 0) && !(decide (x.ref < 1))) X0), (11, Xko (x.ref != 0) (decide (x.ref < 1))), (12, X (Xk (x.ref != 0)))]] ((x.ref != 0) && (decide (x.ref < 1) || decide (x.ref > 1073741824))) (fun h4 => ?_) (fun h4 => ?_)
   ·
    (try simp only [decide_eq_true_eq, decide_eq_false_iff_not, Int.not_lt, Int.not_le, gt_iff_lt, Bool.and_eq_true, Bool.and_eq_false_iff, Bool.not_eq_true', Bool.not_eq_false', Bool.or_eq_true, Bool.or_eq_false_iff, bne_iff_ne, bne_eq_false_iff_eq, ne_eq] at h4)
    have e4 : ((elemE x) : Int) = 2 := by
     first | exact elemE_4 (nz_iff.1 h1) | exact elemE_2 (fun h => h1 (nz_iff.2 h)) (.inl h3) | exact elemE_2 (fun h => h1 (nz_iff.2 h)) (.inr h4) | exact elemE_c (fun h => h1 (nz_iff.2 h)) h3 h4 | (exfalso; simp_all; done)
    exact .finE [.r []] [] (fun z0 => (VI z0, [])) (2 : Int) ((elemE x) : Int) e4
   ·
    (try simp only [decide_eq_true_eq, decide_eq_false_iff_not, Int.not_lt, Int.not_le, gt_iff_lt, Bool.and_eq_true, Bool.and_eq_false_iff, Bool.not_eq_true', Bool.not_eq_false', Bool.or_eq_true, Bool.or_eq_false_iff, bne_iff_ne, bne_eq_false_iff_eq, ne_eq] at h4)
    have e5 : ((elemE x) : Int) = (chkA false x.attrs 0) := by
     first | exact elemE_4 (nz_iff.1 h1) | exact elemE_2 (fun h => h1 (nz_iff.2 h)) (.inl h3) | exact elemE_2 (fun h => h1 (nz_iff.2 h)) (.inr h4) | exact elemE_c (fun h => h1 (nz_iff.2 h)) h3 h4 | (exfalso; simp_all; done)
    exact .finE [.r [(2, X (Xc0 (fc_acheck x.attrs) X0))]] [] (fun z0 => (VI z0, [])) ((chkA false x.attrs 0) : Int) ((elemE x) : Int) e5

theorem fc_checkPart (l : List Elem) : FC Tryd.prog 10 [VL 3 elemT l] (app emp []) (VI (partE l 0)) (app emp []) := by
 refine .go Tryd.f10 ?_
 refine .len 0 (fun hl0 => ?_)
 refine .loop (α := Nat) [.r [], .r [(1, X (Xl elemT l))]] 32 (fun i => ([(6, VL 3 elemT l), (7, VI (l.length : Int)), (8, VI (i : Int))], [])) (fun i => i ≤ l.length ∧ partE l 0 = partE l i) (fun i => l.length - i) (0 : Nat) ?_ ?_
 ·
  exact ⟨by omega, rfl⟩
 rintro i I2 ih2
 try dsimp only at I2
 refine .br [.r []] (decide ((i : Int) < (l.length : Int))) (fun h2 => ?_) (fun h2 => ?_)
 ·
  (try simp only [decide_eq_true_eq, decide_eq_false_iff_not, Int.not_lt, Int.not_le] at h2)
  refine .br [.r [(0, X (Xi elemT l (i : Int)))], .r [(1, X (Xc0 (fc_elem ((l.getD i default))) X0))], .r []] ((elemE ((l.getD i default))) != 0) (fun h5 => ?_) (fun h5 => ?_)
  ·
   (try simp only [bne_iff_ne, bne_eq_false_iff_eq, ne_eq] at h5)
   have e1 : ((partE l 0) : Int) = (elemE ((l.getD i default))) := by
    rw [I2.2, partE]; ((repeat' split) <;> first | rfl | omega | (simp_all; done) | (simp_all; omega))
   exact .finE [.r []] [] (fun z0 => (VI z0, [])) ((elemE ((l.getD i default))) : Int) ((partE l 0) : Int) e1
  ·
   (try simp only [bne_iff_ne, bne_eq_false_iff_eq, ne_eq] at h5)
   refine .back [.r [(0, X (Xn ((i : Int) + 1)))]] [] (ih2 ((i + 1) : Nat) ?_ ?_)
   ·
    refine ⟨by omega, ?_⟩; rw [I2.2, partE, if_pos (by omega), if_pos (by omega)]
   ·
    ((try dsimp only); omega)
 ·
  (try simp only [decide_eq_true_eq, decide_eq_false_iff_not, Int.not_lt, Int.not_le] at h2)
  have e2 : ((partE l 0) : Int) = 0 := by
   rw [I2.2, partE]; ((repeat' split) <;> first | rfl | omega | (simp_all; done) | (simp_all; omega))
  exact .finE [.r []] [] (fun z0 => (VI z0, [])) (0 : Int) ((partE l 0) : Int) e2

end Go.Ch
end
section
set_option linter.unusedVariables false
set_option linter.unusedSimpArgs false
namespace Go.Ch
open Go Go.Ab

structure DStep where
  kind : Int
  n : Int
  attrs : List Attr
  elems : List Elem
instance : Inhabited DStep := ⟨⟨0, 0, [], []⟩⟩
def dstepT (s : DStep) : Tree := .agg [.sc (.int .i64 s.kind), .sc (.int .i64 s.n), .lst 2 (s.attrs.map attrT), .lst 3 (s.elems.map elemT)]
def AN (n : Nat) (l : List Elem) : Prop := ∀ x ∈ l, x.attrs.length ≤ n
def stepD (s : DStep) : Int :=
  if s.kind = 1 then (if s.n ≠ 0 ∨ 0 < s.attrs.length then 4 else if s.elems.length = 0 then 11 else partE s.elems 0)
  else if s.kind = 0 ∨ s.kind = 2 then
    (if 0 < s.elems.length ∨ (s.kind = 2 ∧ 0 < s.attrs.length) then 4 else if s.n < 1 ∨ 2147483647 < s.n then 2 else chkA true s.attrs 0)
  else 8
def szD (s : DStep) : Int := if s.kind = 1 then (s.elems.length : Int) else s.n
def DOk (s : DStep) : Prop :=
  (s.kind = 1 ∧ s.n = 0 ∧ s.attrs = [] ∧ s.elems ≠ [] ∧ ∀ x ∈ s.elems, elemE x = 0) ∨
  ((s.kind = 0 ∨ s.kind = 2) ∧ s.elems = [] ∧ (s.kind = 2 → s.attrs = []) ∧ 1 ≤ s.n ∧ s.n ≤ 2147483647 ∧ VG true s.attrs)
theorem len0 {α : Type} {l : List α} : ¬ 0 < l.length ↔ l = [] := by
  rw [Nat.not_lt, Nat.le_zero, List.length_eq_zero_iff]
/-- Neighbours that a delta must not have. -/
def adjD (w x : DStep) : Bool := ((w.kind == x.kind) && ((x.kind != 0) || sameL w.attrs x.attrs)) || ((w.kind == 2) && (x.kind == 1))
/-- Bounds on the lists inside. -/
def DN (n : Nat) (l : List DStep) : Prop := ∀ s ∈ l, s.elems.length ≤ n ∧ s.attrs.length ≤ n ∧ AN n s.elems
theorem DN.at_ {n : Nat} {l : List DStep} (h : DN n l) {k : Nat} (hk : k < l.length) : (l.getD k default).elems.length ≤ n ∧ (l.getD k default).attrs.length ≤ n ∧ AN n (l.getD k default).elems := by
  refine h _ ?_
  rw [show l.getD k default = l[k] by simp [List.getD, List.getElem?_eq_getElem hk]]
  exact List.getElem_mem hk
def chkD (l : List DStep) (i : Nat) (b a : Int) : Int :=
  if i < l.length then
    if stepD (l.getD i default) ≠ 0 then stepD (l.getD i default)
    else if 0 < i ∧ adjD (l.getD (i - 1) default) (l.getD i default) = true then 5
    else chkD l (i + 1) (if (l.getD i default).kind ≠ 1 then min (b + (l.getD i default).n) 2147483648 else b) (if (l.getD i default).kind ≠ 2 then min (a + szD (l.getD i default)) 2147483648 else a)
  else if 2147483647 < b ∨ 2147483647 < a then 3 else 0
termination_by l.length - i
def checkD (l : List DStep) : Int := chkD l 0 0 0
def oS (s : DStep) : Int := if s.kind = 1 then 0 else s.n
def nS (s : DStep) : Int := if s.kind = 2 then 0 else szD s
def oldD : List DStep → Int
  | [] => 0
  | s :: l => oS s + oldD l
def newD : List DStep → Int
  | [] => 0
  | s :: l => nS s + newD l
def DForm : List DStep → Prop
  | [] => True
  | [s] => DOk s
  | s :: t :: l => DOk s ∧ adjD s t = false ∧ DForm (t :: l)
def DFormAt (l : List DStep) (i : Nat) : Prop := ∀ k, i ≤ k → k < l.length → DOk (l.getD k default) ∧ (0 < k → adjD (l.getD (k - 1) default) (l.getD k default) = false)
theorem atD_drop {l : List DStep} {i : Nat} (h : DFormAt l i) : ∀ s ∈ l.drop i, DOk s := by
  intro s hs
  obtain ⟨k, hk, e⟩ := List.mem_iff_getElem.1 hs
  rw [List.length_drop] at hk
  have := (h (i + k) (by omega) (by omega)).1
  rw [List.getElem_drop] at e
  rw [← e]
  simpa [List.getD, List.getElem?_eq_getElem (show i + k < l.length by omega)] using this
theorem at_of_dform : ∀ {l : List DStep}, DForm l → DFormAt l 0
  | [], _ => fun k h1 h2 => by simp at h2
  | [s], h => fun k h1 h2 => by
    have : k = 0 := by simp at h2; omega
    subst this
    exact ⟨h, fun h0 => by omega⟩
  | s :: t :: l, h => fun k h1 h2 => by
    obtain ⟨a, b, c⟩ := h
    rcases k with _ | k
    · exact ⟨a, fun h0 => by omega⟩
    · have := at_of_dform c k (Nat.zero_le _) (by simp at h2 ⊢; omega)
      rw [List.getD_cons_succ]
      refine ⟨this.1, fun _ => ?_⟩
      rcases k with _ | k
      · exact b
      · rw [Nat.add_sub_cancel, List.getD_cons_succ]
        have e := this.2 (by omega)
        rw [Nat.add_sub_cancel] at e
        exact e
def DValid (l : List DStep) : Prop := DForm l ∧ oldD l ≤ 2147483647 ∧ newD l ≤ 2147483647
theorem DForm.all {l : List DStep} (h : DForm l) : ∀ s ∈ l, DOk s := by
  have := atD_drop (at_of_dform h)
  simpa using this

/-! ### The reference's check -/
def adjR (w x : DStep) : Prop := if x.kind = 1 then w.kind ≠ 0 else if x.kind = 2 then w.kind = 2 else w.kind = 0 ∧ sameL w.attrs x.attrs = true
instance (w x : DStep) : Decidable (adjR w x) := by unfold adjR; infer_instance
def chkR (l : List DStep) (i : Nat) (b a : Int) : Int :=
  if i < l.length then
    if stepD (l.getD i default) ≠ 0 then stepD (l.getD i default)
    else if 0 < i ∧ adjR (l.getD (i - 1) default) (l.getD i default) then 5
    else chkR l (i + 1) (if (l.getD i default).kind ≠ 1 ∧ b < 2147483648 then b + (l.getD i default).n else b) (if (l.getD i default).kind ≠ 2 ∧ a < 2147483648 then a + ((l.getD i default).n + (l.getD i default).elems.length) else a)
  else if 2147483647 < b ∨ 2147483647 < a then 3 else 0
termination_by l.length - i
def refD (l : List DStep) : Int := chkR l 0 0 0
def sumNs : List DStep → Int
  | [] => 0
  | s :: l => s.n + sumNs l
/-- Sizes of the strings inside. -/
def sameDS (x y : DStep) : Bool := ((x.kind == y.kind) && (x.n == y.n)) && (sameL x.attrs y.attrs && sameF x.elems y.elems)

/-! ### Units -/
inductive DU where
  | K (c : List Attr)
  | A (e : Elem)
  | C
def exS (s : DStep) : List DU := if s.kind = 1 then s.elems.map .A else if s.kind = 2 then List.replicate s.n.toNat .C else List.replicate s.n.toNat (.K s.attrs)
def exD : List DStep → List DU
  | [] => []
  | s :: l => exS s ++ exD l
/-- An element changed by an attribute change. -/
def chgE (c : List Attr) (x : Elem) : Elem := ⟨x.char, x.ref, fm rawG x.attrs c⟩
def applyU : List DU → List Elem → List Elem
  | [], _ => []
  | .A e :: u, l => e :: applyU u l
  | .K c :: u, x :: l => chgE c x :: applyU u l
  | .C :: u, _ :: l => applyU u l
  | .K _ :: u, [] => applyU u []
  | .C :: u, [] => applyU u []
def undoU : List DU → List Elem → List DU
  | [], _ => []
  | .A _ :: u, l => .C :: undoU u l
  | .K c :: u, x :: l => .K (fm chgG (fm rawG x.attrs c) x.attrs) :: undoU u l
  | .C :: u, x :: l => .A x :: undoU u l
  | .K _ :: u, [] => undoU u []
  | .C :: u, [] => undoU u []
def oldN : List DU → Nat
  | [] => 0
  | .A _ :: u => oldN u
  | _ :: u => oldN u + 1
def newN : List DU → Nat
  | [] => 0
  | .C :: u => newN u
  | _ :: u => newN u + 1
def UOk : List DU → Prop
  | [] => True
  | .K c :: u => VG true c ∧ UOk u
  | _ :: u => UOk u
inductive DSw : List DU → List DU → Prop
  | refl (u : List DU) : DSw u u
  | cons (x : DU) {u v : List DU} (h : DSw u v) : DSw (x :: u) (x :: v)
  | swap (e : Elem) (u : List DU) : DSw (.A e :: .C :: u) (.C :: .A e :: u)
  | symm {u v : List DU} (h : DSw u v) : DSw v u
  | trans {u v w : List DU} (h : DSw u v) (k : DSw v w) : DSw u w
theorem DSw.left (w : List DU) {u v : List DU} (h : DSw u v) : DSw (w ++ u) (w ++ v) := by
  induction w with
  | nil => exact h
  | cons x w ih => exact .cons x ih
theorem DSw.right (w : List DU) {u v : List DU} (h : DSw u v) : DSw (u ++ w) (v ++ w) := by
  induction h with
  | refl u => exact .refl _
  | cons x _ ih => exact .cons x ih
  | swap e u => exact .swap e _
  | symm _ ih => exact .symm ih
  | trans _ _ a b => exact .trans a b
def rawD (l : List Elem) (d : List DStep) : List Elem := applyU (exD d) l
end Go.Ch
end
section
set_option linter.unusedVariables false
set_option linter.unusedSimpArgs false
set_option maxRecDepth 100000
set_option maxHeartbeats 4000000
open Go Go.Proofs Go.Ab
namespace Go.Ch
theorem fc_on (s : ByteArray) : FC Tryd.prog 17 [VS s] (app emp []) (VL 2 attrT [({ name := s, val := { data := #[111, 110] } } : Attr)]) (app emp []) := by
 refine .go Tryd.f17 ?_
 exact .fin [.r [], .r [], .le (.fr 2 [(1 : Nat) = (List.map attrT [({ name := s, val := { data := #[111, 110] } } : Attr)]).length] ⟨lm, trivial⟩)] []
end Go.Ch
end
section
set_option linter.unusedVariables false
set_option linter.unusedSimpArgs false
namespace Go.Ch
open Go Go.Ab

/-- Every byte is a plain letter. -/
def AscS (s : ByteArray) : Prop := ∀ i, i < s.size → 32 ≤ byt s i ∧ byt s i < 127
def ascE (s : ByteArray) (l : List Attr) (i : Nat) : Elem := ⟨(byt s i : Int), 0, l⟩
def ascL (s : ByteArray) (l : List Attr) (n : Nat) : List Elem := (List.range n).map (ascE s l)
theorem ascL_succ (s : ByteArray) (l : List Attr) (n : Nat) : ascL s l (n + 1) = ascL s l n ++ [⟨(byt s n : Int), 0, l⟩] := by
  unfold ascL; rw [List.range_succ, List.map_append]; rfl
theorem ext_size (s : ByteArray) (n : Nat) : (s.extract n s.size).size = s.size - n := by simp [ByteArray.size_extract]
theorem ext_byt {s : ByteArray} {n : Nat} (h : n < s.size) : byt (s.extract n s.size) 0 = byt s n := by
  unfold byt
  have h1 : 0 < (s.extract n s.size).size := by rw [ext_size]; omega
  rw [getElem?_pos s n h, getElem?_pos (s.extract n s.size) 0 h1]
  simp [ByteArray.getElem_extract]
theorem ext_ext {s : ByteArray} {n : Nat} : (s.extract n s.size).extract 1 (s.extract n s.size).size = s.extract (n + 1) s.size := by
  rw [ext_size]
  apply ByteArray.ext
  simp only [ByteArray.data_extract, Array.extract_extract]
  congr 1
  omega
theorem ext_all (s : ByteArray) : s.extract 0 s.size = s := by simp
/-- The characters of a flow of plain letters. -/
def strE (f : List Elem) : ByteArray := ⟨(f.map fun x => UInt8.ofNat x.char.toNat).toArray⟩
theorem strE_ints {f : List Elem} (h : ∀ x ∈ f, 0 ≤ x.char ∧ x.char < 256) : f.map (·.char) = intsB (strE f) := by
  unfold intsB strE
  simp only [List.map_map]
  apply List.map_congr_left
  intro x hx
  have := h x hx
  simp only [Function.comp]
  rw [UInt8.toNat_ofNat']
  omega
end Go.Ch
end
section
set_option linter.unusedVariables false
set_option linter.unusedSimpArgs false
set_option maxRecDepth 100000
set_option maxHeartbeats 4000000
open Go Go.Proofs Go.Ab
namespace Go.Ch
def intT (z : Int) : Tree := .sc (.int .i64 z)
def withinI (x lo hi : Int) : Int := lo + ((x.tmod (hi - lo + 1)) + (hi - lo + 1)).tmod (hi - lo + 1)
theorem tmod_bd (x : Int) {n : Int} (hn : 0 < n) : -n < x.tmod n ∧ x.tmod n < n := by
  have h1 := Int.tmod_lt_of_pos x hn
  have h2 : -n < x.tmod n := by
    rcases Int.le_total 0 x with h | h
    · have := Int.tmod_nonneg n h; omega
    · have h3 := Int.tmod_lt_of_pos (-x) hn
      rw [Int.neg_tmod] at h3; omega
  exact ⟨h2, h1⟩
theorem withinI_bd (x : Int) {lo hi : Int} (h : lo ≤ hi) : lo ≤ withinI x lo hi ∧ withinI x lo hi ≤ hi := by
  unfold withinI
  have h1 := tmod_bd x (n := hi - lo + 1) (by omega)
  have h2 := Int.tmod_nonneg (hi - lo + 1) (a := (x.tmod (hi - lo + 1)) + (hi - lo + 1)) (by omega)
  have h3 := Int.tmod_lt_of_pos ((x.tmod (hi - lo + 1)) + (hi - lo + 1)) (b := hi - lo + 1) (by omega)
  omega

theorem fc_within (x lo hi : Int) (hl : -1000000000000 ≤ lo ∧ lo ≤ hi ∧ hi ≤ 1000000000000) : FC Tryd.prog 11 [VI x, VI lo, VI hi] (app emp []) (VI (withinI x lo hi)) (app emp []) := by
 refine .go Tryd.f11 ?_
 have e1 : ((withinI x lo hi) : Int) = (lo + (((x.tmod ((hi - lo) + 1)) + ((hi - lo) + 1)).tmod ((hi - lo) + 1))) := by
  rfl
 exact .finE [.r [], .r [(2, X (Xn (hi - lo))), (3, X (Xn ((hi - lo) + 1)))], .r [(3, X (Xc ((((hi - lo) + 1) : Int) ≠ 0))), (5, X (Xn ((x.tmod ((hi - lo) + 1)) + ((hi - lo) + 1))) (by have h1 := tmod_bd x (n := hi - lo + 1) (by omega); omega)), (7, X (Xc ((((hi - lo) + 1) : Int) ≠ 0))), (8, X (Xn (lo + (((x.tmod ((hi - lo) + 1)) + ((hi - lo) + 1)).tmod ((hi - lo) + 1)))) (by have h1 := withinI_bd x (lo := lo) (hi := hi) (by omega); unfold withinI at h1; omega))]] [] (fun z0 => (VI z0, [])) ((lo + (((x.tmod ((hi - lo) + 1)) + ((hi - lo) + 1)).tmod ((hi - lo) + 1))) : Int) ((withinI x lo hi) : Int) e1
end Go.Ch
end
section
set_option linter.unusedVariables false
set_option linter.unusedSimpArgs false
set_option maxRecDepth 100000
set_option maxHeartbeats 4000000
open Go Go.Proofs Go.Ab
namespace Go.Ch
theorem fc_attrCheck (l : List Attr) : FC Tryd.prog 18 [VL 2 attrT l] (app emp []) (VI (chkA false l 0)) (app emp []) := by
 refine .go Tryd.f18 ?_
 refine .len 0 (fun hl0 => ?_)
 exact .fin [.r [], .r [(1, X (Xc0 (fc_chk l false) X0))]] []

theorem fc_decode (s : ByteArray) (h : 0 < s.size ∧ byt s 0 < 128) : FC Tryd.prog 19 [VS s] (app emp []) (.tup [.t (.sc (.int .i32 (byt s 0 : Int))), VI 1]) (app emp []) := by
 refine .go Tryd.f19 ?_
 have hz : seq s { data := #[] } = false := by rw [seq_mt, decide_eq_false (by omega)]
 have h2 := h.2
 unfold byt at h2
 refine .br [.r [], .r [(4, Xv 1 (!(seq s ({ data := #[] }))) (Xb s 0)), (5, Xv 1 (!(seq s ({ data := #[] }))) X0), (6, X (Xk (!(seq s ({ data := #[] })))))]] (!(seq s ({ data := #[] })) && decide (((((s[0]?).getD 0).toNat : Nat) : Int) < 128)) (fun h1 => ?_) (fun h1 => ?_)
 ·
  (try simp only [decide_eq_true_eq, decide_eq_false_iff_not, Int.not_lt, Int.not_le, Bool.not_eq_true', Bool.not_eq_false', Bool.and_eq_true, Bool.and_eq_false_iff] at h1)
  have e1 : ((byt s 0 : Int) : Int) = ((((s[0]?).getD 0).toNat : Nat) : Int) := by
   rfl
  exact .finE [.r [(1, X (Xb s 0)), (2, X (Xcv IntKind.i32 ((((s[0]?).getD 0).toNat : Nat) : Int)) (wrap_i32 (by omega)))]] [] (fun z0 => (.tup [.t (.sc (.int .i32 z0)), VI 1], [])) (((((s[0]?).getD 0).toNat : Nat) : Int) : Int) ((byt s 0 : Int) : Int) e1
 ·
  (try simp only [decide_eq_true_eq, decide_eq_false_iff_not, Int.not_lt, Int.not_le, Bool.not_eq_true', Bool.not_eq_false', Bool.and_eq_true, Bool.and_eq_false_iff] at h1)
  exfalso
  rcases h1 with q | q; (rw [hz] at q; cases q); omega

theorem fc_appendRune (l : List Int) (c : Int) (h : 0 ≤ c ∧ c < 128) (hl : l.length ≤ 100000000000) : FC Tryd.prog 21 [.row 0 l.length, .t (.sc (.int .i32 c))] (app emp [(0, OR 1 byteT l)]) (.row 0 ((l ++ [c]).length)) (app emp [(0, OR 1 byteT (l ++ [c]))]) := by
 refine .go Tryd.f21 ?_
 refine .br [.r [], .r [(1, X (Xcv IntKind.u32 c) (wrap_u32 (by omega)))]] (decide (c ≤ 127)) (fun h1 => ?_) (fun h1 => ?_)
 ·
  (try simp only [decide_eq_true_eq, decide_eq_false_iff_not, Int.not_lt, Int.not_le] at h1)
  exact .fin [.r [(2, X (Xcv IntKind.u8 c) (wrap_u8 (by omega))), (4, X (rowC byteT [c] (Xap 1 byteT 0 l [c])))]] [(0, 0)]
 ·
  (try simp only [decide_eq_true_eq, decide_eq_false_iff_not, Int.not_lt, Int.not_le] at h1)
  exfalso
  omega

theorem fc_ofAsc (s : ByteArray) (l : List Attr) (hs : AscS s) (hl : chkA false l 0 = 0) (hn : s.size ≤ 1000000000) (hk : l.length ≤ 1000000000) : FC Tryd.prog 7 [VS s, VL 2 attrT l] (app emp []) (.tup [VL 3 elemT (ascL s l s.size), VI 0]) (app emp []) := by
 refine .go Tryd.f7 ?_
 refine .len 1 (fun hl1 => ?_)
 refine .br [.r [], .r [(1, X (Xc0 (fc_attrCheck l) X0))], .r []] ((chkA false l 0) != 0) (fun h2 => ?_) (fun h2 => ?_)
 ·
  (try simp only [bne_iff_ne, bne_eq_false_iff_eq, ne_eq] at h2)
  exfalso
  omega
 ·
  (try simp only [bne_iff_ne, bne_eq_false_iff_eq, ne_eq] at h2)
  refine .loop (α := ByteArray × (List Elem)) [.r [], .le (.nR 7 3)] 65 (fun (u, o) => ([(0, VS u), (1, VL 2 attrT l), (7, .row 64 o.length)], [(64, OR 3 elemT o)])) (fun (u, o) => o.length ≤ s.size ∧ u = s.extract o.length s.size ∧ o = ascL s l o.length) (fun (u, o) => s.size - o.length) (s, []) ?_ ?_
  ·
   exact ⟨by simp, (ext_all s).symm, rfl⟩
  rintro ⟨u, o⟩ I5 ih5
  try dsimp only at I5
  have us : u.size = s.size - o.length := by rw [I5.2.1, ext_size]
  refine .br [.r []] (!(seq u ({ data := #[] }))) (fun h5 => ?_) (fun h5 => ?_)
  ·
   (try simp only [Bool.not_eq_true', Bool.not_eq_false'] at h5)
   rw [seq_mt, decide_eq_false_iff_not] at h5
   have hb := hs o.length (by omega)
   have hu : byt u 0 = byt s o.length := by rw [I5.2.1, ext_byt (by omega)]
   have h0 : 0 < u.size ∧ byt u 0 < 128 := ⟨by omega, by omega⟩
   refine .br [.r [(1, X (Xc0 (fc_decode u (by assumption)) X0))], .r [(4, Xv 1 ((byt u 0 : Int) == 65533) X0), (5, X (Xk ((byt u 0 : Int) == 65533)))]] (((byt u 0 : Int) == 65533) || false) (fun h7 => ?_) (fun h7 => ?_)
   ·
    (try simp only [Bool.or_eq_true, Bool.or_eq_false_iff, beq_iff_eq, beq_eq_false_iff_ne, ne_eq] at h7)
    exfalso
    rcases h7 with q | q
    · omega
    · cases q
   ·
    (try simp only [Bool.or_eq_true, Bool.or_eq_false_iff, beq_iff_eq, beq_eq_false_iff_ne, ne_eq] at h7)
    refine .br [.r [(1, X (Xn (byt u 0 : Int))), (2, X (Xc0 (fc_char (byt u 0 : Int)) X0))]] (!(decide (CharP (byt u 0 : Int)))) (fun h9 => ?_) (fun h9 => ?_)
    ·
     (try simp only [decide_eq_true_eq, decide_eq_false_iff_not, Int.not_lt, Int.not_le, Bool.not_eq_true', Bool.not_eq_false'] at h9)
     exfalso
     unfold CharP at h9; omega
    ·
     (try simp only [decide_eq_true_eq, decide_eq_false_iff_not, Int.not_lt, Int.not_le, Bool.not_eq_true', Bool.not_eq_false'] at h9)
     refine .back [.r [(2, X (Xn (byt u 0 : Int))), (4, X (Xan attrT 249 l)), (6, X (rowC attrT l X0)), (7, X (rowC elemT [({ char := (byt u 0 : Int), ref := 0, attrs := l } : Elem)] (Xap 3 elemT 64 o [({ char := (byt u 0 : Int), ref := 0, attrs := l } : Elem)])))], .r [(2, X (Xa (Xc ((0:Int) ≤ 1)) (Xa (Xc ((1 : Int) ≤ (u.size : Int))) (Xc (((u.size : Int) : Int) ≤ (u.size : Int))))))]] [(64, 64)] (ih5 ((u.extract ((1 : Int)).toNat (((u.size : Int) : Int)).toNat), (o ++ [({ char := (byt u 0 : Int), ref := 0, attrs := l } : Elem)])) ?_ ?_)
     ·
      simp only [List.length_append, List.length_cons, List.length_nil]
      refine ⟨by omega, ?_, ?_⟩
      · show u.extract 1 u.size = _
        rw [I5.2.1]; exact ext_ext
      · rw [Nat.zero_add, ascL_succ, ← I5.2.2, hu]
     ·
      simp only [List.length_append, List.length_cons, List.length_nil]; omega
  ·
   (try simp only [Bool.not_eq_true', Bool.not_eq_false'] at h5)
   rw [seq_mt, decide_eq_true_eq] at h5
   have hfin : ascL s l s.size = o := by rw [show s.size = o.length by omega]; exact I5.2.2.symm
   have e1 : ((ascL s l s.size) : List Elem) = o := by
    rw [hfin]
   exact .finE [.r [], .le (.fr 4 [(o.length : Nat) = (List.map elemT o).length] ⟨lm, trivial⟩)] [] (fun z0 => (.tup [VL 3 elemT z0, VI 0], [])) (o : List Elem) ((ascL s l s.size) : List Elem) e1
end Go.Ch
end
section
set_option linter.unusedVariables false
set_option linter.unusedSimpArgs false
set_option maxRecDepth 100000
set_option maxHeartbeats 4000000
open Go Go.Proofs Go.Ab
namespace Go.Ch
theorem fc_textAsc (f : List Elem) (hp : partE f 0 = 0) (hc : ∀ x ∈ f, x.ref = 0 ∧ 0 ≤ x.char ∧ x.char < 128) (hn : f.length ≤ 1000000000) : FC Tryd.prog 8 [VL 3 elemT f] (app emp []) (.tup [VS (strE f), VI 0]) (app emp []) := by
 refine .go Tryd.f8 ?_
 refine .len 0 (fun hl0 => ?_)
 refine .br [.r [], .r [(1, X (Xc0 (fc_checkPart f) X0))], .r []] ((partE f 0) != 0) (fun h2 => ?_) (fun h2 => ?_)
 ·
  (try simp only [bne_iff_ne, bne_eq_false_iff_eq, ne_eq] at h2)
  exfalso
  omega
 ·
  (try simp only [bne_iff_ne, bne_eq_false_iff_eq, ne_eq] at h2)
  refine .loop (α := Nat × (List Int)) [.r [], .r [(1, X (Xl elemT f))], .le (.nR 5 1)] 89 (fun (i, b) => ([(5, .row 88 b.length), (14, VL 3 elemT f), (15, VI (f.length : Int)), (16, VI (i : Int))], [(88, OR 1 byteT b)])) (fun (i, b) => i ≤ f.length ∧ b = (f.take i).map (·.char)) (fun (i, b) => f.length - i) (0, []) ?_ ?_
  ·
   exact ⟨by omega, rfl⟩
  rintro ⟨i, b⟩ I6 ih6
  try dsimp only at I6
  have bl : b.length = i := by rw [I6.2]; simp; omega
  refine .br [.r []] (decide ((i : Int) < (f.length : Int))) (fun h6 => ?_) (fun h6 => ?_)
  ·
   (try simp only [decide_eq_true_eq, decide_eq_false_iff_not, Int.not_lt, Int.not_le] at h6)
   have hx := hc _ (getDE_mem (l := f) (k := i) (by omega))
   refine .br [.r [(0, X (Xi elemT f (i : Int)))], .r [], .r []] ((((f.getD i default)).ref) != 0) (fun h9 => ?_) (fun h9 => ?_)
   ·
    (try simp only [bne_iff_ne, bne_eq_false_iff_eq, ne_eq] at h9)
    exfalso
    omega
   ·
    (try simp only [bne_iff_ne, bne_eq_false_iff_eq, ne_eq] at h9)
    refine .back [.r [(2, X (Xcv IntKind.i32 (((f.getD i default)).char)) (wrap_i32 (by omega))), (3, X (Xc3 201 [(0, 88)] (fc_appendRune b (((f.getD i default)).char) (by omega) (by omega)) X0))], .r [(0, X (Xn ((i : Int) + 1)))]] [(88, 88)] (ih6 ((i + 1), (b ++ [(((f.getD i default)).char)])) ?_ ?_)
    ·
     refine ⟨by omega, ?_⟩
     rw [List.take_succ_eq_append_getElem (show i < f.length by omega), List.map_append, ← I6.2]
     simp [List.getD, List.getElem?_eq_getElem (show i < f.length by omega)]
    ·
     ((try dsimp only); omega)
  ·
   (try simp only [decide_eq_true_eq, decide_eq_false_iff_not, Int.not_lt, Int.not_le] at h6)
   have hb : b = intsB (strE f) := by rw [I6.2, List.take_of_length_le (by omega)]; exact strE_ints (fun x hx => by have := hc x hx; omega)
   exact .fin [.r [(1, X (Xstr b.length b (strE f)) ⟨rfl, hb⟩)]] []

theorem door_facts : chkA false [({ name := { data := #[98, 111, 108, 100] }, val := { data := #[111, 110] } } : Attr)] 0 = 0 ∧ partE (ascL { data := #[97, 98] } [({ name := { data := #[98, 111, 108, 100] }, val := { data := #[111, 110] } } : Attr)] (ByteArray.size { data := #[97, 98] })) 0 = 0 ∧ ((ascL { data := #[97, 98] } [({ name := { data := #[98, 111, 108, 100] }, val := { data := #[111, 110] } } : Attr)] (ByteArray.size { data := #[97, 98] }))).length = 2 ∧ strE (ascL { data := #[97, 98] } [({ name := { data := #[98, 111, 108, 100] }, val := { data := #[111, 110] } } : Attr)] (ByteArray.size { data := #[97, 98] })) = { data := #[97, 98] } := by decide +kernel
theorem door_asc : AscS { data := #[97, 98] } := fun i hi => by
  have : i = 0 ∨ i = 1 := by have : ByteArray.size { data := #[97, 98] } = 2 := rfl; omega
  rcases this with rfl | rfl <;> decide
theorem asc_mem {s : ByteArray} {l : List Attr} {n : Nat} {x : Elem} (h : x ∈ ascL s l n) (hs : AscS s) (hn : n ≤ s.size) : x.ref = 0 ∧ 0 ≤ x.char ∧ x.char < 128 := by
  obtain ⟨i, hi, rfl⟩ := List.mem_map.1 h
  have := hs i (by have := List.mem_range.1 hi; omega)
  refine ⟨rfl, ?_, ?_⟩ <;> simp only [ascE] <;> omega

theorem fc_flows  : FC Tryd.prog 6 [] (app emp []) (VB true) (app emp []) := by
 refine .go Tryd.f6 ?_
 obtain ⟨p1, p2, p3, p4⟩ := door_facts
 have p5 := door_asc
 have p7 : ByteArray.size { data := #[97, 98] } = 2 := rfl
 have p8 : ([({ name := { data := #[98, 111, 108, 100] }, val := { data := #[111, 110] } } : Attr)]).length = 1 := rfl
 have p6 := fun x (h : x ∈ (ascL { data := #[97, 98] } [({ name := { data := #[98, 111, 108, 100] }, val := { data := #[111, 110] } } : Attr)] (ByteArray.size { data := #[97, 98] }))) => asc_mem h door_asc (Nat.le_refl _)
 have e1 : ((((true || false) && (((ascL ({ data := #[97, 98] }) [({ name := ({ data := #[98, 111, 108, 100] }), val := { data := #[111, 110] } } : Attr)] (ByteArray.size ({ data := #[97, 98] }))).length : Int) == 2)) && seq ({ data := #[97, 98] } : ByteArray) ({ data := #[97, 98] })) : Bool) = true := by
  rw [p3]; simp [seq_iff]
 exact .finE [.r [], .r [(0, X (Xc1 8 (fc_on ({ data := #[98, 111, 108, 100] })) X0)), (1, X (Xc1 16 (fc_ofAsc ({ data := #[97, 98] }) [({ name := ({ data := #[98, 111, 108, 100] }), val := { data := #[111, 110] } } : Attr)] (by assumption) (by assumption) (by omega) (by omega)) X0))], .r [(1, X (Xc0 (fc_textAsc (ascL ({ data := #[97, 98] }) [({ name := ({ data := #[98, 111, 108, 100] }), val := { data := #[111, 110] } } : Attr)] (ByteArray.size ({ data := #[97, 98] }))) (by assumption) (by assumption) (by omega)) X0))], .le (.eq 3 (VS (strE (ascL ({ data := #[97, 98] }) [({ name := ({ data := #[98, 111, 108, 100] }), val := { data := #[111, 110] } } : Attr)] (ByteArray.size ({ data := #[97, 98] }))))) (VS ({ data := #[97, 98] } : ByteArray)) (.of_eq (by rw [p4]))), .r [(4, Xv 1 true X0), (5, X (Xk true)), (8, Xv 1 (true || false) (Xl elemT (ascL ({ data := #[97, 98] }) [({ name := ({ data := #[98, 111, 108, 100] }), val := { data := #[111, 110] } } : Attr)] (ByteArray.size ({ data := #[97, 98] }))))), (9, Xv 1 (true || false) X0), (10, X (Xk (true || false))), (13, Xv 1 ((true || false) && (((ascL ({ data := #[97, 98] }) [({ name := ({ data := #[98, 111, 108, 100] }), val := { data := #[111, 110] } } : Attr)] (ByteArray.size ({ data := #[97, 98] }))).length : Int) == 2)) X0), (14, X (Xk ((true || false) && (((ascL ({ data := #[97, 98] }) [({ name := ({ data := #[98, 111, 108, 100] }), val := { data := #[111, 110] } } : Attr)] (ByteArray.size ({ data := #[97, 98] }))).length : Int) == 2))))]] [] (fun z0 => (VB z0, [])) ((((true || false) && (((ascL ({ data := #[97, 98] }) [({ name := ({ data := #[98, 111, 108, 100] }), val := { data := #[111, 110] } } : Attr)] (ByteArray.size ({ data := #[97, 98] }))).length : Int) == 2)) && seq ({ data := #[97, 98] } : ByteArray) ({ data := #[97, 98] })) : Bool) (true : Bool) e1.symm
end Go.Ch
end
section
set_option linter.unusedVariables false
set_option linter.unusedSimpArgs false
set_option maxRecDepth 100000
set_option maxHeartbeats 4000000
open Go Go.Proofs Go.Ab
namespace Go.Ch
def flowE (f : List Elem) : Int := if partE f 0 ≠ 0 then partE f 0 else if f.length = 0 ∨ (f.getD (f.length - 1) default).char ≠ 10 then 11 else 0
theorem flowE_bad {f : List Elem} {i : Nat} (h : partE f 0 = partE f i) (hi : i < f.length) (he : ¬ elemE (f.getD i default) = 0) : flowE f = elemE (f.getD i default) := by
  have : partE f 0 = elemE (f.getD i default) := by rw [h, partE, if_pos hi]; split <;> omega
  unfold flowE
  rw [this, if_pos he]
theorem flowE_end {f : List Elem} {i : Nat} (h : partE f 0 = partE f i) (hi : f.length ≤ i) : flowE f = if f.length = 0 ∨ (f.getD (f.length - 1) default).char ≠ 10 then 11 else 0 := by
  have : partE f 0 = 0 := by rw [h, partE, if_neg (by omega)]
  unfold flowE
  rw [this, if_neg (by simp)]
theorem flowE_ok {f : List Elem} (h : flowE f = 0) : partE f 0 = 0 ∧ 0 < f.length ∧ (f.getD (f.length - 1) default).char = 10 := by
  unfold flowE at h
  split at h
  · rename_i q; exact absurd h q
  · rename_i q
    split at h
    · cases h
    · rename_i r
      refine ⟨by omega, by omega, Classical.byContradiction fun q => r (.inr q)⟩

theorem fc_flowCheck (f : List Elem) : FC Tryd.prog 16 [VL 3 elemT f, VB true] (app emp []) (VI (flowE f)) (app emp []) := by
 refine .go Tryd.f16 ?_
 refine .len 0 (fun hl0 => ?_)
 refine .loop (α := Nat) [.r [], .r [(1, X (Xl elemT f))]] 32 (fun i => ([(0, VL 3 elemT f), (1, VB true), (8, VL 3 elemT f), (9, VI (f.length : Int)), (10, VI (i : Int))], [])) (fun i => i ≤ f.length ∧ partE f 0 = partE f i) (fun i => f.length - i) (0 : Nat) ?_ ?_
 ·
  exact ⟨by omega, rfl⟩
 rintro i I2 ih2
 try dsimp only at I2
 refine .br [.r []] (decide ((i : Int) < (f.length : Int))) (fun h2 => ?_) (fun h2 => ?_)
 ·
  (try simp only [decide_eq_true_eq, decide_eq_false_iff_not, Int.not_lt, Int.not_le] at h2)
  refine .br [.r [(0, X (Xi elemT f (i : Int)))], .r [(1, X (Xc0 (fc_elem ((f.getD i default))) X0))], .r []] ((elemE ((f.getD i default))) != 0) (fun h5 => ?_) (fun h5 => ?_)
  ·
   (try simp only [bne_iff_ne, bne_eq_false_iff_eq, ne_eq] at h5)
   have e1 : ((flowE f) : Int) = (elemE ((f.getD i default))) := by
    exact flowE_bad I2.2 (by omega) h5
   exact .finE [.r []] [] (fun z0 => (VI z0, [])) ((elemE ((f.getD i default))) : Int) ((flowE f) : Int) e1
  ·
   (try simp only [bne_iff_ne, bne_eq_false_iff_eq, ne_eq] at h5)
   refine .br [.r [(4, Xv 1 false X0), (5, Xv 1 false X0), (6, X (Xk false))]] (false && ((((f.getD i default)).ref) == 0)) (fun h7 => ?_) (fun h7 => ?_)
   ·
    (try simp only [Bool.and_eq_true, Bool.and_eq_false_iff, Bool.not_eq_true', Bool.not_eq_false', beq_iff_eq, beq_eq_false_iff_ne, ne_eq] at h7)
    exfalso
    simp at h7
   ·
    (try simp only [Bool.and_eq_true, Bool.and_eq_false_iff, Bool.not_eq_true', Bool.not_eq_false', beq_iff_eq, beq_eq_false_iff_ne, ne_eq] at h7)
    refine .back [.r [(0, X (Xn ((i : Int) + 1)))]] [] (ih2 ((i + 1) : Nat) ?_ ?_)
    ·
     refine ⟨by omega, ?_⟩
     rw [I2.2, partE, if_pos (by omega), if_pos (by omega)]
    ·
     ((try dsimp only); omega)
 ·
  (try simp only [decide_eq_true_eq, decide_eq_false_iff_not, Int.not_lt, Int.not_le] at h2)
  refine .br [.r [(3, Xv 1 true (Xl elemT f)), (4, Xv 1 true X0), (5, Xv 1 true X0), (8, Xv 1 (true && !((f.length : Int) == 0)) (Xl elemT f)), (9, Xv 1 (true && !((f.length : Int) == 0)) (Xn ((f.length : Int) - 1))), (10, Xv 2 (true && !((f.length : Int) == 0)) (Xi' elemT f ((f.length : Int) - 1) (f.length - 1)) (fun hg => by (try simp only [Bool.not_eq_true', Bool.not_eq_false', Bool.and_eq_true, Bool.and_eq_false_iff, beq_iff_eq, beq_eq_false_iff_ne, ne_eq] at hg); exact ⟨(by omega), (by omega)⟩)), (11, Xv 1 (true && !((f.length : Int) == 0)) X0), (12, Xv 1 (true && !((f.length : Int) == 0)) X0), (13, Xv 1 (true && !((f.length : Int) == 0)) X0), (14, Xko true ((f.length : Int) == 0)), (15, X (Xk true))]] (true && (((f.length : Int) == 0) || ((((f.getD (f.length - 1) default)).char) != 10))) (fun h10 => ?_) (fun h10 => ?_)
  ·
   (try simp only [Bool.and_eq_true, Bool.and_eq_false_iff, Bool.not_eq_true', Bool.not_eq_false', Bool.or_eq_true, Bool.or_eq_false_iff, beq_iff_eq, beq_eq_false_iff_ne, ne_eq, bne_iff_ne, bne_eq_false_iff_eq] at h10)
   have e2 : ((flowE f) : Int) = 11 := by
    rw [flowE_end I2.2 (by omega), if_pos (by omega)]
   exact .finE [.r []] [] (fun z0 => (VI z0, [])) (11 : Int) ((flowE f) : Int) e2
  ·
   (try simp only [Bool.and_eq_true, Bool.and_eq_false_iff, Bool.not_eq_true', Bool.not_eq_false', Bool.or_eq_true, Bool.or_eq_false_iff, beq_iff_eq, beq_eq_false_iff_ne, ne_eq, bne_iff_ne, bne_eq_false_iff_eq] at h10)
   have e3 : ((flowE f) : Int) = 0 := by
    rw [flowE_end I2.2 (by omega), if_neg (by rcases h10 with h | h; (cases h); rintro (q | q); (omega); (exact q h.2))]
   exact .finE [.r []] [] (fun z0 => (VI z0, [])) (0 : Int) ((flowE f) : Int) e3
end Go.Ch
end
section
namespace Go.Ab
open Go Go.Proofs Go.RowKit Go.Shelf
open Go.Ch
set_option linter.unusedVariables false
set_option linter.unusedSimpArgs false
attribute [local go_sem] Oper.semAt_some
variable {P : Program}

theorem TabW.below {W W' : World} {B : Nat} (h : TabW P W) (hb : Below B W W') (hB : W.heap.size ≤ B) : TabW P W' := by
  intro a b ha hb'
  obtain ⟨x, y, h1, h2, h3⟩ := (fenW P W h).tab a b ha hb'
  have h1 : W.heap[a]? = some x := h1.1
  have h2 : W.heap[b]? = some y := h2.1
  have la := (Array.getElem?_eq_some_iff.1 h1).1
  have lb := (Array.getElem?_eq_some_iff.1 h2).1
  exact h3 W' ((hb.block a (by omega)).trans h1) ((hb.block b (by omega)).trans h2)
theorem TRep.belowW {W W' : World} {T : Tree} {u : Value} (h : TRep W (fun b => b < W.heap.size) T u) (hb : Below W.heap.size W W') : TRep W' (fun b => b < W'.heap.size) T u :=
  h.mono (fun b hb' => Nat.lt_of_lt_of_le hb' hb.size) (fun b o u hb' hc => (hb.cell (p := ⟨b, o, none⟩) hb').trans hc)

/-- flow.Paragraphs: the flow is boxed; the function value captures the box. -/
theorem parF_in (F : Fence) (n : Nat) (h15 : F.fn 15) (hro : F.round = none) (a : Option Addr) (len cap : Nat) (w : World) :
    CallsIn F n Tryd.prog 15 #[.slice a len cap] w fun e w' => e = .returned (.func (.func 26) #[] #[.pointer (some ⟨w.heap.size, 0, none⟩)]) ∧ w' = w.alloc (.cells #[.slice a len cap] 24) := by
  refine callsIn_of_wp Tryd.func15 rfl h15 ?_ hro
  simp only [Tryd.ntmps15, List.size_toArray, List.length_cons, List.length_nil, Nat.reduceAdd, Nat.reduceSub, Array.replicate_succ, Array.replicate_zero, List.push_toArray, List.append_toArray, List.nil_append, List.cons_append]
  gi_wp2
  go_ret
  exact ⟨rfl, rfl⟩


/-- The cells of a flow. -/
theorem flow_cells {W : World} {ok : Nat → Prop} {a : Option Addr} {n cap : Nat} {f : List Elem} (h : TRep W ok (.lst 3 (f.map elemT)) (.slice a n cap)) :
    n = f.length ∧ cap ≤ maxLen ∧ (f ≠ [] → ∃ b o, a = some ⟨b, o, none⟩ ∧ ok b ∧ ∀ j, j < f.length → W.cell? ⟨b, o + j * 3, none⟩ = some (.int .i64 (f.getD j default).char) ∧
      W.cell? ⟨b, o + j * 3 + 1, none⟩ = some (.int .i64 (f.getD j default).ref) ∧ ∃ A m c, W.cell? ⟨b, o + j * 3 + 2, none⟩ = some (.slice A m c)) := by
  generalize hu : Value.slice a n cap = u at h
  cases h with
  | lst _ _ A c us hk hx hn hm hA hl hr =>
    obtain ⟨rfl, e2, rfl⟩ := Value.slice.inj hu
    refine ⟨by simpa using e2, hm, fun hne => ?_⟩
    obtain ⟨b, o, e, hb, hc⟩ := hA (by simpa using hne)
    refine ⟨b, o, e, hb, fun j hj => ?_⟩
    have hT : (f.map elemT)[j]? = some (elemT (f.getD j default)) := by simp [List.getElem?_eq_getElem hj, List.getD]
    have hfl : (flat (f.map elemT)).length = us.length := by rw [flat_len hx, hl]
    have key : ∀ i, i < 3 → ∃ T u, (elemT (f.getD j default)).cells[i]? = some T ∧ W.cell? ⟨b, o + (j * 3 + i), none⟩ = some u ∧ TRep W ok T u := by
      intro i hi
      have h1 := flat_get hx hT hi
      have hlt : j * 3 + i < us.length := by rw [hl]; simp; omega
      have h2 : (flat (f.map elemT))[j * 3 + i]? = some (flat (f.map elemT))[j * 3 + i] := List.getElem?_eq_getElem (by omega)
      have h3 : us[j * 3 + i]? = some us[j * 3 + i] := List.getElem?_eq_getElem hlt
      exact ⟨_, _, h1 ▸ h2, hc _ _ h3, hr _ _ _ h2 h3⟩
    obtain ⟨T0, u0, e0, c0, r0⟩ := key 0 (by omega)
    obtain ⟨T1, u1, e1, c1, r1⟩ := key 1 (by omega)
    obtain ⟨T2, u2, e2, c2, r2⟩ := key 2 (by omega)
    simp [elemT, Tree.cells] at e0 e1 e2
    subst e0 e1 e2
    cases r0; cases r1; cases r2
    exact ⟨c0, by simpa [Nat.add_assoc] using c1, _, _, _, by simpa [Nat.add_assoc] using c2⟩

set_option maxRecDepth 100000 in
set_option maxHeartbeats 1000000 in
/-- .. of a flow without elements: no round. -/
theorem par1_nil_in (F : Fence) (n : Nat) (h26 : F.fn 26) (hro : F.round = none) (l Bs cap : Nat) (a : Option Addr) (J : List (Nat × Nat) → World → Prop) (W : World) (hBs : W.cell? ⟨Bs, 0, none⟩ = some (.slice a 0 cap)) (h0 : J [] W) :
    CallsIn F n Tryd.prog 26 #[.func (.yield l) #[] #[], .pointer (some ⟨Bs, 0, none⟩)] W fun e W' => (∃ v, e = .returned v) ∧ J [] W' := by
  refine callsIn_of_wp Tryd.func26 rfl h26 ?_ hro
  simp only [Tryd.ntmps26, List.size_toArray, List.length_cons, List.length_nil, Nat.reduceAdd, Nat.reduceSub, Array.replicate_succ, Array.replicate_zero, List.push_toArray, List.append_toArray, List.nil_append, List.cons_append]
  gi_wp2
  gi_loopw [8] (fun i wr => i = .int .i64 0 ∧ J [] wr) (fun _ _ => 0)
  case atStart => exact ⟨rfl, h0⟩
  case round =>
    obtain ⟨rfl, hJs⟩ := hrel
    gi_wp2
    go_end0
    exact ⟨⟨_, rfl⟩, hJs⟩

/-- It hands back a value that ends where it should. -/
theorem par_stops (F : Fence) (n : Nat) (h26 : F.fn 26) (hro : F.round = none) (hn : 1 ≤ n) (Bs n₀ : Nat) (a : Option Addr) (f : List Elem) (cap : Nat) (hreach : f.length * 24 ≤ 140737488351232) (w w0 : World) (hBs : Bs < w.heap.size) (hn₀ : n₀ ≤ w.heap.size)
    (hc : w.cell? ⟨Bs, 0, none⟩ = some (.slice a f.length cap)) (h0 : w0.heap.size ≤ n₀) (hf : TRep w0 (fun b => b < w0.heap.size) (.lst 3 (f.map elemT)) (.slice a f.length cap)) (hB : Below w0.heap.size w0 w) :
    SeqStopsK F n Tryd.prog 26 #[.pointer (some ⟨Bs, 0, none⟩)] (fun x : Nat × Nat => #[Value.int .i64 (x.1 : Int), Value.int .i64 (x.2 : Int)]) (Below n₀) (fun ys => ys = (parTo f f.length).1) (fun pre => pre <+: (parTo f f.length).1) f.length w := fun l J Jx W hW hJ hJx hY hs => by
  have hc' := (hW.cell (p := ⟨Bs, 0, none⟩) hBs).trans hc
  by_cases hne : f = []
  · subst hne
    exact (par1_nil_in F n h26 hro l Bs cap a J W hc' hs).mono fun e W' ⟨he, hj⟩ => ⟨he, .inl ⟨_, rfl, hj⟩⟩
  · obtain ⟨_, _, hcs⟩ := flow_cells hf
    obtain ⟨b, o, rfl, hb, hcs⟩ := hcs hne
    have hBW : Below w0.heap.size w0 W := hB.trans (hW.mono (Nat.le_trans h0 hn₀))
    have hb' : b < w0.heap.size := hb
    refine par1_in F n h26 hro hn l Bs n₀ b o cap f hreach (by omega) J Jx (fun k W' o' hk => hJ k _ _ none hk (World.grownBy_alloc W' o' none) (fun r e => by cases e)) hY W (Nat.le_trans hn₀ hW.size) hc'
      (fun j hj => ?_) (fun j hj => ?_) (fun j hj => ?_) hs
    · exact (hBW.cell (p := ⟨b, o + j * 3, none⟩) hb').trans (hcs j hj).1
    · exact (hBW.cell (p := ⟨b, o + j * 3 + 1, none⟩) hb').trans (hcs j hj).2.1
    · obtain ⟨A, m, c, hx⟩ := (hcs j hj).2.2
      exact ⟨A, m, c, (hBW.cell (p := ⟨b, o + j * 3 + 2, none⟩) hb').trans hx⟩
end Go.Ab
end
section
namespace Go.Ab
open Go Go.Proofs Go.RowKit Go.Shelf
open Go.Ch
set_option linter.unusedVariables false
set_option linter.unusedSimpArgs false
attribute [local go_sem] Oper.semAt_some

/-- What the first loop checks, pair by pair: where the next paragraph has to begin. -/
def parChk (f : List Elem) (pre : List (Nat × Nat)) : Option Nat :=
  pre.foldl (fun s x => s.bind fun at_ => if x.1 = at_ ∧ x.1 < x.2 ∧ x.2 ≤ f.length ∧ (f.getD (x.2 - 1) default).char = 10 then some x.2 else none) (some 0)
theorem parChk_snoc (f : List Elem) (pre : List (Nat × Nat)) (x : Nat × Nat) : parChk f (pre ++ [x]) = (parChk f pre).bind fun at_ => if x.1 = at_ ∧ x.1 < x.2 ∧ x.2 ≤ f.length ∧ (f.getD (x.2 - 1) default).char = 10 then some x.2 else none := by
  simp [parChk]
theorem parChk_none (f : List Elem) (pre rest : List (Nat × Nat)) (h : parChk f pre = none) : parChk f (pre ++ rest) = none := by
  unfold parChk at h ⊢
  rw [List.foldl_append, h]
  induction rest with
  | nil => rfl
  | cons x rest ih => simpa using ih
theorem parTo_chk (f : List Elem) : ∀ k, k ≤ f.length → parChk f (parTo f k).1 = some (parTo f k).2 ∧ (parTo f k).2 ≤ k
  | 0, _ => ⟨rfl, Nat.le_refl _⟩
  | k + 1, hk => by
    obtain ⟨h1, h2⟩ := parTo_chk f k (by omega)
    by_cases h : (f.getD k default).char = 10 ∧ (f.getD k default).ref = 0
    · rw [parTo_hit h.1 h.2]
      refine ⟨?_, Nat.le_refl _⟩
      simp only [parChk_snoc, h1, Option.bind_some]
      rw [if_pos ⟨trivial, by omega, by omega, by simpa using h.1⟩]
    · rw [parTo_miss h]
      exact ⟨h1, by omega⟩
theorem parTo_all {f : List Elem} (h : flowE f = 0) : (parTo f f.length).2 = f.length ∧ 0 < (parTo f f.length).1.length := by
  obtain ⟨h1, h2, h3⟩ := flowE_ok h
  obtain ⟨k, hk⟩ : ∃ k, f.length = k + 1 := ⟨f.length - 1, by omega⟩
  have hel : elemE (f.getD k default) = 0 := by
    exact (partE_all f f.length 0 (by omega)).1 h1 k (by omega) (by omega)
  have hr : (f.getD k default).ref = 0 := by
    rw [hk] at h3
    simp only [Nat.add_sub_cancel] at h3
    refine Classical.byContradiction fun hz => ?_
    rw [elemE_4 ⟨fun h => by omega, fun h => absurd h hz⟩] at hel
    omega
  rw [hk, parTo_hit (by rw [hk] at h3; simpa using h3) hr]
  simp
set_option maxRecDepth 100000 in
theorem endPar {w W2 : World} {B D D2 : Nat} {v0 : Value} {tmps : Array Value} (ht : tmps.getD 4 undef = .pointer (some ⟨B, 0, none⟩)) (hB : w.heap.size ≤ B) (hb : Boxed W2 B 4 v0) (hD : W2.heap[D]? = some (.deferred (some [])))
    (hD2 : W2.heap[D2]? = some (.deferred (some []))) (hne : D ≠ D2) (hDw : w.heap.size ≤ D) (hD2w : w.heap.size ≤ D2) (hbl : Below w.heap.size w W2) (v : Value) (hv : v = .bool true) :
    bodyPostM Fence.wide 6 Tryd.prog Tryd.f5 (fun e w' => e = .returned (.bool true) ∧ Below w.heap.size w w') .ret { tmps := tmps, defers := [{ target := .collected D2, args := #[] }, { target := .collected D, args := #[] }] } (W2.setCell ⟨B, 0, none⟩ v) := by
  subst hv
  have hk := KeepsOthers.setCell W2 ⟨B, 0, none⟩ (.bool true)
  have h2 := hk.same D2 _ hD2 rfl
  have h1 := hk.same D _ hD rfl
  have h1' : ((W2.setCell ⟨B, 0, none⟩ (.bool true)).putObj D2 (.deferred none)).heap[D]? = some (.deferred (some [])) := (World.putObj_heap_other hne).trans h1
  refine ⟨by simp, .inl ⟨_, _, rfl, run_takeDeferred h2, ?_⟩⟩
  refine ⟨by simp, .inl ⟨_, _, rfl, run_takeDeferred h1', ?_⟩⟩
  have c0 := (hb.set (.bool true)).cell
  have c1 := cell_kept c0 (grownBy_putObj' _ D2 (.deferred none)) (fun r e => by cases e; exact ⟨_, h2, rfl⟩)
  have c2 := cell_kept c1 (grownBy_putObj' _ D (.deferred none)) (fun r e => by cases e; exact ⟨_, h1', rfl⟩)
  refine ⟨.bool true, ?_, rfl, ?_⟩
  · have ht' : tmps[4]?.getD undef = .pointer (some ⟨B, 0, none⟩) := by rw [← ht]; simp
    simp [results, Tryd.f5, go_sem, ht', c2]
  · have q1 : Below w.heap.size w (W2.setCell ⟨B, 0, none⟩ (.bool true)) := hbl.setCell (p := ⟨B, 0, none⟩) hB _
    have q2 := q1.trans (belowK_b (w := w) (Nat.le_refl _) _ D2 _ (.deferred none) hD2w h2 rfl rfl)
    exact q2.trans (belowK_b (w := w) (Nat.le_refl _) _ D _ (.deferred none) hDw h1' rfl rfl)
theorem rangeSkip {P : Program} {F : Fence} {n : Nat} {α : Type} {g : Operand} {ps : Array Tmp} {body : Code} {Q : Exit → Act → World → Prop} {a : Act} {w : World}
    (hro : F.round = none) (h1 : 1 ≤ n) {gf : Nat} {lb : Array Value} (hg : a.eval g = .func (.func gf) #[] lb) (hFg : F.fn gf) (eg : ∀ args w, (callFunc gf args).run P w = .ok (.enter gf args) w)
    {encs : α → Array Value} {Kp : World → World → Prop} {S Sp : List α → Prop} {N : Nat} {w0 : World} (hseq : SeqStopsK F (n - 1) P gf lb encs Kp S Sp N w0)
    (hKt : ∀ {A B C : World}, Kp A B → Kp B C → Kp A C) (hKb : ∀ (W : World) (l : Nat) (o o' : Obj), w.heap.size ≤ l → W.heap[l]? = some o → o.isCells = false → o.isWalk = false → Kp W (W.putObj l o')) (hb0 : Below w0.heap.size w0 w) (hps : ∀ x, (encs x).size = ps.size)
    (I : List α → World → Prop) (Ix : Code → List α → World → Prop) (hI : OwnFrom w.heap.size I) (hIx : ∀ c, OwnFrom w.heap.size (Ix c)) (h0 : I [] w)
    (hbody : ∀ (l : Nat) (pre : List α) (x : α) (W : World), I pre W → pre.length < N → body.wpIn (F.inRound l) (n - 1 - 1) P (ownPostK Kp I Ix (pre ++ [x]) W) { tmps := (ps.zip (encs x)).foldl (fun t (p, v) => t.setIfInBounds p v) a.tmps, defers := [] } W)
    (hdone : ∀ (D : Nat) (xs : List α) (W : World), w.heap.size ≤ D → S xs → I xs W → W.heap[D]? = some (.deferred (some [])) → Q .normal { a with defers := { target := .collected D, args := #[] } :: a.defers } W)
    (hstop : ∀ (D : Nat) (c : Code) (pre : List α) (W : World), w.heap.size ≤ D → Sp pre → Ix c pre W → W.heap[D]? = some (.deferred (some [])) → c.wpIn F n P Q { a with defers := { target := .collected D, args := #[] } :: a.defers } W) :
    (Code.rangeFunc g ps .skip body).wpIn F n P Q a w :=
  wpIn_rangeFunc_ownF hro h1 hg hFg eg hseq (fun h k => hKt h k) hKb hb0 hps I Ix hI hIx h0 (fun x => { tmps := (ps.zip (encs x)).foldl (fun t (p, v) => t.setIfInBounds p v) a.tmps, defers := [] }) (fun l x W K hK => wpIn_skip hK) hbody hdone hstop
theorem boxB {W W' : World} {B t n : Nat} {v : Value} (h : Boxed W B t v) (hb : Below n W W') (hlt : B < n) : Boxed W' B t v := (hb.block B hlt).trans h

set_option maxRecDepth 100000 in
set_option maxHeartbeats 4000000 in
theorem lawPar (f : List Elem) (stop : Int) (a : Option Addr) (cap : Nat) (hlen : f.length ≤ 1048576) (w : World) (hT : TabW Tryd.prog w) (hf : TRep w (fun b => b < w.heap.size) (.lst 3 (f.map elemT)) (.slice a f.length cap)) :
    Calls Tryd.prog 5 #[.slice a f.length cap, .int .i64 stop] w fun e w' => e = .returned (.bool true) ∧ Below w.heap.size w w' := by
  refine (callsIn_wide (n := 6)).1 ?_
  have hflows : ∀ W, Below w.heap.size w W → CallsIn Fence.wide 5 Tryd.prog 6 #[] W fun e w' => e = .returned (.bool true) ∧ Below W.heap.size W w' := fun W hW =>
    callsIn_wide.2 (fc_flows.law (us := []) (hT.below hW (Nat.le_refl _)) rfl (fun i a u ha hu => by cases ha))
  have hcheck : ∀ W, Below w.heap.size w W → CallsIn Fence.wide 5 Tryd.prog 16 #[.slice a f.length cap, .bool true] W fun e w' => e = .returned (.int .i64 (flowE f)) ∧ Below W.heap.size W w' := fun W hW =>
    callsIn_wide.2 ((fc_flowCheck f).law (us := [.slice a f.length cap, .bool true]) (hT.below hW (Nat.le_refl _)) rfl (fun i a u ha hu => by
      match i with
      | 0 => cases ha; cases hu; exact ⟨_, rfl, hf.belowW hW⟩
      | 1 => cases ha; cases hu; exact ⟨_, rfl, .sc _ rfl⟩
      | i + 2 => cases ha))
  have hwithin : ∀ W, Below w.heap.size w W → CallsIn Fence.wide 5 Tryd.prog 11 #[.int .i64 stop, .int .i64 0, .int .i64 5] W fun e w' => e = .returned (.int .i64 (withinI stop 0 5)) ∧ Below W.heap.size W w' := fun W hW =>
    callsIn_wide.2 ((fc_within stop 0 5 (by omega)).law (us := [.int .i64 stop, .int .i64 0, .int .i64 5]) (hT.below hW (Nat.le_refl _)) rfl (fun i a u ha hu => by
      match i with
      | 0 => cases ha; cases hu; exact ⟨_, rfl, .sc _ rfl⟩
      | 1 => cases ha; cases hu; exact ⟨_, rfl, .sc _ rfl⟩
      | 2 => cases ha; cases hu; exact ⟨_, rfl, .sc _ rfl⟩
      | i + 3 => cases ha))
  refine callsIn_of_wp_marks Tryd.func5 rfl trivial ?_ rfl
  simp only [Tryd.ntmps5, List.size_toArray, List.length_cons, List.length_nil, Nat.reduceAdd, Nat.reduceSub, Array.replicate_succ, Array.replicate_zero, List.push_toArray, List.append_toArray, List.nil_append, List.cons_append]
  have hB0 : Below w.heap.size w (((w.alloc (.cells #[.slice a f.length cap] 24)).alloc (.cells #[.int .i64 stop] 3)).alloc (.cells #[.bool false] 4)) :=
    (((Below.refl _ w).alloc (Nat.le_refl _) _).alloc (by simp) _).alloc (by simp; omega) _
  have facts : ∀ w1, Below (((w.alloc (.cells #[.slice a f.length cap] 24)).alloc (.cells #[.int .i64 stop] 3)).alloc (.cells #[.bool false] 4)).heap.size (((w.alloc (.cells #[.slice a f.length cap] 24)).alloc (.cells #[.int .i64 stop] 3)).alloc (.cells #[.bool false] 4)) w1 →
      Boxed w1 w.heap.size 24 (.slice a f.length cap) ∧ Boxed w1 (w.heap.size + 1) 3 (.int .i64 stop) ∧ Boxed w1 (w.heap.size + 1 + 1) 4 (.bool false) ∧ Below w.heap.size w w1 ∧ w.heap.size + 1 + 1 < w1.heap.size := by
    intro w1 hB1
    refine ⟨boxB (((Boxed.new w 24 (.slice a f.length cap)).alloc _).alloc _) hB1 (by simp; omega), ?_, ?_, hB0.trans (hB1.mono (by simp; omega)), by have := hB1.size; simp at this; omega⟩
    · have := Boxed.new (w.alloc (.cells #[.slice a f.length cap] 24)) 3 (.int .i64 stop)
      rw [World.size_alloc] at this
      exact boxB (this.alloc _) hB1 (by simp)
    · have := Boxed.new ((w.alloc (.cells #[.slice a f.length cap] 24)).alloc (.cells #[.int .i64 stop] 3)) 4 (.bool false)
      rw [World.size_alloc, World.size_alloc] at this
      exact boxB this hB1 (by simp)
  gi_wp2_with (first
    | (refine ⟨trivial, ?_⟩; gi_at_call 6; refine (hflows _ hB0).mono ?_; rintro e w1 ⟨rfl, hB1⟩; obtain ⟨b0, b1, b2, hw1, hs1⟩ := facts w1 hB1; have c0 := ((b0.alloc (.cells #[.int .i64 0] 3)).alloc (.cells #[.int .i64 0] 3)).cell; clear hB1 facts)
    | (refine ⟨trivial, ?_⟩; gi_at_call 15; refine (parF_in Fence.wide _ trivial rfl _ _ _ _).mono ?_; rintro e w' ⟨rfl, rfl⟩))
  have szL : (((w1.alloc (.cells #[.int .i64 0] 3)).alloc (.cells #[.int .i64 0] 3)).alloc (.cells #[.slice a f.length cap] 24)).heap.size = w1.heap.size + 3 := by simp
  have bA0 := ((Boxed.new w1 3 (.int .i64 0)).alloc (.cells #[.int .i64 0] 3)).alloc (.cells #[.slice a f.length cap] 24)
  have bN0 := (Boxed.new (w1.alloc (.cells #[.int .i64 0] 3)) 3 (.int .i64 0)).alloc (.cells #[.slice a f.length cap] 24)
  have bC0 := Boxed.new ((w1.alloc (.cells #[.int .i64 0] 3)).alloc (.cells #[.int .i64 0] 3)) 24 (.slice a f.length cap)
  rw [World.size_alloc] at bN0
  rw [World.size_alloc, World.size_alloc] at bC0
  have hBL : Below w1.heap.size w1 (((w1.alloc (.cells #[.int .i64 0] 3)).alloc (.cells #[.int .i64 0] 3)).alloc (.cells #[.slice a f.length cap] 24)) :=
    (((Below.refl _ w1).alloc (Nat.le_refl _) _).alloc (by simp) _).alloc (by simp; omega) _
  generalize hL : ((w1.alloc (.cells #[.int .i64 0] 3)).alloc (.cells #[.int .i64 0] 3)).alloc (.cells #[.slice a f.length cap] 24) = L at *
  have hwL : Below w.heap.size w L := hw1.trans (hBL.mono (by omega))
  refine wpIn_rangeFunc_ownF rfl (by decide) (gf := 26) (lb := #[.pointer (some ⟨w1.heap.size + 1 + 1, 0, none⟩)]) rfl trivial (enters_of Tryd.func26 (by kernel_rfl) rfl)
    (par_stops Fence.wide 5 trivial rfl (by omega) (w1.heap.size + 1 + 1) w1.heap.size a f cap (by omega) L w (by omega) (by omega) bC0.cell (by omega) hf hwL) belowK_t (belowK_b (by omega)) (Below.refl _ _) (fun _ => rfl)
    (fun pre W => Below w1.heap.size w1 W ∧ ∃ at_, parChk f pre = some at_ ∧ Boxed W w1.heap.size 3 (.int .i64 (at_ : Int)) ∧ Boxed W (w1.heap.size + 1) 3 (.int .i64 (pre.length : Int)) ∧ pre.length ≤ f.length)
    (fun c pre W => c = .ret ∧ parChk f pre = none)
    (fun s W W' row hs hg hr => by
      obtain ⟨h1, at_, h2, h3, h4, h5⟩ := hs
      refine ⟨h1.grown hg h1.size (fun k e => by have := (hr k e).1; omega), at_, h2, h3.kept hg ?_, h4.kept hg ?_, h5⟩
      · intro e; have := (hr _ e.symm).1; omega
      · intro e; have := (hr _ e.symm).1; omega)
    (fun c s W W' row hs hg hr => hs)
    ⟨hBL, 0, rfl, bA0, bN0, Nat.zero_le _⟩
    (fun x => { tmps := #[.slice a f.length cap, .int .i64 stop, .pointer (some ⟨w.heap.size, 0, none⟩), .pointer (some ⟨w.heap.size + 1, 0, none⟩), .pointer (some ⟨w.heap.size + 1 + 1, 0, none⟩), .pointer (some ⟨w1.heap.size, 0, none⟩), .pointer (some ⟨w1.heap.size + 1, 0, none⟩), .int .i64 (x.1 : Int), .int .i64 (x.2 : Int), undef, .bool true, .bool false, .slice a f.length cap, .func (.func 26) #[] #[.pointer (some ⟨w1.heap.size + 1 + 1, 0, none⟩)], .int .i64 (x.1 : Int), .int .i64 (x.2 : Int), undef, undef, undef, undef, undef, undef, undef, undef, undef, undef, undef, undef, undef, undef, undef, undef, undef, undef, undef, undef, undef, undef, undef, undef, undef, undef, undef, undef, undef, undef, undef, undef, undef, undef, undef, undef, undef, undef, undef, undef, undef, undef, undef, undef, undef, undef, undef, undef, undef, undef, undef, undef, undef, undef, undef, undef], defers := [] }) ?assign ?body ?done ?stop
  case assign =>
    intro l x W K hK
    gi_wp2
    exact hK
  case body =>
    rintro l pre x W ⟨hBW, at_, hch, bA, bN, hl⟩ hlen
    have cA := bA.cell
    have cN := bN.cell
    have fA := bA.frozen
    have fN := bN.frozen
    have cF := (boxB b0 hBW (by omega)).cell
    have cT := (boxB b2 hBW (by omega)).cell
    have fT := (boxB b2 hBW (by omega)).frozen
    obtain ⟨x1, x2⟩ := x
    have hbad : ¬ (x1 = at_ ∧ x1 < x2 ∧ x2 ≤ f.length ∧ (f.getD (x2 - 1) default).char = 10) → parChk f (pre ++ [(x1, x2)]) = none := fun h => by
      rw [parChk_snoc, hch, Option.bind_some]
      exact if_neg h
    by_cases e1 : x1 = at_
    · by_cases e2 : x1 < x2
      · by_cases e3 : x2 ≤ f.length
        · obtain ⟨k, rfl⟩ : ∃ k, x2 = k + 1 := ⟨x2 - 1, by omega⟩
          have hne : f ≠ [] := fun e => by subst e; simp at e3
          obtain ⟨b, o, hab, hb, hcs⟩ := (flow_cells hf).2.2 hne
          have hb' : b < w1.heap.size := Nat.lt_of_lt_of_le hb hw1.size
          have ck := ((hw1.trans (hBW.mono (Nat.le_of_lt (by omega : w.heap.size < w1.heap.size)))).cell (p := ⟨b, o + k * 3, none⟩) hb).trans (hcs k (by omega)).1
          subst hab
          subst e1
          by_cases e4 : (f.getD k default).char = 10
          · rw [e4] at ck
            gi_wp2
            refine ⟨(KeepsOthers.setCell _ _ _).trans (KeepsOthers.setCell _ _ _), ((Below.refl _ W).setCell (p := ⟨w1.heap.size, 0, none⟩) (Nat.le_refl _) _).setCell (p := ⟨w1.heap.size + 1, 0, none⟩) (by simp) _,
              (hBW.setCell (p := ⟨w1.heap.size, 0, none⟩) (Nat.le_refl _) _).setCell (p := ⟨w1.heap.size + 1, 0, none⟩) (by simp) _, k + 1, ?_, ?_, ?_, by simp; omega⟩
            · rw [parChk_snoc, hch, Option.bind_some]
              exact if_pos ⟨rfl, e2, e3, e4⟩
            · exact (bA.set _).kept (grownBy_setCell' _ (w1.heap.size + 1) _) (by simp)
            · simp only [List.length_append, List.length_cons, List.length_nil]
              exact Boxed.set _ (bN.kept (grownBy_setCell' _ w1.heap.size _) (by simp))
          · generalize hce : (f.getD k default).char = ce at *
            gi_wp2
            · exact ⟨KeepsOthers.setCell _ _ _, rfl, hbad (fun h => e4 (hce.symm.trans h.2.2.2))⟩
            · rename_i hh; exact absurd (by simpa using hh.2) e4
        · gi_wp2
          exact ⟨KeepsOthers.setCell _ _ _, rfl, hbad (fun h => e3 h.2.2.1)⟩
      · gi_wp2
        exact ⟨KeepsOthers.setCell _ _ _, rfl, hbad (fun h => e2 h.2.1)⟩
    · gi_wp2
      exact ⟨KeepsOthers.setCell _ _ _, rfl, hbad (fun h => e1 h.1)⟩
  case done =>
    rintro D xs W hD rfl ⟨hBW, at_, hch, bA, bN, hl⟩ hK
    obtain rfl : (parTo f f.length).2 = at_ := Option.some.inj ((parTo_chk f f.length (Nat.le_refl _)).1.symm.trans hch)
    have cA := bA.cell
    have cN := bN.cell
    have cF := (boxB b0 hBW (by omega)).cell
    have hwW : Below w.heap.size w W := hw1.trans (hBW.mono (by omega))
    generalize hpl : (parTo f f.length).1.length = pn at *
    generalize hpa : (parTo f f.length).2 = pa at *
    have hall : flowE f = 0 → pa = f.length ∧ 0 < pn := fun h => by have := parTo_all h; rwa [hpl, hpa] at this
    have facts2 : ∀ w2, Below W.heap.size W w2 → Boxed w2 (w.heap.size) 24 (.slice a f.length cap) ∧ Boxed w2 (w.heap.size + 1) 3 (.int .i64 stop) ∧ Boxed w2 (w.heap.size + 1 + 1) 4 (.bool false) ∧ Boxed w2 w1.heap.size 3 (.int .i64 (pa : Int)) ∧ Boxed w2 (w1.heap.size + 1) 3 (.int .i64 (pn : Int)) ∧
        Below w.heap.size w w2 ∧ w2.heap[D]? = some (.deferred (some [])) := fun w2 hB2 => by
      have hs := hBW.size
      exact ⟨boxB (boxB b0 hBW (by omega)) hB2 (by omega), boxB (boxB b1 hBW (by omega)) hB2 (by omega), boxB (boxB b2 hBW (by omega)) hB2 (by omega), boxB bA hB2 bA.lt, boxB bN hB2 bN.lt, hwW.trans (hB2.mono hwW.size),
        (hB2.block D (Array.getElem?_eq_some_iff.1 hK).1).trans hK⟩
    have hlen1 : w1.heap.size + 1 < W.heap.size := bN.lt
    have hDW := (Array.getElem?_eq_some_iff.1 hK).1
    clear b0 b1 b2 bA0 bN0 bC0 hBL hwL
    gi_wp2_with (first
      | (refine ⟨trivial, ?_⟩; gi_at_call 16; refine (hcheck _ hwW).mono ?_; rintro e w2 ⟨rfl, hB2⟩
         have hs2 := hB2.size
         obtain ⟨b0, b1, b2, bA, bN, hw2, hK2⟩ := facts2 w2 hB2
         clear facts2 hB2 hBW
         have c0 := b0.cell
         have c1 := b1.cell
         have c2 := b2.cell
         have cA2 := bA.cell
         have cN2 := bN.cell)
      | (refine ⟨trivial, ?_⟩; gi_at_call 11; refine (hwithin _ hw2).mono ?_; rintro e w3 ⟨rfl, hB3⟩
         have hs3 := hB3.size
         have d0 := boxB b0 hB3 b0.lt
         have d1 := boxB b1 hB3 b1.lt
         have d2 := boxB b2 hB3 b2.lt
         have dA := boxB bA hB3 bA.lt
         have dN := boxB bN hB3 bN.lt
         have hw3 : Below w.heap.size w w3 := hw2.trans (hB3.mono hw2.size)
         have hK3 := (hB3.block D (Array.getElem?_eq_some_iff.1 hK2).1).trans hK2
         clear hB3 b0 b1 b2 bA bN hw2 hK2 c0 c1 c2 cA2 cN2 cA cN cF
         have q0 := ((d0.kept (grownBy_setCell' w3 (w.heap.size + 1) (.int .i64 (withinI stop 0 5))) (by simp)).alloc (.cells #[.int .i64 0] 3)).cell
         have q1 := d1.cell
         have qf := d1.frozen)
      | (refine ⟨trivial, ?_⟩; gi_at_call 15; refine (parF_in Fence.wide _ trivial rfl _ _ _ _).mono ?_; rintro e w' ⟨rfl, rfl⟩))
    all_goals (
      have hz3 : (w3.setCell ⟨w.heap.size + 1, 0, none⟩ (.int .i64 (withinI stop 0 5))).heap.size = w3.heap.size := by simp
      generalize hw4 : w3.setCell ⟨w.heap.size + 1, 0, none⟩ (.int .i64 (withinI stop 0 5)) = w4 at *
      have hB34 : Below (w.heap.size + 1) w3 w4 := by rw [← hw4]; exact (Below.refl _ w3).setCell (p := ⟨w.heap.size + 1, 0, none⟩) (Nat.le_refl _) _
      have d1' : Boxed w4 (w.heap.size + 1) 3 (.int .i64 (withinI stop 0 5)) := by rw [← hw4]; exact d1.set _
      have d2' : Boxed w4 (w.heap.size + 1 + 1) 4 (.bool false) := by rw [← hw4]; exact d2.kept (grownBy_setCell' w3 (w.heap.size + 1) _) (by simp)
      have dN' : Boxed w4 (w1.heap.size + 1) 3 (.int .i64 (pn : Int)) := by rw [← hw4]; exact dN.kept (grownBy_setCell' w3 (w.heap.size + 1) _) (by simp; omega)
      have hK4 : w4.heap[D]? = some (.deferred (some [])) := by rw [← hw4]; exact ((grownBy_setCell' w3 (w.heap.size + 1) _).block D (Array.getElem?_eq_some_iff.1 hK3).1 (by simp; omega)).trans hK3
      have hww4 : Below w.heap.size w w4 := hw3.trans (hB34.mono (by omega))
      have bK2 := (Boxed.new w4 3 (.int .i64 0)).alloc (.cells #[.slice a f.length cap] 24)
      have bC2 := Boxed.new (w4.alloc (.cells #[.int .i64 0] 3)) 24 (.slice a f.length cap)
      rw [World.size_alloc] at bC2
      have hB4 : Below w4.heap.size w4 ((w4.alloc (.cells #[.int .i64 0] 3)).alloc (.cells #[.slice a f.length cap] 24)) := ((Below.refl _ w4).alloc (Nat.le_refl _) _).alloc (by simp) _
      have szL2 : ((w4.alloc (.cells #[.int .i64 0] 3)).alloc (.cells #[.slice a f.length cap] 24)).heap.size = w4.heap.size + 1 + 1 := by simp
      rw [hz3] at bK2 bC2 hB4 szL2
      generalize hL2 : (w4.alloc (.cells #[.int .i64 0] 3)).alloc (.cells #[.slice a f.length cap] 24) = L2 at *
      have hwL2 : Below w.heap.size w L2 := hww4.trans (hB4.mono (by omega))
      have hs0 := (withinI_bd stop (lo := 0) (hi := 5) (by omega)).1
      have hs5 := (withinI_bd stop (lo := 0) (hi := 5) (by omega)).2

      refine rangeSkip rfl (by decide) (gf := 26) (lb := #[.pointer (some ⟨w3.heap.size + 1, 0, none⟩)]) rfl trivial (enters_of Tryd.func26 (by kernel_rfl) rfl)
        (par_stops Fence.wide 5 trivial rfl (by omega) (w3.heap.size + 1) w3.heap.size a f cap (by omega) L2 w (by omega) (by omega) bC2.cell (by omega) hf hwL2) belowK_t (belowK_b (by omega)) (Below.refl _ _) (fun _ => rfl)
        (fun pre W => Below w3.heap.size w4 W ∧ Boxed W w3.heap.size 3 (.int .i64 (pre.length : Int)) ∧ (pre.length : Int) ≤ withinI stop 0 5)
        (fun c pre W => c = .exit 2 ∧ Below w3.heap.size w4 W ∧ Boxed W w3.heap.size 3 (.int .i64 (pre.length : Int)) ∧ (pre.length : Int) = withinI stop 0 5 + 1)
        (fun s W W' row hs hg hr => by
          obtain ⟨h1, h2, h3⟩ := hs
          refine ⟨h1.grown hg (by have := h1.size; omega) (fun k e => by have := (hr k e).1; omega), h2.kept hg ?_, h3⟩
          intro e; have := (hr _ e.symm).1; omega)
        (fun c s W W' row hs hg hr => by
          obtain ⟨h0, h1, h2, h3⟩ := hs
          refine ⟨h0, h1.grown hg (by have := h1.size; omega) (fun k e => by have := (hr k e).1; omega), h2.kept hg ?_, h3⟩
          intro e; have := (hr _ e.symm).1; omega)
        ⟨hB4, bK2, by simpa using hs0⟩ ?body2 ?done2 ?stop2
      case body2 =>
        rintro l pre x W2 ⟨hBW2, bK, hle⟩ hlen2
        have cK := bK.cell
        have fK := bK.frozen
        have cS := (boxB d1' hBW2 (by omega)).cell
        gi_wp2
        · refine ⟨KeepsOthers.setCell _ _ _, rfl, hBW2.setCell (p := ⟨w3.heap.size, 0, none⟩) (Nat.le_refl _) _, ?_, ?_⟩
          · simp only [List.length_append, List.length_cons, List.length_nil]; exact bK.set _
          · simp only [List.length_append, List.length_cons, List.length_nil]; omega
        · refine ⟨KeepsOthers.setCell _ _ _, (Below.refl _ W2).setCell (p := ⟨w3.heap.size, 0, none⟩) (Nat.le_refl _) _, hBW2.setCell (p := ⟨w3.heap.size, 0, none⟩) (Nat.le_refl _) _, ?_, ?_⟩
          · simp only [List.length_append, List.length_cons, List.length_nil]; exact bK.set _
          · simp only [List.length_append, List.length_cons, List.length_nil]; omega
      case done2 =>
        rintro D2 xs W2 hD2 rfl ⟨hBW2, bK, hle⟩ hKD
        rw [hpl] at bK hle
        have e0 := bK.cell
        have e1 := (boxB dN' hBW2 (by omega)).cell
        have e2 := (boxB d1' hBW2 (by omega)).cell
        have e3 := (boxB d2' hBW2 (by omega)).cell
        have e4 := (boxB d2' hBW2 (by omega)).frozen
        gi_wp2
        exact endPar rfl (by omega) (boxB d2' hBW2 (by omega)) ((hBW2.block D (by omega)).trans hK4) hKD (by omega) (by omega) (by omega) (hww4.trans (hBW2.mono (by omega))) _ (congrArg Value.bool (beq_iff_eq.2 (by omega)))
      case stop2 =>
        rintro D2 c pre W2 hD2 hp ⟨rfl, hBW2, bK, hle⟩ hKD
        have hpre := hp.length_le
        rw [hpl] at hpre
        have e0 := bK.cell
        have e1 := (boxB dN' hBW2 (by omega)).cell
        have e2 := (boxB d1' hBW2 (by omega)).cell
        have e3 := (boxB d2' hBW2 (by omega)).cell
        have e4 := (boxB d2' hBW2 (by omega)).frozen
        gi_wp2
        exact endPar rfl (by omega) (boxB d2' hBW2 (by omega)) ((hBW2.block D (by omega)).trans hK4) hKD (by omega) (by omega) (by omega) (hww4.trans (hBW2.mono (by omega))) _ (congrArg Value.bool (beq_iff_eq.2 (by omega))))
  case stop =>
    rintro D c pre W hD hp ⟨rfl, hn⟩ hK
    obtain ⟨rest, hr⟩ := hp
    have := (parTo_chk f f.length (Nat.le_refl _)).1
    rw [← hr, parChk_none _ _ _ hn] at this
    cases this
end Go.Ab
end
section
namespace Go.Proofs
open Go.Shelf
def Tryd.lays278_ren : Go.Shelf.Ren := ⟨fun | 278 => 29 | n => n, fun | 37 => 48 | 21 => 21 | 51 => 57 | 4 => 4 | 46 => 61 | 5 => 5 | n => n, fun | n => n⟩
def Tryd.lays242_ren : Go.Shelf.Ren := ⟨fun | 242 => 21 | 278 => 29 | n => n, fun | 37 => 48 | 21 => 21 | 51 => 57 | 4 => 4 | 5 => 5 | 46 => 61 | n => n, fun | n => n⟩
def Tryd.lays197_ren : Go.Shelf.Ren := ⟨fun | 197 => 19 | 260 => 28 | n => n, fun | 9 => 9 | 21 => 21 | 3 => 3 | 4 => 4 | 5 => 5 | 105 => 45 | 119 => 60 | 0 => 0 | 46 => 61 | 139 => 64 | 138 => 63 | n => n, fun | 3 => 0 | 4 => 1 | n => n⟩
def Tryd.lays260_ren : Go.Shelf.Ren := ⟨fun | 260 => 28 | n => n, fun | 9 => 9 | 21 => 21 | 3 => 3 | 4 => 4 | 5 => 5 | 119 => 60 | 0 => 0 | 46 => 61 | 139 => 64 | 138 => 63 | n => n, fun | 3 => 0 | 4 => 1 | n => n⟩
theorem Tryd.lays260 : Go.Proofs.Lays.n260 Tryd.prog Tryd.lays260_ren := {
  mixed := by kernel_rfl
  f260 := Tryd.func28.trans (congrArg some (by kernel_rfl))
  t0 := Tryd.underlying0
  a0 := Tryd.isAgg0
  z0 := Tryd.sizeOf0
  v0 := Tryd.zeroValue0
  t3 := Tryd.underlying3
  a3 := Tryd.isAgg3
  z3 := Tryd.sizeOf3
  v3 := Tryd.zeroValue3
  t4 := Tryd.underlying4
  a4 := Tryd.isAgg4
  z4 := Tryd.sizeOf4
  v4 := Tryd.zeroValue4
  t5 := Tryd.underlying5
  a5 := Tryd.isAgg5
  z5 := Tryd.sizeOf5
  v5 := Tryd.zeroValue5
  t9 := Tryd.underlying9
  a9 := Tryd.isAgg9
  z9 := Tryd.sizeOf9
  v9 := Tryd.zeroValue9
  t21 := Tryd.underlying21
  a21 := Tryd.isAgg21
  z21 := Tryd.sizeOf21
  v21 := Tryd.zeroValue21
  t46 := Tryd.underlying61
  a46 := Tryd.isAgg61
  z46 := Tryd.sizeOf61
  v46 := Tryd.zeroValue61
  t119 := Tryd.underlying60
  a119 := Tryd.isAgg60
  z119 := Tryd.sizeOf60
  t138 := Tryd.underlying63
  a138 := Tryd.isAgg63
  z138 := Tryd.sizeOf63
  v138 := Tryd.zeroValue63
  t139 := Tryd.underlying64
  a139 := Tryd.isAgg64
  z139 := Tryd.sizeOf64
  v139 := Tryd.zeroValue64
  g3 := by kernel_rfl
  g4 := by kernel_rfl }
end Go.Proofs
end
section
set_option linter.unusedVariables false
namespace Go.Ab
open Go Go.Proofs.YtbdbibmbfmlobaaDoor
variable {P : Program} {W : World}

def RdM (P : Program) (t : TypeId) (k : Nat) {α : Type} (f : α → Tree) (μ : α → Nat) : Prop :=
  (∀ a, Elt k (f a)) ∧ P.cellsOf t = k ∧ ∀ (H : Type) (enc : TypeId × Value → H) (W : World) (fuel : Nat) (cs : List Value) (x : DataW H × List MemPlace),
    DataW.trod enc P W 0 (fun _ => true) true fuel t cs = some x → ∃ a : α, CellsR W (f a).cells cs ∧ μ a ≤ Rows.uptoBulk x.1

theorem bulk_pos {H : Type} (d : DataW H) : 1 ≤ Rows.uptoBulk d := by
  cases d with
  | lit l => cases l <;> simp [Rows.uptoBulk]
  | _ => simp [Rows.uptoBulk]

theorem RdM.int {t : TypeId} {k : IntKind} (ht : P.underlying t = some (.int k)) (hc : P.cellsOf t = 1) : RdM P t 1 (fun z : Int => .sc (.int k z)) (fun _ => 1) := by
  refine ⟨fun _ => elt1, hc, fun H enc W fuel cs x h => ?_⟩
  obtain ⟨n, rfl, _, _⟩ := DataW.trod_int ht h
  exact ⟨n, cells1 rfl (.sc _ rfl), bulk_pos _⟩
/-- An integer with its bounds. -/
theorem RdM.i64 {t : TypeId} (ht : P.underlying t = some (.int .i64)) (hc : P.cellsOf t = 1) : RdM P t 1 (fun z : { z : Int // -9223372036854775808 ≤ z ∧ z ≤ 9223372036854775807 } => .sc (.int .i64 z.1)) (fun _ => 1) := by
  refine ⟨fun _ => elt1, hc, fun H enc W fuel cs x h => ?_⟩
  obtain ⟨n, rfl, _, hw⟩ := DataW.trod_int ht h
  exact ⟨⟨n, by simpa [Lit.wf, IntKind.min, IntKind.max, IntKind.signed, IntKind.bits] using hw⟩, cells1 rfl (.sc _ rfl), bulk_pos _⟩
theorem RdM.bool {t : TypeId} (ht : P.underlying t = some .bool) (hc : P.cellsOf t = 1) : RdM P t 1 (fun b : Bool => .sc (.bool b)) (fun _ => 1) := by
  refine ⟨fun _ => elt1, hc, fun H enc W fuel cs x h => ?_⟩
  obtain ⟨n, rfl, _⟩ := DataW.trod_bool ht h
  exact ⟨n, cells1 rfl (.sc _ rfl), bulk_pos _⟩
theorem RdM.str {t : TypeId} (ht : P.underlying t = some .string) (hc : P.cellsOf t = 1) : RdM P t 1 (fun s : ByteArray => .sc (.string s)) (fun s => s.size + 1) := by
  refine ⟨fun _ => elt1, hc, fun H enc W fuel cs x h => ?_⟩
  obtain ⟨n, rfl, rfl, _⟩ := DataW.trod_string ht h
  exact ⟨n, cells1 rfl (.sc _ rfl), by simp [Rows.uptoBulk]⟩

theorem sum_le {α H : Type} {μ : α → Nat} : ∀ {l : List α} {es : List (DataW H)}, l.length = es.length → (∀ (i : Nat) (a : α) (d : DataW H), l[i]? = some a → es[i]? = some d → μ a ≤ Rows.uptoBulk d) → (l.map μ).sum ≤ Rows.uptoBulkAll es
  | [], es, _, _ => by simp
  | a :: l, [], h, _ => by simp at h
  | a :: l, d :: es, h, hi => by
    have h0 := hi 0 a d rfl rfl
    have ih := sum_le (l := l) (es := es) (by simpa using h) (fun i a' d' h1 h2 => hi (i + 1) a' d' (by simpa using h1) (by simpa using h2))
    simp only [List.map_cons, List.sum_cons, Rows.uptoBulkAll]
    omega

theorem RdM.slice {t e : TypeId} {k : Nat} {α : Type} {f : α → Tree} {μ : α → Nat} (ht : P.underlying t = some (.slice e)) (hk : 0 < k) (hc : P.cellsOf t = 1) (he : RdM P e k f μ) : RdM P t 1 (fun l : List α => .lst k (l.map f)) (fun l => (l.map μ).sum + 1) := by
  obtain ⟨h1, h2, h3⟩ := he
  refine ⟨fun l => ⟨rfl, fun T hT => by simp [Tree.cells] at hT; subst hT; rfl⟩, hc, fun H enc W fuel cs x h => ?_⟩
  have hx : ∀ l : List α, ∀ x ∈ l.map f, Elt k x := fun l x hx => by
    obtain ⟨a, _, rfl⟩ := List.mem_map.1 hx
    exact h1 a
  rcases DataW.trod_slice ht h with ⟨rfl, hx0⟩ | ⟨a, len, cap, elems, rest, n, _, rfl, hxe, hb, hl, hm, hlen, hel, _, _⟩
  · refine ⟨[], cells1 rfl (.lst k [] none 0 [] hk (fun x hx => by simp at hx) (Nat.le_refl _) (by simp [maxLen]) (fun h => absurd rfl h) (by simp) (fun j T u hT => by simp [flat] at hT)), ?_⟩
    exact bulk_pos _
  · have key : ∀ i, i < len → ∃ y : α, (∃ cs', cs'.length = k ∧ (∀ r, r < k → W.cell? (a.add (i * k + r)) = cs'[r]?) ∧ CellsR W (f y).cells cs') ∧ ∀ d, (elems.map (·.1))[i]? = some d → μ y ≤ Rows.uptoBulk d := by
      intro i hi
      have h4 := hel i hi
      have h5 : elems[i]? = some elems[i] := by rw [List.getElem?_eq_getElem (by omega)]
      rw [h5, h2] at h4
      obtain ⟨cs', h6, h7⟩ := Option.bind_eq_some_iff.1 h4
      obtain ⟨q1, q2, q3⟩ := World.cells?_some h6
      obtain ⟨y, hy, hμ⟩ := h3 H enc W n cs' _ h7
      refine ⟨y, ⟨cs', q2, fun r hr => ?_, hy⟩, fun d hd => ?_⟩
      · rw [← q3 r hr]
        rw [Addr.add_add]
      · rw [List.getElem?_map, h5] at hd
        simp only [Option.map_some, Option.some.injEq] at hd
        subst hd; exact hμ
    obtain ⟨l, hl1, hl2'⟩ := list_of len _ key
    have hl2 := fun i a h => (hl2' i a h).1
    have hspot : l ≠ [] → ∃ u, W.cell? a = some u := by
      intro hne
      have h0 : 0 < len := by rw [← hl1]; exact List.length_pos_iff.2 hne
      obtain ⟨cs', c1, c2, c3⟩ := hl2 0 l[0] (by rw [List.getElem?_eq_getElem (by omega)])
      have := c2 0 hk
      simp only [Nat.zero_mul, Nat.add_zero] at this
      rw [List.getElem?_eq_getElem (by omega)] at this
      have e : a.add 0 = a := by simp [Addr.add]
      rw [e] at this
      exact ⟨_, this⟩
    refine ⟨l, cells1 rfl ?_, ?_⟩
    rotate_left
    · rw [hxe]
      simp only [Rows.uptoBulk]
      have := sum_le (μ := μ) (l := l) (es := elems.map (·.1)) (by simp [hl1, hlen]) (fun i y d h1 h2 => (hl2' i y h1).2 d h2)
      omega
    have hget : ∀ j, j < len * k → ∃ u, W.cell? (a.add j) = some u ∧ ∀ T, (flat (l.map f))[j]? = some T → TRep W (fun b => b < W.heap.size) T u := by
      intro j hj
      have hi : j / k < len := Nat.div_lt_of_lt_mul (by rw [Nat.mul_comm]; exact hj)
      have hr : j % k < k := Nat.mod_lt _ hk
      have hji : j = j / k * k + j % k := by rw [Nat.mul_comm]; exact (Nat.div_add_mod j k).symm
      obtain ⟨cs', c1, c2, c3⟩ := hl2 (j / k) l[j / k] (by rw [List.getElem?_eq_getElem (by omega)])
      have c4 := c2 (j % k) hr
      rw [← hji, List.getElem?_eq_getElem (by omega)] at c4
      refine ⟨_, c4, fun T hT => ?_⟩
      rw [hji, flat_get (hx l) (i := j / k) (X := f l[j / k]) (by simp [List.getElem?_eq_getElem (show j / k < l.length by omega)]) hr] at hT
      exact c3.2 (j % k) T _ hT (by rw [List.getElem?_eq_getElem (by omega)])
    obtain ⟨us, hu1, hu2⟩ := list_of (len * k) _ hget
    have hlm : (l.map f).length = len := by simp [hl1]
    have := TRep.lst (w := W) (ok := fun b => b < W.heap.size) k (l.map f) (some a) cap us hk (hx l) (by omega) hm (fun hne => ?_) (by rw [hlm]; exact hu1) (fun j T u hT hu => (hu2 j u hu).2 T hT)
    · rw [hlm] at this; exact this
    · obtain ⟨u, hu⟩ := hspot (fun e => hne (by rw [e]; rfl))
      have hs := World.cell?_spot hu
      obtain ⟨b, o, sp⟩ := a
      simp only at hs
      subst hs
      refine ⟨b, o, rfl, ?_, fun j u hj => ?_⟩
      · simp only [World.cell?] at hu
        by_cases hb : b < W.heap.size
        · exact hb
        · rw [Array.getElem?_eq_none (by omega)] at hu; simp at hu
      · have := (hu2 j u hj).1
        rw [add_lit'] at this
        exact this

theorem RdM.map {t : TypeId} {k : Nat} {α β : Type} {f : α → Tree} {μ : α → Nat} {f' : β → Tree} {μ' : β → Nat} (h : RdM P t k f μ) (g : α → β) (hf : ∀ a, f' (g a) = f a) (hm : ∀ a, μ' (g a) ≤ μ a) (he : ∀ b, Elt k (f' b)) : RdM P t k f' μ' := by
  obtain ⟨h1, h2, h3⟩ := h
  refine ⟨he, h2, fun H enc W fuel cs x hx => ?_⟩
  obtain ⟨a, ha, hb⟩ := h3 H enc W fuel cs x hx
  exact ⟨g a, by rw [hf]; exact ha, Nat.le_trans (hm a) hb⟩

/-- The fields of a struct, from a cell on. -/
def RdFM (P : Program) (off : Nat) (fs : List Field) (k : Nat) {β : Type} (g : β → List Tree) (μ : β → Nat) : Prop :=
  (∀ b, (g b).length = k ∧ ∀ T ∈ g b, T.isCell = true) ∧ ∀ (H : Type) (enc : TypeId × Value → H) (W : World) (n : Nat) (cs : List Value) (ys : List (DataW H × List MemPlace)),
    ys.length = fs.length → (∀ (i : Nat) (f : Field), fs[i]? = some f → DataW.trod enc P W 0 (fun _ => true) true n f.type ((cs.drop f.offset).take (P.cellsOf f.type)) = ys[i]?) →
    ∃ b : β, (∀ (j : Nat) (T : Tree) (u : Value), (g b)[j]? = some T → cs[off + j]? = some u → TRep W (fun b => b < W.heap.size) T u) ∧ μ b ≤ Rows.uptoBulkAll (ys.map (·.1))
theorem RdFM.nil {off : Nat} : RdFM P off [] 0 (fun _ : Unit => []) (fun _ => 0) :=
  ⟨fun _ => ⟨rfl, fun T hT => by simp at hT⟩, fun H enc W n cs ys h1 h2 => ⟨(), fun j T u hT => by simp at hT, Nat.zero_le _⟩⟩
theorem RdFM.cons {off : Nat} {f : Field} {fs : List Field} {k1 k2 : Nat} {α β : Type} {f1 : α → Tree} {μ1 : α → Nat} {g2 : β → List Tree} {μ2 : β → Nat} (ho : f.offset = off) (h : RdM P f.type k1 f1 μ1) (hs : RdFM P (off + k1) fs k2 g2 μ2) : RdFM P off (f :: fs) (k1 + k2) (fun p : α × β => (f1 p.1).cells ++ g2 p.2) (fun p => μ1 p.1 + μ2 p.2) := by
  obtain ⟨h1, h2, h3⟩ := h
  obtain ⟨s1, s2⟩ := hs
  refine ⟨fun p => ⟨by rw [List.length_append, (h1 p.1).1, (s1 p.2).1], fun T hT => ?_⟩, fun H enc W n cs ys hl hy => ?_⟩
  · rcases List.mem_append.1 hT with hT | hT
    · exact (h1 p.1).2 T hT
    · exact (s1 p.2).2 T hT
  · cases ys with
    | nil => simp at hl
    | cons y ys =>
      have e0 := hy 0 f rfl
      simp only [List.getElem?_cons_zero, ho, h2] at e0
      obtain ⟨a, ⟨ha1, ha2⟩, ha3⟩ := h3 H enc W n _ _ e0
      obtain ⟨b, hb, hb3⟩ := s2 H enc W n cs ys (by simpa using hl) (fun i f' hf => by simpa using hy (i + 1) f' (by simpa using hf))
      refine ⟨(a, b), fun j T u hT hu => ?_, by simp only [List.map_cons, Rows.uptoBulkAll]; omega⟩
      by_cases hj : j < (f1 a).cells.length
      · rw [List.getElem?_append_left hj] at hT
        have hk : j < k1 := by rw [(h1 a).1] at hj; exact hj
        refine ha2 j T u hT ?_
        rw [List.getElem?_take, if_pos hk, List.getElem?_drop]
        exact hu
      · rw [List.getElem?_append_right (by show (f1 a).cells.length ≤ j; omega)] at hT
        rw [(h1 a).1] at hj hT
        refine hb (j - k1) T u hT ?_
        rw [← hu]; congr 1; omega
theorem RdM.struct {t : TypeId} {fs : Array Field} {k : Nat} {β : Type} {g : β → List Tree} {μ : β → Nat} (ht : P.underlying t = some (.struct fs)) (hc : P.cellsOf t = k) (h : RdFM P 0 fs.toList k g μ) : RdM P t k (fun b => .agg (g b)) (fun b => μ b + 1) := by
  obtain ⟨s1, s2⟩ := h
  refine ⟨fun b => s1 b, hc, fun H enc W fuel cs x hx => ?_⟩
  obtain ⟨xs, n, _, hxe, hl, hlen, hf⟩ := DataW.trod_struct ht hx
  obtain ⟨b, hb, hμ⟩ := s2 H enc W n cs xs (by simpa using hlen) (fun i f hi => hf i f (by simpa using hi))
  refine ⟨b, ⟨by rw [hl, hc]; exact (s1 b).1.symm, fun j T u hT hu => hb j T u hT (by simpa using hu)⟩, ?_⟩
  rw [hxe]; simp only [Rows.uptoBulk]; omega

/-- A one-cell argument. -/
theorem RdM.arg {t : TypeId} {α : Type} {f : α → Tree} {μ : α → Nat} (h : RdM P t 1 f μ) (h1 : ∀ a, (f a).isCell = true) {H : Type} {enc : TypeId × Value → H} {v : Value} {d : DataW H} {ps : List MemPlace} (hd : DataW.Trod enc P W 0 (fun _ => true) true t v d ps) (hv : v.cells.toList = [v]) :
    ∃ a, TRep W (fun b => b < W.heap.size) (f a) v ∧ μ a ≤ Rows.uptoBulk d := by
  obtain ⟨fuel, hf⟩ := hd
  obtain ⟨a, ⟨c1, c2⟩, c3⟩ := h.2.2 H enc W fuel _ _ hf
  refine ⟨a, c2 0 _ _ ?_ (by rw [hv]; rfl), c3⟩
  cases hfa : f a with
  | agg cs => have := h1 a; rw [hfa] at this; cases this
  | sc v => rfl
  | lst k xs => rfl
theorem bulk_bound {H : Type} {l : List (DataW H)} (hk : Rows.uptoSmall H l = true) : Rows.uptoBulkAll l ≤ 1048576 := of_decide_eq_true hk
theorem sum_mem {α : Type} {μ : α → Nat} {l : List α} {a : α} (h : a ∈ l) : μ a ≤ (l.map μ).sum := by
  induction l with
  | nil => cases h
  | cons b l ih =>
    simp only [List.map_cons, List.sum_cons]
    rcases List.mem_cons.1 h with rfl | h
    · omega
    · have := ih h; omega
theorem sum_len {α : Type} {μ : α → Nat} (hμ : ∀ a, 1 ≤ μ a) (l : List α) : l.length ≤ (l.map μ).sum := by
  induction l with
  | nil => simp
  | cons b l ih => have := hμ b; simp only [List.map_cons, List.sum_cons, List.length_cons]; omega
end Go.Ab
end
