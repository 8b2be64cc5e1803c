/- The oracles of the operations, each with the one thing that is asked. -/
import Derived.Test.YtbdbibmbfmlobaaDoorM1
import Derived.Test.YtbdbibmbfmlobaaDoorM2
import Derived.Test.YtbdbibmbfmlobaaDoorM3
import Derived.Test.YtbdbibmbfmlobaaDoorProg
import Derived.Shelf.Utf8.AppendRune
import Derived.Shelf.Utf8.AppendRunePlain
import Derived.Shelf.Unicode.Decode
import Derived.Shelf.Unicode.DecodeSlow
import Derived.Shelf.Unicode.DecodeAny
import Derived.Lib.TrimUEq
import Derived.Lib.QuoteLoop
section
set_option linter.unusedVariables false
namespace Go.Ab
open Go
variable {P : Program}

structure Px (p : Prop) where
  o : Orc
  cs : List Prop
  h : p → All cs
def gdC (e : Bool) : List Prop → List Prop
  | [] => []
  | p :: l => (e = true → p) :: gdC e l
theorem gdC_all {e : Bool} : ∀ {l : List Prop}, (e = true → All l) → All (gdC e l)
  | [], _ => trivial
  | p :: l, h => ⟨fun he => (h he).1, gdC_all fun he => (h he).2⟩
/-- As it stands; behind a guard; behind a guard, with a write. -/
def X {p : Prop} (x : Px p) (h : p := by first | with_reducible exact True.intro | omega | (and_intros <;> first | omega | with_reducible rfl | with_reducible assumption | with_reducible exact True.intro | (simp only [List.length_map]; omega) | (simp; omega) | (simp; done))) : Ox := ⟨x.o, x.cs, x.h h⟩
def Xg {p : Prop} (e : Bool) (x : Px p) (h : e = true → p := by first | (intro _; with_reducible exact True.intro) | (intro hg; (try simp [-List.getD_eq_getElem?_getD] at hg); first | omega | (and_intros <;> first | omega | with_reducible rfl | with_reducible assumption | with_reducible exact True.intro | (simp only [List.length_map]; omega) | (simp; omega) | (simp [hg]; done)))) : Ox := ⟨x.o, gdC e x.cs, gdC_all fun he => x.h (h he)⟩
def Xw {p : Prop} (e : Bool) (x : Px p) (h : e = true) (hp : p) : Ox := ⟨x.o, gdC e x.cs ++ [e = true], All_app.2 ⟨gdC_all fun _ => x.h hp, h, trivial⟩⟩
def oV (v : AVal) : Orc := ⟨some v, none, none, none, []⟩
def oE (x : Tree) : Orc := ⟨none, none, some x, none, []⟩

/-- A guarded value is read: its guard. -/
def Xq {p : Prop} (e : Bool) (x : Px p) : Px (e = true ∧ p) := ⟨x.o, (e = true) :: x.cs, fun h => ⟨h.1, x.h h.2⟩⟩
/-- Conditions alone. -/
def Xc (p : Prop) : Px p := ⟨Orc.no, [p], fun h => ⟨h, trivial⟩⟩
def X0 : Px True := ⟨Orc.no, [], fun _ => trivial⟩
def Xa {p q : Prop} (x : Px p) (y : Px q) : Px (p ∧ q) := ⟨y.o, x.cs ++ y.cs, fun h => All_app.2 ⟨x.h h.1, y.h h.2⟩⟩
/-- No overflow. -/
def Xn (a : Int) : Px (-9223372036854775808 ≤ a ∧ a ≤ 9223372036854775807) := ⟨oV (VI a), [Weak (VI (IntKind.i64.wrap a)) (VI a)], fun h => ⟨Weak.of_eq (nw h), trivial⟩⟩
def Xquo (a b : Int) : Px (0 ≤ a ∧ 0 < b ∧ a ≤ 9223372036854775807) := ⟨oV (VI (a / b)), [b ≠ 0, Weak (VI (IntKind.i64.wrap (a.tdiv b))) (VI (a / b))], fun h => ⟨by omega, Weak.of_eq (quo_nn h), trivial⟩⟩
def Xrem (a b : Int) : Px (0 ≤ a ∧ 0 < b) := ⟨oV (VI (a % b)), [b ≠ 0, Weak (VI (a.tmod b)) (VI (a % b))], fun h => ⟨by omega, Weak.of_eq (rem_nn h.1), trivial⟩⟩
def Xmax (a b : Int) : Px True := ⟨oV (VI (max a b)), [Weak (VI (if b > a then b else a)) (VI (max a b))], fun _ => ⟨Weak.of_eq max_if, trivial⟩⟩
def Xmin (a b : Int) : Px True := ⟨oV (VI (min a b)), [Weak (VI (if b < a then b else a)) (VI (min a b))], fun _ => ⟨Weak.of_eq min_if, trivial⟩⟩
/-- The length of a list. -/
def Xl {α : Type} (f : α → Tree) (l : List α) : Px True := ⟨oV (VI (l.length : Int)), [Weak (VI ((l.map f).length : Int)) (VI (l.length : Int))], fun _ => ⟨Weak.of_eq len_map, trivial⟩⟩
/-- An element of a list; its number written otherwise. -/
def Xi {α : Type} [Inhabited α] (f : α → Tree) (l : List α) (j : Int) : Px (0 ≤ j ∧ j < (l.length : Int)) :=
  ⟨oE (f (l.getD j.toNat default)), [0 ≤ j, (l.map f)[j.toNat]? = some (f (l.getD j.toNat default))], fun h => ⟨h.1, elt_map h.1 h.2, trivial⟩⟩
def Xi' {α : Type} [Inhabited α] (f : α → Tree) (l : List α) (j : Int) (k : Nat) : Px (j = (k : Int) ∧ k < l.length) :=
  ⟨oE (f (l.getD k default)), [0 ≤ j, (l.map f)[j.toNat]? = some (f (l.getD k default))], fun h => ⟨by omega, elt_map' h.1 h.2, trivial⟩⟩
/-- An owned row is read whole. -/
def Xr {α : Type} (f : α → Tree) (o : List α) : Px True := ⟨Orc.no, [o.length = (o.map f).length], fun _ => ⟨List.length_map _ |>.symm, trivial⟩⟩
/-- An element of a row: its place; what is there; what is written there. -/
def Xp {α : Type} (f : α → Tree) (o : List α) (j : Int) : Px (0 ≤ j ∧ j < (o.length : Int)) :=
  ⟨Orc.no, [o.length = (o.map f).length, 0 ≤ j, j < (o.length : Int)], fun h => ⟨List.length_map _ |>.symm, h.1, h.2, trivial⟩⟩
def Xp' {α : Type} (f : α → Tree) (id : Nat) (o : List α) (j : Int) (k : Nat) : Px (j = (k : Int) ∧ k < o.length) :=
  ⟨oV (.eptr id o.length k 0), [o.length = (o.map f).length, 0 ≤ j, j < (o.length : Int), Weak (.eptr id o.length j.toNat 0) (.eptr id o.length k 0)],
    fun h => ⟨List.length_map _ |>.symm, by omega, by omega, Weak.of_eq (eptr_eq (by omega)), trivial⟩⟩
def Xe {α : Type} [Inhabited α] (f : α → Tree) (o : List α) (i : Nat) : Px (i < o.length) :=
  ⟨oE (f (o.getD i default)), [o.length = (o.map f).length, (o.map f)[i]? = some (f (o.getD i default))], fun h => ⟨List.length_map _ |>.symm, elt_nat h, trivial⟩⟩
def Xs {α : Type} [Inhabited α] (k : Nat) (f : α → Tree) (id : Nat) (o : List α) (i : Nat) (x : α) (g : List (Nat × Ob) := []) : Px (i < o.length) :=
  ⟨⟨none, some (g ++ [(id, .row k false ((o.set i x).map f))]), some (f (o.getD i default)), none, []⟩,
    [o.length = (o.map f).length, (o.map f)[i]? = some (f (o.getD i default)), g ++ [(id, Ob.row k false ((o.set i x).map f))] = g ++ [(id, Ob.row k false ((o.map f).set i (f x)))]],
    fun h => ⟨List.length_map _ |>.symm, elt_nat h, by rw [row_set rfl], trivial⟩⟩
/-- Parts of a list. -/
def Xst {α : Type} (f : α → Tree) (k : Nat) (l : List α) (hi : Int) : Px (0 ≤ hi ∧ hi ≤ (l.length : Int)) :=
  ⟨oV (VL k f (l.take hi.toNat)), [0 ≤ hi, hi ≤ (((l.map f).length : Nat) : Int), Weak (.t (.lst k ((l.map f).take hi.toNat))) (VL k f (l.take hi.toNat))], fun h => ⟨h.1, by rw [List.length_map]; exact h.2, Weak.of_eq sl_take, trivial⟩⟩
def Xsd {α : Type} (f : α → Tree) (k : Nat) (l : List α) (lo : Int) : Px (0 ≤ lo ∧ lo ≤ (l.length : Int)) :=
  ⟨oV (VL k f (l.drop lo.toNat)), [0 ≤ lo, lo ≤ (((l.map f).length : Nat) : Int), Weak (.t (.lst k ((l.map f).drop lo.toNat))) (VL k f (l.drop lo.toNat))], fun h => ⟨h.1, by rw [List.length_map]; exact h.2, Weak.of_eq sl_drop, trivial⟩⟩
def Xsb {α : Type} (f : α → Tree) (k : Nat) (l : List α) (lo hi : Int) : Px (0 ≤ lo ∧ lo ≤ hi ∧ hi ≤ (l.length : Int)) :=
  ⟨oV (VL k f ((l.take hi.toNat).drop lo.toNat)), [0 ≤ lo, lo ≤ hi, hi ≤ (((l.map f).length : Nat) : Int), Weak (.t (.lst k (((l.map f).take hi.toNat).drop lo.toNat))) (VL k f ((l.take hi.toNat).drop lo.toNat))],
    fun h => ⟨h.1, h.2.1, by rw [List.length_map]; exact h.2.2, Weak.of_eq sl_both, trivial⟩⟩
/-- The same, of an owned row. -/
def rowC {p : Prop} {α : Type} (f : α → Tree) (o : List α) (x : Px p) : Px p := ⟨x.o, (o.length = (o.map f).length) :: x.cs, fun h => ⟨List.length_map _ |>.symm, x.h h⟩⟩
theorem lm {α : Type} {n : Nat} {f : α → Tree} {o : List α} (h : n = o.length := by first | with_reducible rfl | omega | (simp; done) | (simp; omega)) : n = (o.map f).length := by rw [List.length_map]; exact h
def rowX {p : Prop} {α : Type} (n : Nat) (f : α → Tree) (o : List α) (x : Px p) (h : n = o.length := by first | omega | (simp; done) | (simp; omega)) : Px p := ⟨x.o, (n = (o.map f).length) :: x.cs, fun hp => ⟨by rw [List.length_map]; exact h, x.h hp⟩⟩
/-- The row's number is said otherwise. -/
def Xen {α : Type} [Inhabited α] (n : Nat) (f : α → Tree) (o : List α) (i : Nat) : Px (n = o.length ∧ i < o.length) :=
  ⟨oE (f (o.getD i default)), [n = (o.map f).length, (o.map f)[i]? = some (f (o.getD i default))], fun h => ⟨by rw [List.length_map]; exact h.1, elt_nat h.2, trivial⟩⟩
def Xpn {α : Type} (n : Nat) (f : α → Tree) (o : List α) (j : Int) : Px (n = o.length ∧ 0 ≤ j ∧ j < (n : Int)) :=
  ⟨Orc.no, [n = (o.map f).length, 0 ≤ j, j < (n : Int)], fun h => ⟨by rw [List.length_map]; exact h.1, h.2.1, h.2.2, trivial⟩⟩
def Xsn {α : Type} [Inhabited α] (n k : Nat) (f : α → Tree) (id : Nat) (o : List α) (i : Nat) (x : α) (g : List (Nat × Ob) := []) : Px (n = o.length ∧ i < o.length) :=
  ⟨⟨none, some (g ++ [(id, .row k false ((o.set i x).map f))]), some (f (o.getD i default)), none, []⟩,
    [n = (o.map f).length, (o.map f)[i]? = some (f (o.getD i default)), g ++ [(id, Ob.row k false ((o.set i x).map f))] = g ++ [(id, Ob.row k false ((o.map f).set i (f x)))]],
    fun h => ⟨by rw [List.length_map]; exact h.1, elt_nat h.2, by rw [row_set rfl], trivial⟩⟩
def Xapn {α : Type} (n k : Nat) (f : α → Tree) (id : Nat) (o ys : List α) : Px (n = o.length ∧ o.length + ys.length ≤ 1099511627776) :=
  ⟨⟨some (.row id (o ++ ys).length), some [(id, .row k false ((o ++ ys).map f))], none, none, []⟩,
    [n = (o.map f).length, n + (ys.map f).length ≤ 1099511627776, Weak (.row id (n + (ys.map f).length)) (.row id (o ++ ys).length), [(id, Ob.row k false ((o ++ ys).map f))] = [(id, Ob.row k false (o.map f ++ ys.map f))]],
    fun h => ⟨by rw [List.length_map]; exact h.1, by rw [List.length_map]; omega, Weak.of_eq (by rw [h.1]; simp), row_append rfl, trivial⟩⟩
/-- A byte of a string. -/
def Xb (s : ByteArray) (j : Int) : Px (0 ≤ j ∧ j < (s.size : Int)) := ⟨Orc.no, [0 ≤ j, j < (s.size : Int)], fun h => ⟨h.1, h.2, trivial⟩⟩
/-- A cell of an array in a box, its number known. -/
def Xlit (id off z len : Nat) (j : Int) (i : Nat) : Px (j = (i : Int) ∧ i < len) :=
  ⟨oV (.ptr id (off + i * z)), [0 ≤ j, j < (len : Int), Weak (.ptr id (off + j.toNat * z)) (.ptr id (off + i * z))], fun h => ⟨by omega, by omega, Weak.of_eq (by rw [show j.toNat = i by omega]), trivial⟩⟩
/-- append to nil, to a row. -/
def Xan {α : Type} (f : α → Tree) (id : Nat) (ys : List α) : Px (ys.length ≤ 1099511627776) :=
  ⟨oV (.row id ys.length), [(ys.map f).length ≤ 1099511627776, Weak (.row id (ys.map f).length) (.row id ys.length)], fun h => ⟨by rw [List.length_map]; exact h, Weak.of_eq (by rw [List.length_map]), trivial⟩⟩
def Xap {α : Type} (k : Nat) (f : α → Tree) (id : Nat) (o ys : List α) : Px (o.length + ys.length ≤ 1099511627776) :=
  ⟨⟨some (.row id (o ++ ys).length), some [(id, .row k false ((o ++ ys).map f))], none, none, []⟩,
    [o.length = (o.map f).length, o.length + (ys.map f).length ≤ 1099511627776, Weak (.row id (o.length + (ys.map f).length)) (.row id (o ++ ys).length), [(id, Ob.row k false ((o ++ ys).map f))] = [(id, Ob.row k false (o.map f ++ ys.map f))]],
    fun h => ⟨List.length_map _ |>.symm, by rw [List.length_map]; exact h, Weak.of_eq (by simp), row_append rfl, trivial⟩⟩
/-- make -/
def Xmk {α : Type} (k : Nat) (f : α → Tree) (id : Nat) (n m : Int) (z : α) : Px (0 ≤ n ∧ n ≤ m ∧ m ≤ 1099511627776) :=
  ⟨⟨none, some [(id, .row k false ((List.replicate n.toNat z).map f))], none, none, []⟩, [0 ≤ n, n ≤ m, m ≤ 1099511627776, [(id, Ob.row k false ((List.replicate n.toNat z).map f))] = [(id, Ob.row k false (List.replicate n.toNat (f z)))]],
    fun h => ⟨h.1, h.2.1, h.2.2, by rw [List.map_replicate], trivial⟩⟩
def Xmz {α : Type} (k : Nat) (f : α → Tree) (id : Nat) (n m : Int) (z : α) (zs : List Tree) (hz : TWs zs (f z).cells) : Px (0 ≤ n ∧ n ≤ m ∧ m ≤ 1099511627776) :=
  ⟨⟨none, some [(id, .row k false ((List.replicate n.toNat z).map f))], some (f z), none, []⟩, [0 ≤ n, n ≤ m, m ≤ 1099511627776, TWs zs (f z).cells, [(id, Ob.row k false ((List.replicate n.toNat z).map f))] = [(id, Ob.row k false (List.replicate n.toNat (f z)))]],
    fun h => ⟨h.1, h.2.1, h.2.2, hz, by rw [List.map_replicate], trivial⟩⟩
/-- Nil cells of a struct. -/
def Xf (l : List (Nat × Nat)) : Px True := ⟨⟨none, none, none, none, l⟩, [], fun _ => trivial⟩
def Xw' (d v : AVal) : Px (Weak d v) := ⟨oV v, [Weak d v], fun h => ⟨h, trivial⟩⟩
/-- Whatever an operation asks, given whole. -/
def Xx (o : Orc) (cs : List Prop) : Px (All cs) := ⟨o, cs, id⟩

/-- Under a guard, guarded values are read (k of them, by the same guard). -/
def rpC (e : Bool) : Nat → List Prop → List Prop
  | 0, l => l
  | k + 1, l => (e = true) :: rpC e k l
theorem rpC_all {e : Bool} (he : e = true) {l : List Prop} (h : All l) : ∀ k, All (rpC e k l)
  | 0 => h
  | k + 1 => ⟨he, rpC_all he h k⟩
def Xv {p : Prop} (k : Nat) (e : Bool) (x : Px p) (h : e = true → p := by first | (intro _; with_reducible exact True.intro) | (intro hg; (try simp [-List.getD_eq_getElem?_getD] at hg); first | omega | (and_intros <;> first | omega | with_reducible rfl | with_reducible assumption | with_reducible exact True.intro | (simp only [List.length_map]; omega) | (simp; omega) | (simp [hg]; done)))) : Ox :=
  ⟨x.o, gdC e (rpC e k x.cs), gdC_all fun he => rpC_all he (x.h (h he)) k⟩
/-- pick: 'and', 'or'. -/
def Xk (g : Bool) : Px True := ⟨Orc.no, [g = true → g = true], fun _ => ⟨id, trivial⟩⟩
def Xk' (g : Bool) : Px True := ⟨Orc.no, [g = false → (!g) = true], fun _ => ⟨fun h => by simp [h], trivial⟩⟩

def Xka (e g : Bool) : Ox := ⟨Orc.no, [e = true → e = true, e = true → g = true → (e && g) = true], ⟨id, fun h k => by rw [h, k]; rfl, trivial⟩⟩
def Xko (e g : Bool) : Ox := ⟨Orc.no, [e = true → e = true, e = true → g = false → (e && !g) = true], ⟨id, fun h k => by rw [h, k]; rfl, trivial⟩⟩
/-! ### A slice of slices -/
theorem mat_at {α : Type} [Inhabited α] {f : α → Tree} {l : List α} {k : Nat} (h : k < l.length) : (matC (l.map f) none)[k]? = some (.t (f (l.getD k default))) := by
  simp [matC, List.getD, List.getElem?_eq_getElem h]
theorem mat_at' {α : Type} [Inhabited α] {f : α → Tree} {l : List α} {k i r n : Nat} (h : k < l.length) (hk : k ≠ i) : (matC (l.map f) (some (i, r, n)))[k]? = some (.t (f (l.getD k default))) := by
  simp only [matC, List.getElem?_set]
  rw [if_neg (fun e => hk e.symm)]
  simp [List.getD, List.getElem?_eq_getElem h]
def Xmm {α : Type} (f : α → Tree) (id : Nat) (n m : Int) (z : α) (zs : List Tree) (hz : TWs zs (f z).cells) : Px (0 ≤ n ∧ n = m ∧ m ≤ 1099511627776) :=
  ⟨⟨none, some [(id, .mat false ((List.replicate n.toNat z).map f) none)], some (f z), none, [(0, 0)]⟩, [0 ≤ n, n = m, m ≤ 1099511627776, TWs zs (f z).cells, [(id, Ob.mat false ((List.replicate n.toNat z).map f) none)] = [(id, Ob.mat false (List.replicate n.toNat (f z)) none)]],
    fun h => ⟨h.1, h.2.1, h.2.2, hz, by rw [List.map_replicate], trivial⟩⟩
def Xmi {α : Type} (f : α → Tree) (l : List α) (j : Int) : Px (0 ≤ j ∧ j < (l.length : Int)) := ⟨Orc.no, [0 ≤ j, j < ((l.map f).length : Int)], fun h => ⟨h.1, by rw [List.length_map]; exact h.2, trivial⟩⟩
def Xmi' {α : Type} (f : α → Tree) (id : Nat) (l : List α) (j : Int) (k : Nat) : Px (j = (k : Int) ∧ k < l.length) := ⟨oV (.mptr id k), [0 ≤ j, j < ((l.map f).length : Int), Weak (.mptr id j.toNat) (.mptr id k)], fun h => ⟨by omega, by rw [List.length_map]; omega, Weak.of_eq (by rw [show j.toNat = k by omega]), trivial⟩⟩
def Xml {α : Type} [Inhabited α] (f : α → Tree) (l : List α) (k : Nat) : Px (k < l.length) := ⟨⟨none, none, some (f (l.getD k default)), none, []⟩, [(matC (l.map f) none)[k]? = some (.t (f (l.getD k default)))], fun h => ⟨mat_at h, trivial⟩⟩
def Xml' {α : Type} [Inhabited α] (f : α → Tree) (l : List α) (k i r n : Nat) : Px (k < l.length ∧ k ≠ i) := ⟨⟨none, none, some (f (l.getD k default)), none, []⟩, [(matC (l.map f) (some (i, r, n)))[k]? = some (.t (f (l.getD k default)))], fun h => ⟨mat_at' h.1 h.2, trivial⟩⟩
def Xmh {α : Type} (f : α → Tree) (l : List α) (k i : Nat) : Px (k = i ∧ i < l.length) := ⟨Orc.no, [k = i, i < (l.map f).length], fun h => ⟨h.1, by rw [List.length_map]; exact h.2, trivial⟩⟩
def Xms {α : Type} (f : α → Tree) (l : List α) (k : Nat) : Px (k < l.length) := ⟨Orc.no, [k < (l.map f).length], fun h => ⟨by rw [List.length_map]; exact h, trivial⟩⟩
/-! ### Calls -/
theorem FC.nil {f : FuncId} {args : List AVal} {res : AVal} {st st' : Store} (i k : Nat) (h : FC P f args st res st') (hi : args[i]? = some (.t (.lst k [])) := by kernel_rfl) (hk : Nat.blt 0 k = true := by kernel_rfl) : FC P f (args.set i VN) st res st' := by
  intro F m w us hS hl hv
  refine h F m w us hS (by simpa using hl) (fun j v u hj hu => ?_)
  by_cases e : i = j
  · subst e
    rw [hi] at hj
    cases hj
    have hlt := (List.getElem?_eq_some_iff.1 hi).1
    have := hv i VN u (by simp [hlt]) hu
    exact nil_lst (Nat.lt_of_succ_le (Nat.le_of_ble_eq_true hk)) _ _ _ _ _ this
  · exact hv j v u (by rw [List.getElem?_set_ne e]; exact hj) hu
/-- A callee that makes nothing; what its arguments ask ahead. -/
def Xc0 {p : Prop} {f : FuncId} {args : List AVal} {res : AVal} (h : FC P f args emp res emp) (x : Px p) (hc : callable P f = true := by kernel_rfl) : Px p :=
  ⟨⟨none, none, none, some ⟨0, [], res, []⟩, []⟩, (callable P f = true) :: (x.cs ++ [FC P f args emp res emp]), fun hp => ⟨hc, All_app.2 ⟨x.h hp, h, trivial⟩⟩⟩
/-- Behind a guard that the callee's contract leans on. -/
def Xc0g {p : Prop} {e : Bool} {f : FuncId} {args : List AVal} {res : AVal} (h : e = true → FC P f args emp res emp) (x : Px p) (hc : callable P f = true := by kernel_rfl) : Px (e = true ∧ p) :=
  ⟨⟨none, none, none, some ⟨0, [], res, []⟩, []⟩, (callable P f = true) :: (x.cs ++ [FC P f args emp res emp]), fun hp => ⟨hc, All_app.2 ⟨x.h hp.2, h hp.1, trivial⟩⟩⟩
def freshT : Nat → List (Nat × Ob) → List (Nat × Nat) → List (Nat × Nat)
  | _, [], _ => []
  | nid, (i, _) :: l, τ => match lk τ i with
    | some _ => freshT nid l τ
    | none => (i, nid) :: freshT (nid + 1) l τ
def orL {α : Type} (o : Option (List α)) : List α := o.getD []
def orV (o : Option AVal) : AVal := o.getD .junk
def ck1 (τ : List (Nat × Nat)) (res : AVal) (l1 : List (Nat × Ob)) : Bool := nodupB (τ.map (·.1)) && nodupB (τ.map (·.2)) && (renStore τ (app emp l1) τ).isSome && (renV τ res).isSome
theorem renL_nil_inv {args : List AVal} (h : renL [] args = some args) : renL (inv []) args = some args := h
theorem FC.fresh {f : FuncId} {args : List AVal} {res : AVal} {l1 : List (Nat × Ob)} (τ : List (Nat × Nat)) (h : FC P f args emp res (app emp l1)) (ha : renL [] args = some args) (hk : ck1 τ res l1 = true) :
    FC P f args emp (orV (renV τ res)) (app emp (orL (renStore τ (app emp l1) τ))) := by
  simp only [ck1, Bool.and_eq_true] at hk
  obtain ⟨⟨⟨k1, k2⟩, k3⟩, k4⟩ := hk
  obtain ⟨l', e3⟩ := Option.isSome_iff_exists.1 k3
  obtain ⟨r', e4⟩ := Option.isSome_iff_exists.1 k4
  refine FC.ren (l0 := []) (l0' := []) h [] τ (by simp [nodupB, k1, k2]) rfl (renL_nil_inv ha) rfl ?_ ?_
  · rw [e3]; rfl
  · rw [e4]; rfl
/-- A callee that makes objects of its own. -/
def Xc1 {p : Prop} {f : FuncId} {args : List AVal} {res : AVal} {l1 : List (Nat × Ob)} (nid : Nat) (h : FC P f args emp res (app emp l1)) (x : Px p) (ha : renL [] args = some args := by kernel_rfl)
    (hk : ck1 (freshT nid l1 []) res l1 = true := by kernel_rfl) (hc : callable P f = true := by kernel_rfl) : Px p :=
  ⟨⟨none, none, none, some ⟨1, [], orV (renV (freshT nid l1 []) res), orL (renStore (freshT nid l1 []) (app emp l1) (freshT nid l1 []))⟩, []⟩,
    (callable P f = true) :: (x.cs ++ [FC P f args emp (orV (renV (freshT nid l1 []) res)) (app emp (orL (renStore (freshT nid l1 []) (app emp l1) (freshT nid l1 []))))]),
    fun hp => ⟨hc, All_app.2 ⟨x.h hp, FC.fresh _ h ha hk, trivial⟩⟩⟩
def sndL : List (Nat × Nat) → List Nat
  | [] => []
  | (_, j) :: l => j :: sndL l
def ck3 (τ0 τ : List (Nat × Nat)) (args : List AVal) (l0 : List (Nat × Ob)) (res : AVal) (l1 : List (Nat × Ob)) : Bool :=
  (nodupB (τ0.map (·.1)) && nodupB (τ0.map (·.2)) && nodupB (τ.map (·.1)) && nodupB (τ.map (·.2)) && τ0.all (fun p => match lk τ p.1 with | some j => Nat.beq j p.2 | none => false)) &&
    (orL (renStore τ0 (app emp l0) τ0)).all (fun x => hasId (τ0.map (·.2)) x.1) && (renStore τ (app emp l1) τ).isSome && (renV τ res).isSome &&
    (orL (renStore τ0 (app emp l0) τ0)).all (fun x => hasId ((orL (renStore τ (app emp l1) τ)).map (·.1)) x.1)
theorem app_over {a b : List (Nat × Ob)} (h : ∀ x ∈ a, x.1 ∈ b.map (·.1)) : app (app emp a) b = app emp b := by
  funext i
  by_cases hi : i ∈ b.map (·.1)
  · exact app_at (.inl hi)
  · rw [app_not hi, app_not hi]
    refine app_not (fun hm => ?_)
    obtain ⟨x, hx, rfl⟩ := List.mem_map.1 hm
    exact hi (h x hx)
theorem FC.obj {f : FuncId} {args : List AVal} {res : AVal} {l0 l1 : List (Nat × Ob)} (τ0 τ : List (Nat × Nat)) (h : FC P f args (app emp l0) res (app emp l1)) (hk : ck3 τ0 τ args l0 res l1 = true)
    (h0 : renStore (inv τ0) (app emp (orL (renStore τ0 (app emp l0) τ0))) (inv τ0) = some l0) (ha : renL (inv τ0) (orL (renL τ0 args)) = some args) :
    FC P f (orL (renL τ0 args)) (app emp (orL (renStore τ0 (app emp l0) τ0))) (orV (renV τ res)) (app (app emp (orL (renStore τ0 (app emp l0) τ0))) (orL (renStore τ (app emp l1) τ))) := by
  simp only [ck3, Bool.and_eq_true] at hk
  obtain ⟨⟨⟨⟨k1, k2⟩, k3⟩, k4⟩, k5⟩ := hk
  obtain ⟨l', e3⟩ := Option.isSome_iff_exists.1 k3
  obtain ⟨r', e4⟩ := Option.isSome_iff_exists.1 k4
  rw [app_over (fun x hx => hasId_iff.1 (List.all_eq_true.1 k5 x hx))]
  refine FC.ren h τ0 τ (by simp only [Bool.and_eq_true]; exact k1) h0 ha k2 ?_ ?_
  · rw [e3]; rfl
  · rw [e4]; rfl
/-- A callee that is handed objects. -/
def Xc3 {p : Prop} {f : FuncId} {args : List AVal} {res : AVal} {l0 l1 : List (Nat × Ob)} (nid : Nat) (τ0 : List (Nat × Nat)) (h : FC P f args (app emp l0) res (app emp l1)) (x : Px p)
    (hk : ck3 τ0 (τ0 ++ freshT nid l1 τ0) args l0 res l1 = true := by kernel_rfl)
    (h0 : renStore (inv τ0) (app emp (orL (renStore τ0 (app emp l0) τ0))) (inv τ0) = some l0 := by kernel_rfl) (ha : renL (inv τ0) (orL (renL τ0 args)) = some args := by kernel_rfl) (hc : callable P f = true := by kernel_rfl) : Px p :=
  ⟨⟨none, none, none, some ⟨3, sndL τ0, orV (renV (τ0 ++ freshT nid l1 τ0) res), orL (renStore (τ0 ++ freshT nid l1 τ0) (app emp l1) (τ0 ++ freshT nid l1 τ0))⟩, []⟩,
    [callable P f = true, FC P f (orL (renL τ0 args)) (app emp (orL (renStore τ0 (app emp l0) τ0))) (orV (renV (τ0 ++ freshT nid l1 τ0) res)) (app (app emp (orL (renStore τ0 (app emp l0) τ0))) (orL (renStore (τ0 ++ freshT nid l1 τ0) (app emp l1) (τ0 ++ freshT nid l1 τ0))))],
    fun hp => ⟨hc, FC.obj _ _ h hk h0 ha, trivial⟩⟩
/-- One that only reads them. -/
theorem FC.objr {f : FuncId} {args : List AVal} {res : AVal} {l0 : List (Nat × Ob)} (τ0 : List (Nat × Nat)) (h : FC P f args (app emp l0) res (app emp l0)) (hk : ck3 τ0 τ0 args l0 res l0 = true)
    (h0 : renStore (inv τ0) (app emp (orL (renStore τ0 (app emp l0) τ0))) (inv τ0) = some l0) (ha : renL (inv τ0) (orL (renL τ0 args)) = some args) :
    FC P f (orL (renL τ0 args)) (app emp (orL (renStore τ0 (app emp l0) τ0))) (orV (renV τ0 res)) (app (app emp (orL (renStore τ0 (app emp l0) τ0))) []) := by
  have := FC.obj τ0 τ0 h hk h0 ha
  simp only [ck3, Bool.and_eq_true] at hk
  rw [app_over (fun x hx => hasId_iff.1 (List.all_eq_true.1 hk.2 x hx))] at this
  exact this
def Xc4 {p : Prop} {f : FuncId} {args : List AVal} {res : AVal} {l0 : List (Nat × Ob)} (τ0 : List (Nat × Nat)) (h : FC P f args (app emp l0) res (app emp l0)) (x : Px p)
    (hk : ck3 τ0 τ0 args l0 res l0 = true := by kernel_rfl)
    (h0 : renStore (inv τ0) (app emp (orL (renStore τ0 (app emp l0) τ0))) (inv τ0) = some l0 := by kernel_rfl) (ha : renL (inv τ0) (orL (renL τ0 args)) = some args := by kernel_rfl) (hc : callable P f = true := by kernel_rfl) : Px p :=
  ⟨⟨none, none, none, some ⟨3, sndL τ0, orV (renV τ0 res), []⟩, []⟩,
    [callable P f = true, FC P f (orL (renL τ0 args)) (app emp (orL (renStore τ0 (app emp l0) τ0))) (orV (renV τ0 res)) (app (app emp (orL (renStore τ0 (app emp l0) τ0))) [])],
    fun hp => ⟨hc, FC.objr _ h hk h0 ha, trivial⟩⟩
theorem pr {α β : Type} {a b : α} {c d : β} (h : a = b) (k : c = d) : (a, c) = (b, d) := by rw [h, k]
/-- Numbers of other widths. -/
theorem wrap_u8 {z : Int} (h : 0 ≤ z ∧ z ≤ 255) : IntKind.u8.wrap z = z := by unfold IntKind.wrap; simp [IntKind.bits, IntKind.signed]; omega
theorem wrap_u32 {z : Int} (h : 0 ≤ z ∧ z ≤ 4294967295) : IntKind.u32.wrap z = z := by unfold IntKind.wrap; simp [IntKind.bits, IntKind.signed]; omega
theorem wrap_i32 {z : Int} (h : 0 ≤ z ∧ z ≤ 2147483647) : IntKind.i32.wrap z = z := by unfold IntKind.wrap; simp [IntKind.bits, IntKind.signed]; omega
def Xcv (k : IntKind) (z : Int) : Px (k.wrap z = z) := ⟨oV (.t (.sc (.int k z))), [Weak (.t (.sc (.int k (k.wrap z)))) (.t (.sc (.int k z)))], fun h => ⟨Weak.of_eq (by rw [h]), trivial⟩⟩
/-- Bytes as a string. -/
def byteT (z : Int) : Tree := .sc (.int .u8 z)
def intsB (s : ByteArray) : List Int := s.data.toList.map fun b => (b.toNat : Int)
def Xstr (n : Nat) (l : List Int) (s : ByteArray) : Px (n = l.length ∧ l = intsB s) :=
  ⟨oE (.sc (.string s)), [n = (l.map byteT).length, l.map byteT = bytesT s], fun h => ⟨by rw [List.length_map]; exact h.1, by rw [h.2]; unfold intsB bytesT; rw [List.map_map]; rfl, trivial⟩⟩
/-- Bits and shifts, as arithmetic. -/
def Xbit (k : IntKind) (y z : Int) : Px (y = z) := ⟨oV (.t (.sc (.int k z))), [Weak (.t (.sc (.int k y))) (.t (.sc (.int k z)))], fun h => ⟨Weak.of_eq (by rw [h]), trivial⟩⟩
def Xsh (k : IntKind) (b y z : Int) : Px (0 ≤ b ∧ y = z) := ⟨oV (.t (.sc (.int k z))), [0 ≤ b, Weak (.t (.sc (.int k y))) (.t (.sc (.int k z)))], fun h => ⟨h.1, Weak.of_eq (by rw [h.2]), trivial⟩⟩
set_option maxRecDepth 100000 in
theorem and63F : ∀ x : _root_.Fin 256, andI .u8 ((x.val : Nat) : Int) 63 = (((x.val % 64 : Nat)) : Int) := by decide
set_option maxRecDepth 100000 in
theorem or128F : ∀ x : _root_.Fin 64, orI .u8 128 ((x.val : Nat) : Int) = ((128 + x.val : Nat) : Int) := by decide
set_option maxRecDepth 100000 in
theorem or192F : ∀ x : _root_.Fin 32, orI .u8 192 ((x.val : Nat) : Int) = ((192 + x.val : Nat) : Int) := by decide
set_option maxRecDepth 100000 in
theorem or224F : ∀ x : _root_.Fin 16, orI .u8 224 ((x.val : Nat) : Int) = ((224 + x.val : Nat) : Int) := by decide
set_option maxRecDepth 100000 in
theorem or240F : ∀ x : _root_.Fin 8, orI .u8 240 ((x.val : Nat) : Int) = ((240 + x.val : Nat) : Int) := by decide
theorem and63 {x : Int} (h : 0 ≤ x ∧ x < 256) : andI .u8 x 63 = x % 64 := by
  have := and63F ⟨x.toNat, by omega⟩
  simp only [show ((x.toNat : Nat) : Int) = x by omega] at this
  rw [this]; omega
theorem or128 {x : Int} (h : 0 ≤ x ∧ x < 64) : orI .u8 128 x = 128 + x := by
  have := or128F ⟨x.toNat, by omega⟩
  simp only [show ((x.toNat : Nat) : Int) = x by omega] at this
  rw [this]; omega
theorem or192 {x : Int} (h : 0 ≤ x ∧ x < 32) : orI .u8 192 x = 192 + x := by
  have := or192F ⟨x.toNat, by omega⟩
  simp only [show ((x.toNat : Nat) : Int) = x by omega] at this
  rw [this]; omega
theorem or224 {x : Int} (h : 0 ≤ x ∧ x < 16) : orI .u8 224 x = 224 + x := by
  have := or224F ⟨x.toNat, by omega⟩
  simp only [show ((x.toNat : Nat) : Int) = x by omega] at this
  rw [this]; omega
theorem or240 {x : Int} (h : 0 ≤ x ∧ x < 8) : orI .u8 240 x = 240 + x := by
  have := or240F ⟨x.toNat, by omega⟩
  simp only [show ((x.toNat : Nat) : Int) = x by omega] at this
  rw [this]; omega
theorem shr6 {r : Int} : r.fdiv (2 ^ (min (6 : Int).toNat IntKind.i32.bits)) = r / 64 := by
  show r.fdiv 64 = r / 64
  exact Int.fdiv_eq_ediv_of_nonneg r (by decide)
theorem shr12 {r : Int} : r.fdiv (2 ^ (min (12 : Int).toNat IntKind.i32.bits)) = r / 4096 := by
  show r.fdiv 4096 = r / 4096
  exact Int.fdiv_eq_ediv_of_nonneg r (by decide)
theorem shr18 {r : Int} : r.fdiv (2 ^ (min (18 : Int).toNat IntKind.i32.bits)) = r / 262144 := by
  show r.fdiv 262144 = r / 262144
  exact Int.fdiv_eq_ediv_of_nonneg r (by decide)
theorem u8mod {r : Int} : IntKind.u8.wrap r = r % 256 := by unfold IntKind.wrap; simp [IntKind.bits, IntKind.signed]
end Go.Ab
end
section
set_option linter.unusedVariables false
set_option linter.unusedSimpArgs false
namespace Go.Ch
open Go Go.Ab

structure Attr where
  name : ByteArray
  val : ByteArray
abbrev mt : ByteArray := { data := #[] }
instance : Inhabited Attr := ⟨⟨mt, mt⟩⟩
def attrT (a : Attr) : Tree := .agg [.sc (.string a.name), .sc (.string a.val)]

/-! ### The order of strings -/
theorem byt_ext {a b : ByteArray} (h : a.toList = b.toList) : a = b := by
  rw [ByteArray.toList_eq, ByteArray.toList_eq] at h
  obtain ⟨⟨x⟩⟩ := a
  obtain ⟨⟨y⟩⟩ := b
  simpa using h
theorem seq_iff {a b : ByteArray} : seq a b = true ↔ a = b := by
  unfold seq
  rw [beq_iff_eq]
  exact ⟨byt_ext, fun h => by rw [h]⟩
theorem seq_no {a b : ByteArray} : seq a b = false ↔ a ≠ b := by
  rw [← Bool.not_eq_true, seq_iff]
/-! ### Lists in order -/
/-- All names are greater than n. -/
def Above (n : ByteArray) (l : List Attr) : Prop := ∀ a ∈ l, slt n a.name = true
def Sorted : List Attr → Prop
  | [] => True
  | a :: l => Above a.name l ∧ Sorted l
def look : List Attr → ByteArray → Option ByteArray
  | [], _ => none
  | a :: l, n => if a.name = n then some a.val else look l n
theorem look_mem {l : List Attr} {n v : ByteArray} (h : look l n = some v) : (⟨n, v⟩ : Attr) ∈ l := by
  induction l with
  | nil => cases h
  | cons a l ih =>
    rw [look] at h
    split at h
    · rename_i hn
      cases h
      subst hn
      exact List.mem_cons_self
    · exact List.mem_cons_of_mem _ (ih h)
/-! ### Two lists at once -/
def bothL : List Attr → List Attr → List (Attr × Attr)
  | [], [] => []
  | [], y :: b => (default, y) :: bothL [] b
  | x :: a, [] => (x, default) :: bothL a []
  | x :: a, y :: b =>
    if slt x.name y.name = true then (x, default) :: bothL a (y :: b)
    else if slt y.name x.name = true then (default, y) :: bothL (x :: a) b
    else (x, y) :: bothL a b
termination_by a b => a.length + b.length
def Named (l : List Attr) : Prop := ∀ a ∈ l, a.name ≠ mt
/-- What a visitor may make of a pair: nothing, or an attribute of that name. -/
def Fair (g : Attr → Attr → Option Attr) : Prop := ∀ x y z, g x y = some z → z.name = if y.name = mt then x.name else y.name
def fm (g : Attr → Attr → Option Attr) (a b : List Attr) : List Attr := (bothL a b).filterMap fun p => g p.1 p.2
/-- What the visitor makes of what both lists have under a name. -/
def at2 (g : Attr → Attr → Option Attr) (n : ByteArray) : Option ByteArray → Option ByteArray → Option ByteArray
  | none, none => none
  | some v, none => (g ⟨n, v⟩ default).map (·.val)
  | none, some w => (g default ⟨n, w⟩).map (·.val)
  | some v, some w => (g ⟨n, v⟩ ⟨n, w⟩).map (·.val)

/-! ### The four visitors -/
def rawG (x y : Attr) : Option Attr := if y.name = mt then some x else if y.val = mt then none else some y
def chgG (x y : Attr) : Option Attr := if y.name = mt then some ⟨x.name, mt⟩ else if x.name = y.name ∧ x.val = y.val then none else some y
def botG (x y : Attr) : Option Attr := some (if y.name = mt then x else y)
def wioG (x y : Attr) : Option Attr := if y.name = mt then some x else none
section
variable (NP VP : ByteArray → Prop)
/-- A value that may stand under a name: in a list (e = false) or in a change (e = true). -/
def Q (e : Bool) (n v : ByteArray) : Prop := NP n ∧ (VP v ∨ (e = true ∧ v = mt))
def V (e : Bool) (l : List Attr) : Prop := Sorted l ∧ ∀ a ∈ l, Q NP VP e a.name a.val
end
section
variable {NP VP : ByteArray → Prop} (hN : ¬ NP mt) (hV : ¬ VP mt)
include hN
theorem V.named {e : Bool} {l : List Attr} (h : V NP VP e l) : Named l := fun a ha e' => hN (by have := (h.2 a ha).1; rwa [e'] at this)
omit hN in
theorem V.look {e : Bool} {l : List Attr} (h : V NP VP e l) {n v : ByteArray} (hl : look l n = some v) : Q NP VP e n v := h.2 ⟨n, v⟩ (look_mem hl)
include hV
end

end Go.Ch
end
section
set_option linter.unusedVariables false
set_option linter.unusedSimpArgs false
set_option maxRecDepth 100000
set_option maxHeartbeats 4000000
open Go Go.Proofs Go.Ab
namespace Go.Ch
theorem seq_mt {s : ByteArray} : seq s { data := #[] } = decide (s.size = 0) := by
  by_cases h : s.size = 0
  · rw [decide_eq_true h, seq_iff]
    obtain ⟨⟨l⟩⟩ := s
    cases l with
    | nil => rfl
    | cons a l => simp [ByteArray.size] at h
  · rw [decide_eq_false h, seq_no]
    intro e; subst e; exact h rfl
theorem str_pos {s : ByteArray} (h : seq s { data := #[] } = false) : (0 : Int) < (s.size : Int) := by
  rw [seq_mt, decide_eq_false_iff_not] at h; omega
def byt (s : ByteArray) (i : Nat) : Nat := ((s[i]?).getD 0).toNat
def badC (b : Nat) : Prop := (b < 97 ∨ 122 < b) ∧ (b < 48 ∨ 57 < b) ∧ b ≠ 46 ∧ b ≠ 45
instance (b : Nat) : Decidable (badC b) := by unfold badC; infer_instance
def nmS (s : ByteArray) (i : Nat) : Bool := if i < s.size then (if badC (byt s i) then false else nmS s (i + 1)) else true
termination_by s.size - i
def nameGo (s : ByteArray) : Bool := decide (1 ≤ s.size ∧ s.size ≤ 24 ∧ 97 ≤ byt s 0 ∧ byt s 0 ≤ 122) && nmS s 0
def vlS (s : ByteArray) (i : Nat) : Bool := if i < s.size then (if byt s i < 32 ∨ 126 < byt s i then false else vlS s (i + 1)) else true
termination_by s.size - i
def valGo (s : ByteArray) : Bool := decide (1 ≤ s.size ∧ s.size ≤ 200) && vlS s 0
def nmR (s : ByteArray) (i : Nat) : Bool := if i < s.size then (if (byt s i < 97 ∨ 122 < byt s i) ∧ (i = 0 ∨ (byt s i ≠ 46 ∧ byt s i ≠ 45 ∧ (byt s i < 48 ∨ 57 < byt s i))) then false else nmR s (i + 1)) else true
termination_by s.size - i
def nameRf (s : ByteArray) : Bool := nmR s 0 && decide (1 ≤ s.size ∧ s.size ≤ 24)
def valRf (s : ByteArray) : Bool := vlS s 0 && decide (1 ≤ s.size ∧ s.size ≤ 200)
theorem byt0 (s : ByteArray) (i : Nat) : ((s[i]?).getD 0).toNat = byt s i := rfl

theorem fc_name (s : ByteArray) : FC Tryd.prog 33 [VS s] (app emp []) (VB (nameGo s)) (app emp []) := by
 refine .go Tryd.f33 ?_
 refine .br [.r [], .r [(4, Xv 1 (!(seq s ({ data := #[] }))) X0), (5, Xv 1 (!(seq s ({ data := #[] }))) X0), (6, X (Xk' (seq s ({ data := #[] })))), (9, Xv 1 (!(seq s ({ data := #[] }) || decide ((s.size : Int) > 24))) (Xb s 0) (fun hg => by (try simp only [decide_eq_true_eq, decide_eq_false_iff_not, Int.not_lt, Int.not_le, gt_iff_lt, Bool.not_eq_true', Bool.not_eq_false', Bool.or_eq_true, Bool.or_eq_false_iff] at hg); exact ⟨(by first | omega | (simp; omega) | (simp; done) | assumption), (str_pos (by first | exact hg | exact hg.1 | exact hg.1.1))⟩)), (10, Xv 1 (!(seq s ({ data := #[] }) || decide ((s.size : Int) > 24))) X0), (11, X (Xk' (seq s ({ data := #[] }) || decide ((s.size : Int) > 24)))), (14, Xv 1 (!((seq s ({ data := #[] }) || decide ((s.size : Int) > 24)) || decide (((((s[0]?).getD 0).toNat : Nat) : Int) < 97))) (Xb s 0) (fun hg => by (try simp only [decide_eq_true_eq, decide_eq_false_iff_not, Int.not_lt, Int.not_le, gt_iff_lt, Bool.not_eq_true', Bool.not_eq_false', Bool.or_eq_true, Bool.or_eq_false_iff] at hg); exact ⟨(by first | omega | (simp; omega) | (simp; done) | assumption), (str_pos (by first | exact hg | exact hg.1 | exact hg.1.1))⟩)), (15, Xv 1 (!((seq s ({ data := #[] }) || decide ((s.size : Int) > 24)) || decide (((((s[0]?).getD 0).toNat : Nat) : Int) < 97))) X0), (16, X (Xk' ((seq s ({ data := #[] }) || decide ((s.size : Int) > 24)) || decide (((((s[0]?).getD 0).toNat : Nat) : Int) < 97))))]] (((seq s ({ data := #[] }) || decide ((s.size : Int) > 24)) || decide (((((s[0]?).getD 0).toNat : Nat) : Int) < 97)) || decide (((((s[0]?).getD 0).toNat : Nat) : Int) > 122)) (fun h1 => ?_) (fun h1 => ?_)
 ·
  (try simp only [decide_eq_true_eq, decide_eq_false_iff_not, Int.not_lt, Int.not_le, gt_iff_lt, Bool.or_eq_true, Bool.or_eq_false_iff] at h1)
  have e1 : ((nameGo s) : Bool) = false := by
   simp only [byt0, seq_mt, decide_eq_true_eq] at h1; unfold nameGo; rw [decide_eq_false (by omega)]; rfl
  exact .finE [.r []] [] (fun z0 => (VB z0, [])) (false : Bool) ((nameGo s) : Bool) e1
 ·
  (try simp only [decide_eq_true_eq, decide_eq_false_iff_not, Int.not_lt, Int.not_le, gt_iff_lt, Bool.or_eq_true, Bool.or_eq_false_iff] at h1)
  refine .loop (α := Nat) [.r []] 168 (fun i => ([(0, VS s), (23, VI (s.size : Int)), (24, VI (i : Int))], [])) (fun i => i ≤ s.size ∧ nmS s 0 = nmS s i) (fun i => s.size - i) (0 : Nat) ?_ ?_
  ·
   exact ⟨by omega, rfl⟩
  rintro i I4 ih4
  try dsimp only at I4
  refine .br [.r []] (decide ((i : Int) < (s.size : Int))) (fun h4 => ?_) (fun h4 => ?_)
  ·
   (try simp only [decide_eq_true_eq, decide_eq_false_iff_not, Int.not_lt, Int.not_le] at h4)
   refine .br [.r [], .r [(2, X (Xb s (i : Int)))], .r [(4, Xv 1 (!(decide (((((s[i]?).getD 0).toNat : Nat) : Int) < 97))) X0), (5, X (Xk' (decide (((((s[i]?).getD 0).toNat : Nat) : Int) < 97)))), (8, Xv 1 (decide (((((s[i]?).getD 0).toNat : Nat) : Int) < 97) || decide (((((s[i]?).getD 0).toNat : Nat) : Int) > 122)) X0), (9, Xv 1 (decide (((((s[i]?).getD 0).toNat : Nat) : Int) < 97) || decide (((((s[i]?).getD 0).toNat : Nat) : Int) > 122)) X0), (11, Xv 1 ((decide (((((s[i]?).getD 0).toNat : Nat) : Int) < 97) || decide (((((s[i]?).getD 0).toNat : Nat) : Int) > 122)) && !(decide (((((s[i]?).getD 0).toNat : Nat) : Int) < 48))) X0), (12, Xko (decide (((((s[i]?).getD 0).toNat : Nat) : Int) < 97) || decide (((((s[i]?).getD 0).toNat : Nat) : Int) > 122)) (decide (((((s[i]?).getD 0).toNat : Nat) : Int) < 48))), (13, X (Xk (decide (((((s[i]?).getD 0).toNat : Nat) : Int) < 97) || decide (((((s[i]?).getD 0).toNat : Nat) : Int) > 122)))), (16, Xv 1 ((decide (((((s[i]?).getD 0).toNat : Nat) : Int) < 97) || decide (((((s[i]?).getD 0).toNat : Nat) : Int) > 122)) && (decide (((((s[i]?).getD 0).toNat : Nat) : Int) < 48) || decide (((((s[i]?).getD 0).toNat : Nat) : Int) > 57))) X0), (17, X (Xk ((decide (((((s[i]?).getD 0).toNat : Nat) : Int) < 97) || decide (((((s[i]?).getD 0).toNat : Nat) : Int) > 122)) && (decide (((((s[i]?).getD 0).toNat : Nat) : Int) < 48) || decide (((((s[i]?).getD 0).toNat : Nat) : Int) > 57))))), (20, Xv 1 (((decide (((((s[i]?).getD 0).toNat : Nat) : Int) < 97) || decide (((((s[i]?).getD 0).toNat : Nat) : Int) > 122)) && (decide (((((s[i]?).getD 0).toNat : Nat) : Int) < 48) || decide (((((s[i]?).getD 0).toNat : Nat) : Int) > 57))) && (((((s[i]?).getD 0).toNat : Nat) : Int) != 46)) X0), (21, X (Xk (((decide (((((s[i]?).getD 0).toNat : Nat) : Int) < 97) || decide (((((s[i]?).getD 0).toNat : Nat) : Int) > 122)) && (decide (((((s[i]?).getD 0).toNat : Nat) : Int) < 48) || decide (((((s[i]?).getD 0).toNat : Nat) : Int) > 57))) && (((((s[i]?).getD 0).toNat : Nat) : Int) != 46))))]] ((((decide (((((s[i]?).getD 0).toNat : Nat) : Int) < 97) || decide (((((s[i]?).getD 0).toNat : Nat) : Int) > 122)) && (decide (((((s[i]?).getD 0).toNat : Nat) : Int) < 48) || decide (((((s[i]?).getD 0).toNat : Nat) : Int) > 57))) && (((((s[i]?).getD 0).toNat : Nat) : Int) != 46)) && (((((s[i]?).getD 0).toNat : Nat) : Int) != 45)) (fun h7 => ?_) (fun h7 => ?_)
   ·
    (try simp only [decide_eq_true_eq, decide_eq_false_iff_not, Int.not_lt, Int.not_le, gt_iff_lt, Bool.and_eq_true, Bool.and_eq_false_iff, Bool.not_eq_true', Bool.not_eq_false', Bool.or_eq_true, Bool.or_eq_false_iff, bne_iff_ne, bne_eq_false_iff_eq, ne_eq] at h7)
    have e2 : ((nameGo s) : Bool) = false := by
     simp only [byt0] at h7; unfold nameGo; rw [I4.2, nmS, if_pos (by omega), if_pos (by unfold badC; omega)]; simp
    exact .finE [.r []] [] (fun z0 => (VB z0, [])) (false : Bool) ((nameGo s) : Bool) e2
   ·
    (try simp only [decide_eq_true_eq, decide_eq_false_iff_not, Int.not_lt, Int.not_le, gt_iff_lt, Bool.and_eq_true, Bool.and_eq_false_iff, Bool.not_eq_true', Bool.not_eq_false', Bool.or_eq_true, Bool.or_eq_false_iff, bne_iff_ne, bne_eq_false_iff_eq, ne_eq] at h7)
    refine .back [.r [(0, X (Xn ((i : Int) + 1)))]] [] (ih4 ((i + 1) : Nat) ?_ ?_)
    ·
     simp only [byt0] at h7; refine ⟨by omega, ?_⟩; rw [I4.2, nmS, if_pos (by omega), if_neg (by unfold badC; omega)]
    ·
     ((try dsimp only); omega)
  ·
   (try simp only [decide_eq_true_eq, decide_eq_false_iff_not, Int.not_lt, Int.not_le] at h4)
   have e3 : ((nameGo s) : Bool) = true := by
    simp only [byt0, seq_mt, decide_eq_false_iff_not] at h1; unfold nameGo; rw [I4.2, nmS, if_neg (by omega), decide_eq_true (by omega)]; rfl
   exact .finE [.r []] [] (fun z0 => (VB z0, [])) (true : Bool) ((nameGo s) : Bool) e3

theorem fc_value (s : ByteArray) : FC Tryd.prog 34 [VS s] (app emp []) (VB (valGo s)) (app emp []) := by
 refine .go Tryd.f34 ?_
 refine .br [.r [], .r [(4, Xv 1 (!(seq s ({ data := #[] }))) X0), (5, Xv 1 (!(seq s ({ data := #[] }))) X0), (6, X (Xk' (seq s ({ data := #[] }))))]] (seq s ({ data := #[] }) || decide ((s.size : Int) > 200)) (fun h1 => ?_) (fun h1 => ?_)
 ·
  (try simp only [decide_eq_true_eq, decide_eq_false_iff_not, Int.not_lt, Int.not_le, gt_iff_lt, Bool.or_eq_true, Bool.or_eq_false_iff] at h1)
  have e1 : ((valGo s) : Bool) = false := by
   simp only [seq_mt, decide_eq_true_eq] at h1; unfold valGo; rw [decide_eq_false (by omega)]; rfl
  exact .finE [.r []] [] (fun z0 => (VB z0, [])) (false : Bool) ((valGo s) : Bool) e1
 ·
  (try simp only [decide_eq_true_eq, decide_eq_false_iff_not, Int.not_lt, Int.not_le, gt_iff_lt, Bool.or_eq_true, Bool.or_eq_false_iff] at h1)
  refine .loop (α := Nat) [.r []] 88 (fun i => ([(0, VS s), (12, VI (s.size : Int)), (13, VI (i : Int))], [])) (fun i => i ≤ s.size ∧ vlS s 0 = vlS s i) (fun i => s.size - i) (0 : Nat) ?_ ?_
  ·
   exact ⟨by omega, rfl⟩
  rintro i I4 ih4
  try dsimp only at I4
  refine .br [.r []] (decide ((i : Int) < (s.size : Int))) (fun h4 => ?_) (fun h4 => ?_)
  ·
   (try simp only [decide_eq_true_eq, decide_eq_false_iff_not, Int.not_lt, Int.not_le] at h4)
   refine .br [.r [], .r [(2, X (Xb s (i : Int))), (7, Xv 2 (!(decide (((((s[i]?).getD 0).toNat : Nat) : Int) < 32))) (Xb s (i : Int))), (8, Xv 1 (!(decide (((((s[i]?).getD 0).toNat : Nat) : Int) < 32))) X0), (9, X (Xk' (decide (((((s[i]?).getD 0).toNat : Nat) : Int) < 32))))]] (decide (((((s[i]?).getD 0).toNat : Nat) : Int) < 32) || decide (((((s[i]?).getD 0).toNat : Nat) : Int) > 126)) (fun h6 => ?_) (fun h6 => ?_)
   ·
    (try simp only [decide_eq_true_eq, decide_eq_false_iff_not, Int.not_lt, Int.not_le, gt_iff_lt, Bool.or_eq_true, Bool.or_eq_false_iff] at h6)
    have e2 : ((valGo s) : Bool) = false := by
     simp only [byt0] at h6; unfold valGo; rw [I4.2, vlS, if_pos (by omega), if_pos (by omega)]; simp
    exact .finE [.r []] [] (fun z0 => (VB z0, [])) (false : Bool) ((valGo s) : Bool) e2
   ·
    (try simp only [decide_eq_true_eq, decide_eq_false_iff_not, Int.not_lt, Int.not_le, gt_iff_lt, Bool.or_eq_true, Bool.or_eq_false_iff] at h6)
    refine .back [.r [(0, X (Xn ((i : Int) + 1)))]] [] (ih4 ((i + 1) : Nat) ?_ ?_)
    ·
     simp only [byt0] at h6; refine ⟨by omega, ?_⟩; rw [I4.2, vlS, if_pos (by omega), if_neg (by omega)]
    ·
     ((try dsimp only); omega)
  ·
   (try simp only [decide_eq_true_eq, decide_eq_false_iff_not, Int.not_lt, Int.not_le] at h4)
   have e3 : ((valGo s) : Bool) = true := by
    simp only [seq_mt, decide_eq_false_iff_not] at h1; unfold valGo; rw [I4.2, vlS, if_neg (by omega), decide_eq_true (by omega)]; rfl
   exact .finE [.r []] [] (fun z0 => (VB z0, [])) (true : Bool) ((valGo s) : Bool) e3

def chkA (e : Bool) (l : List Attr) (i : Nat) : Int :=
  if i < l.length then
    if nameGo (l.getD i default).name = false then 9
    else if valGo (l.getD i default).val = false ∧ (e = false ∨ seq (l.getD i default).val { data := #[] } = false) then 23
    else if 0 < i ∧ (slt (l.getD i default).name (l.getD (i - 1) default).name = true ∨ seq (l.getD i default).name (l.getD (i - 1) default).name = true) then 5
    else chkA e l (i + 1)
  else 0
termination_by l.length - i
def Szd (l : List Attr) : Prop := ∀ a ∈ l, a.name.size ≤ 9223372036854775807 ∧ a.val.size ≤ 9223372036854775807
theorem Szd.at {l : List Attr} (h : Szd l) {i : Nat} (hi : i < l.length) : (l.getD i default).name.size ≤ 9223372036854775807 ∧ (l.getD i default).val.size ≤ 9223372036854775807 := by
  rw [show l.getD i default = l[i] by simp [List.getD, List.getElem?_eq_getElem hi]]
  exact h _ (List.getElem_mem hi)

theorem fc_chk (l : List Attr) (e : Bool) : FC Tryd.prog 27 [VL 2 attrT l, VB e] (app emp []) (VI (chkA e l 0)) (app emp []) := by
 refine .go Tryd.f27 ?_
 refine .len 0 (fun hl0 => ?_)
 refine .loop (α := Nat) [.r [], .r [(1, X (Xl attrT l))]] 32 (fun i => ([(0, VL 2 attrT l), (1, VB e), (7, VL 2 attrT l), (8, VI (l.length : Int)), (9, VI (i : Int))], [])) (fun i => i ≤ l.length ∧ chkA e l 0 = chkA e l i) (fun i => l.length - i) (0 : Nat) ?_ ?_
 ·
  exact ⟨by omega, rfl⟩
 rintro i I2 ih2
 try dsimp only at I2
 refine .br [.r []] (decide ((i : Int) < (l.length : Int))) (fun h2 => ?_) (fun h2 => ?_)
 ·
  (try simp only [decide_eq_true_eq, decide_eq_false_iff_not, Int.not_lt, Int.not_le] at h2)
  refine .br [.r [(1, X (Xi attrT l (i : Int)))], .r [(2, X (Xc0 (fc_name (((l.getD i default)).name)) X0))]] (!(nameGo (((l.getD i default)).name))) (fun h4 => ?_) (fun h4 => ?_)
  ·
   (try simp only [Bool.not_eq_true', Bool.not_eq_false'] at h4)
   have e1 : ((chkA e l 0) : Int) = 9 := by
    rw [I2.2, chkA, if_pos (by omega), if_pos h4]
   exact .finE [.r []] [] (fun z0 => (VI z0, [])) (9 : Int) ((chkA e l 0) : Int) e1
  ·
   (try simp only [Bool.not_eq_true', Bool.not_eq_false'] at h4)
   refine .br [.r [(2, X (Xc0 (fc_value (((l.getD i default)).val)) X0)), (6, Xv 1 (!(valGo (((l.getD i default)).val))) X0), (8, Xv 1 ((!(valGo (((l.getD i default)).val))) && e) X0), (9, Xv 1 ((!(valGo (((l.getD i default)).val))) && e) X0), (10, Xka (!(valGo (((l.getD i default)).val))) e), (11, Xv 1 (!(valGo (((l.getD i default)).val))) X0), (12, X (Xk (!(valGo (((l.getD i default)).val)))))]] (!(valGo (((l.getD i default)).val)) && !(e && seq (((l.getD i default)).val) ({ data := #[] }))) (fun h6 => ?_) (fun h6 => ?_)
   ·
    (try simp only [Bool.not_eq_true', Bool.not_eq_false', Bool.and_eq_true, Bool.and_eq_false_iff] at h6)
    have e2 : ((chkA e l 0) : Int) = 23 := by
     rw [I2.2, chkA, if_pos (by omega), if_neg (by rw [h4]; decide), if_pos h6]
    exact .finE [.r []] [] (fun z0 => (VI z0, [])) (23 : Int) ((chkA e l 0) : Int) e2
   ·
    (try simp only [Bool.not_eq_true', Bool.not_eq_false', Bool.and_eq_true, Bool.and_eq_false_iff] at h6)
    refine .br [.r [(4, Xv 1 (decide ((i : Int) > 0)) X0), (7, Xv 1 (decide ((i : Int) > 0)) (Xn ((i : Int) - 1))), (8, Xv 2 (decide ((i : Int) > 0)) (Xi' attrT l ((i : Int) - 1) (i - 1))), (9, Xv 1 (decide ((i : Int) > 0)) X0), (10, Xv 1 (decide ((i : Int) > 0)) X0), (11, Xv 2 (decide ((i : Int) > 0)) X0), (12, X (Xk (decide ((i : Int) > 0))))]] (decide ((i : Int) > 0) && (slt (((l.getD i default)).name) (((l.getD (i - 1) default)).name) || seq (((l.getD i default)).name) (((l.getD (i - 1) default)).name))) (fun h8 => ?_) (fun h8 => ?_)
    ·
     (try simp only [decide_eq_true_eq, decide_eq_false_iff_not, Int.not_lt, Int.not_le, gt_iff_lt, Bool.and_eq_true, Bool.and_eq_false_iff, Bool.not_eq_true', Bool.not_eq_false', Bool.or_eq_true, Bool.or_eq_false_iff] at h8)
     have e3 : ((chkA e l 0) : Int) = 5 := by
      rw [I2.2, chkA, if_pos (by omega), if_neg (by rw [h4]; decide), if_neg (by clear ih2; rintro ⟨a, b⟩; simp_all), if_pos ⟨by omega, h8.2⟩]
     exact .finE [.r []] [] (fun z0 => (VI z0, [])) (5 : Int) ((chkA e l 0) : Int) e3
    ·
     (try simp only [decide_eq_true_eq, decide_eq_false_iff_not, Int.not_lt, Int.not_le, gt_iff_lt, Bool.and_eq_true, Bool.and_eq_false_iff, Bool.not_eq_true', Bool.not_eq_false', Bool.or_eq_true, Bool.or_eq_false_iff] at h8)
     refine .back [.r [(0, X (Xn ((i : Int) + 1)))]] [] (ih2 ((i + 1) : Nat) ?_ ?_)
     ·
      refine ⟨by omega, ?_⟩; rw [I2.2, chkA, if_pos (by omega), if_neg (by rw [h4]; decide), if_neg (by clear ih2; rintro ⟨a, b⟩; simp_all), if_neg (by clear ih2; rintro ⟨a, b⟩; rcases h8 with h | ⟨h, h2⟩; omega; rcases b with b | b <;> simp_all)]
     ·
      ((try dsimp only); omega)
 ·
  (try simp only [decide_eq_true_eq, decide_eq_false_iff_not, Int.not_lt, Int.not_le] at h2)
  have e4 : ((chkA e l 0) : Int) = 0 := by
   rw [I2.2, chkA, if_neg (by omega)]
  exact .finE [.r []] [] (fun z0 => (VI z0, [])) (0 : Int) ((chkA e l 0) : Int) e4

theorem fc_acheck (l : List Attr) : FC Tryd.prog 18 [VL 2 attrT l] (app emp []) (VI (chkA false l 0)) (app emp []) := by
 refine .go Tryd.f18 ?_
 refine .len 0 (fun hl0 => ?_)
 exact .fin [.r [], .r [(1, X (Xc0 (fc_chk l false) X0))]] []

def errA (e : Bool) (l : List Attr) (i : Nat) : Int :=
  if i < l.length then
    if nameRf (l.getD i default).name = false then 9
    else if valRf (l.getD i default).val = false ∧ (e = false ∨ seq (l.getD i default).val { data := #[] } = false) then 23
    else if 0 < i ∧ slt (l.getD (i - 1) default).name (l.getD i default).name = false then 5
    else errA e l (i + 1)
  else 0
termination_by l.length - i
def sameA (a b : List Attr) (i : Nat) : Bool :=
  if i < a.length then (if (a.getD i default).name = (b.getD i default).name ∧ (a.getD i default).val = (b.getD i default).val then sameA a b (i + 1) else false) else true
termination_by a.length - i
def sameL (a b : List Attr) : Bool := decide (a.length = b.length) && sameA a b 0
def getA (l : List Attr) (n : ByteArray) (i : Nat) : ByteArray :=
  if i < l.length then (if (l.getD i default).name = n then (l.getD i default).val else getA l n (i + 1)) else mt
termination_by l.length - i
theorem fc_sameAttrs (a b : List Attr) : FC Tryd.prog 9 [VL 2 attrT a, VL 2 attrT b] (app emp []) (VB (sameL a b)) (app emp []) := by
 refine .go Tryd.f9 ?_
 refine .len 0 (fun hl0 => ?_)
 refine .len 1 (fun hl1 => ?_)
 refine .br [.r [], .r [(1, X (Xl attrT a)), (3, X (Xl attrT b))]] ((a.length : Int) != (b.length : Int)) (fun h1 => ?_) (fun h1 => ?_)
 ·
  (try simp only [bne_iff_ne, bne_eq_false_iff_eq, ne_eq] at h1)
  have e1 : ((sameL a b) : Bool) = false := by
   unfold sameL; rw [decide_eq_false (by omega)]; rfl
  exact .finE [.r []] [] (fun z0 => (VB z0, [])) (false : Bool) ((sameL a b) : Bool) e1
 ·
  (try simp only [bne_iff_ne, bne_eq_false_iff_eq, ne_eq] at h1)
  refine .loop (α := Nat) [.r [(1, X (Xl attrT a))]] 72 (fun i => ([(0, VL 2 attrT a), (1, VL 2 attrT b), (12, VI (a.length : Int)), (13, VI (i : Int))], [])) (fun i => i ≤ a.length ∧ sameA a b 0 = sameA a b i) (fun i => a.length - i) (0 : Nat) ?_ ?_
  ·
   exact ⟨by omega, rfl⟩
  rintro i I4 ih4
  try dsimp only at I4
  refine .br [.r []] (decide ((i : Int) < (a.length : Int))) (fun h4 => ?_) (fun h4 => ?_)
  ·
   (try simp only [decide_eq_true_eq, decide_eq_false_iff_not, Int.not_lt, Int.not_le] at h4)
   refine .br [.r [], .r [(2, X (Xi attrT a (i : Int))), (6, X (Xi attrT b (i : Int)))]] (!(seq (((a.getD i default)).name) (((b.getD i default)).name) && (seq (((a.getD i default)).val) (((b.getD i default)).val) && true))) (fun h6 => ?_) (fun h6 => ?_)
   ·
    (try simp only [Bool.not_eq_true', Bool.not_eq_false', Bool.and_eq_true, Bool.and_eq_false_iff] at h6)
    have e2 : ((sameL a b) : Bool) = false := by
     unfold sameL; rw [I4.2, sameA, if_pos (by omega), if_neg (by clear ih4; simp only [seq_no, seq_iff] at h6; rintro ⟨x, y⟩; simp_all)]; simp
    exact .finE [.r []] [] (fun z0 => (VB z0, [])) (false : Bool) ((sameL a b) : Bool) e2
   ·
    (try simp only [Bool.not_eq_true', Bool.not_eq_false', Bool.and_eq_true, Bool.and_eq_false_iff] at h6)
    refine .back [.r [(0, X (Xn ((i : Int) + 1)))]] [] (ih4 ((i + 1) : Nat) ?_ ?_)
    ·
     refine ⟨by omega, ?_⟩; rw [I4.2, sameA, if_pos (by omega), if_pos (by clear ih4; simp only [seq_no, seq_iff] at h6; simp_all)]
    ·
     ((try dsimp only); omega)
  ·
   (try simp only [decide_eq_true_eq, decide_eq_false_iff_not, Int.not_lt, Int.not_le] at h4)
   have e3 : ((sameL a b) : Bool) = true := by
    unfold sameL; rw [I4.2, sameA, if_neg (by omega), decide_eq_true (by omega)]; rfl
   exact .finE [.r []] [] (fun z0 => (VB z0, [])) (true : Bool) ((sameL a b) : Bool) e3
end Go.Ch
end
section
set_option linter.unusedVariables false
set_option linter.unusedSimpArgs false
set_option maxRecDepth 100000
set_option maxHeartbeats 4000000
open Go Go.Proofs Go.Ab
namespace Go.Ch
end Go.Ch
end
section
set_option linter.unusedVariables false
set_option linter.unusedSimpArgs false
set_option maxRecDepth 100000
set_option maxHeartbeats 4000000
open Go Go.Proofs Go.Ab
namespace Go.Ch
def applyL (l c : List Attr) : List Attr := if chkA false l 0 = 0 ∧ chkA true c 0 = 0 then fm rawG l c else []
def applyE (l c : List Attr) : Int := if chkA false l 0 = 0 then chkA true c 0 else chkA false l 0
def undoL (l c : List Attr) : List Attr := if applyE l c = 0 then fm chgG (applyL l c) l else []
def betL (a b : List Attr) : List Attr := if chkA false a 0 = 0 ∧ chkA false b 0 = 0 then fm chgG a b else []
def betE (a b : List Attr) : Int := if chkA false a 0 = 0 then chkA false b 0 else chkA false a 0
def joinL (a b : List Attr) : List Attr := if chkA true a 0 = 0 ∧ chkA true b 0 = 0 then fm botG a b else []
def joinE (a b : List Attr) : Int := if chkA true a 0 = 0 then chkA true b 0 else chkA true a 0
def pairL (a b : List Attr) : List Attr := if chkA true a 0 = 0 ∧ chkA true b 0 = 0 then fm wioG a b else []
def pairR (a b : List Attr) : List Attr := if chkA true a 0 = 0 ∧ chkA true b 0 = 0 then b else []
end Go.Ch
end
section
set_option linter.unusedVariables false
set_option linter.unusedSimpArgs false
namespace Go.Ch
open Go Go.Ab

def NPg (s : ByteArray) : Prop := nameGo s = true
def VPg (s : ByteArray) : Prop := valGo s = true
abbrev VG := V NPg VPg
theorem sameA_self (a : List Attr) : ∀ (n i : Nat), a.length - i = n → sameA a a i = true
  | 0, i, h => by rw [sameA, if_neg (by omega)]
  | n + 1, i, h => by
    have hi : i < a.length := by omega
    rw [sameA, if_pos hi, if_pos ⟨rfl, rfl⟩, sameA_self a n (i + 1) (by omega)]
theorem sameL_self (a : List Attr) : sameL a a = true := by unfold sameL; rw [sameA_self a _ 0 rfl]; simp
end Go.Ch
end
section
set_option linter.unusedVariables false
set_option linter.unusedSimpArgs false
namespace Go.Ch
open Go Go.Ab

structure Elem where
  char : Int
  ref : Int
  attrs : List Attr
instance : Inhabited Elem := ⟨⟨0, 0, []⟩⟩
def elemT (e : Elem) : Tree := .agg [.sc (.int .i64 e.char), .sc (.int .i64 e.ref), .lst 2 (e.attrs.map attrT)]
def CharP (c : Int) : Prop := c = 9 ∨ c = 10 ∨ (32 ≤ c ∧ c < 127) ∨ (160 ≤ c ∧ c < 55296) ∨ (57343 < c ∧ c ≤ 1114111)
instance (c : Int) : Decidable (CharP c) := by unfold CharP; infer_instance
def elemE (x : Elem) : Int :=
  if x.char = 0 ↔ x.ref = 0 then 4
  else if (x.ref = 0 ∧ ¬ CharP x.char) ∨ (x.ref ≠ 0 ∧ (x.ref < 1 ∨ 1073741824 < x.ref)) then 2
  else chkA false x.attrs 0
theorem elemE_4 {x : Elem} (h : x.char = 0 ↔ x.ref = 0) : elemE x = 4 := by unfold elemE; rw [if_pos h]
theorem elemE_2 {x : Elem} (h : ¬ (x.char = 0 ↔ x.ref = 0)) (h2 : (x.ref = 0 ∧ ¬ CharP x.char) ∨ (x.ref ≠ 0 ∧ (x.ref < 1 ∨ 1073741824 < x.ref))) : elemE x = 2 := by unfold elemE; rw [if_neg h, if_pos h2]
theorem elemE_c {x : Elem} (h : ¬ (x.char = 0 ↔ x.ref = 0)) (h3 : ¬ x.ref = 0 ∨ CharP x.char) (h4 : x.ref = 0 ∨ (1 ≤ x.ref ∧ x.ref ≤ 1073741824)) : elemE x = chkA false x.attrs 0 := by
  unfold elemE
  rw [if_neg h, if_neg]
  rintro (⟨a, b⟩ | ⟨a, b⟩)
  · rcases h3 with h3 | h3
    · exact h3 a
    · exact b h3
  · rcases h4 with h4 | h4
    · exact a h4
    · omega
def partE (l : List Elem) (i : Nat) : Int := if i < l.length then (if elemE (l.getD i default) = 0 then partE l (i + 1) else elemE (l.getD i default)) else 0
termination_by l.length - i
def SzE (l : List Elem) : Prop := ∀ x ∈ l, Szd x.attrs
theorem getDE_mem {l : List Elem} {k : Nat} (h : k < l.length) : l.getD k default ∈ l := by
  rw [show l.getD k default = l[k] by simp [List.getD, List.getElem?_eq_getElem h]]
  exact List.getElem_mem h
def sameE (x y : Elem) : Bool := (x.char == y.char && x.ref == y.ref) && sameL x.attrs y.attrs
def sameFi (a b : List Elem) (i : Nat) : Bool := if i < a.length then (if sameE (a.getD i default) (b.getD i default) = true then sameFi a b (i + 1) else false) else true
termination_by a.length - i
def sameF (a b : List Elem) : Bool := decide (a.length = b.length) && sameFi a b 0
theorem partE_all (l : List Elem) : ∀ (n i : Nat), l.length - i = n → (partE l i = 0 ↔ ∀ k, i ≤ k → k < l.length → elemE (l.getD k default) = 0)
  | 0, i, h => by rw [partE, if_neg (by omega)]; exact ⟨fun _ k h1 h2 => by omega, fun _ => rfl⟩
  | n + 1, i, h => by
    have hi : i < l.length := by omega
    have ih := partE_all l n (i + 1) (by omega)
    rw [partE, if_pos hi]
    by_cases e : elemE (l.getD i default) = 0
    · rw [if_pos e, ih]
      constructor
      · intro h k h1 h2
        by_cases ek : k = i
        · subst ek; exact e
        · exact h k (by omega) h2
      · exact fun h k h1 h2 => h k (by omega) h2
    · rw [if_neg e]
      exact ⟨fun h => absurd h e, fun h => h i (Nat.le_refl _) hi⟩
theorem part_iff {l : List Elem} : partE l 0 = 0 ↔ ∀ x ∈ l, elemE x = 0 := by
  rw [partE_all l _ 0 rfl]
  constructor
  · intro h x hx
    obtain ⟨k, hk, e⟩ := List.mem_iff_getElem.1 hx
    have := h k (by omega) hk
    rw [← e]
    simpa [List.getD, List.getElem?_eq_getElem hk] using this
  · exact fun h k _ hk => h _ (getDE_mem hk)
end Go.Ch
end
section
set_option linter.unusedVariables false
set_option linter.unusedSimpArgs false
set_option maxRecDepth 100000
set_option maxHeartbeats 4000000
open Go Go.Proofs Go.Ab
namespace Go.Ch
theorem fc_char (c : Int) : FC Tryd.prog 20 [VI c] (app emp []) (VB (decide (CharP c))) (app emp []) := by
 refine .go Tryd.f20 ?_
 have e1 : ((decide (CharP c)) : Bool) = (((((c == 9) || (c == 10)) || (decide (c ≥ 32) && decide (c < 127))) || (decide (c ≥ 160) && decide (c < 55296))) || (decide (c > 57343) && decide (c ≤ 1114111))) := by
  rw [Bool.eq_iff_iff, decide_eq_true_iff]; unfold CharP; simp only [Bool.or_eq_true, Bool.and_eq_true, decide_eq_true_eq, beq_iff_eq]; constructor <;> intro hh <;> omega
 exact .finE [.r [], .r [(4, Xv 1 (!(c == 9)) X0), (5, X (Xk' (c == 9))), (8, Xv 1 (!((c == 9) || (c == 10))) X0), (9, Xv 1 (!((c == 9) || (c == 10))) X0), (11, Xv 1 ((!((c == 9) || (c == 10))) && (decide (c ≥ 32))) X0), (12, Xka (!((c == 9) || (c == 10))) (decide (c ≥ 32))), (13, X (Xk' ((c == 9) || (c == 10)))), (16, Xv 1 (!(((c == 9) || (c == 10)) || (decide (c ≥ 32) && decide (c < 127)))) X0), (17, Xv 1 (!(((c == 9) || (c == 10)) || (decide (c ≥ 32) && decide (c < 127)))) X0), (19, Xv 1 ((!(((c == 9) || (c == 10)) || (decide (c ≥ 32) && decide (c < 127)))) && (decide (c ≥ 160))) X0), (20, Xka (!(((c == 9) || (c == 10)) || (decide (c ≥ 32) && decide (c < 127)))) (decide (c ≥ 160))), (21, X (Xk' (((c == 9) || (c == 10)) || (decide (c ≥ 32) && decide (c < 127))))), (24, Xv 1 (!((((c == 9) || (c == 10)) || (decide (c ≥ 32) && decide (c < 127))) || (decide (c ≥ 160) && decide (c < 55296)))) X0), (25, Xv 1 (!((((c == 9) || (c == 10)) || (decide (c ≥ 32) && decide (c < 127))) || (decide (c ≥ 160) && decide (c < 55296)))) X0), (27, Xv 1 ((!((((c == 9) || (c == 10)) || (decide (c ≥ 32) && decide (c < 127))) || (decide (c ≥ 160) && decide (c < 55296)))) && (decide (c > 57343))) X0), (28, Xka (!((((c == 9) || (c == 10)) || (decide (c ≥ 32) && decide (c < 127))) || (decide (c ≥ 160) && decide (c < 55296)))) (decide (c > 57343))), (29, X (Xk' ((((c == 9) || (c == 10)) || (decide (c ≥ 32) && decide (c < 127))) || (decide (c ≥ 160) && decide (c < 55296)))))]] [] (fun z0 => (VB z0, [])) ((((((c == 9) || (c == 10)) || (decide (c ≥ 32) && decide (c < 127))) || (decide (c ≥ 160) && decide (c < 55296))) || (decide (c > 57343) && decide (c ≤ 1114111))) : Bool) ((decide (CharP c)) : Bool) e1

theorem nz_iff {a b : Int} : ((a != 0) = (b != 0)) ↔ (a = 0 ↔ b = 0) := by
  rw [Bool.eq_iff_iff]; simp; omega

theorem fc_elem (x : Elem) : FC Tryd.prog 22 [.t (elemT x)] (app emp []) (VI (elemE x)) (app emp []) := by
 refine .go Tryd.f22 ?_
 refine .br [.r [], .r []] ((x.char != 0) == (x.ref != 0)) (fun h1 => ?_) (fun h1 => ?_)
 ·
  (try simp only [beq_iff_eq, beq_eq_false_iff_ne, ne_eq, bne_iff_ne, bne_eq_false_iff_eq] at h1)
  have e1 : ((elemE x) : Int) = 4 := by
   first | exact elemE_4 (nz_iff.1 h1) | exact elemE_2 (fun h => h1 (nz_iff.2 h)) (.inl h3) | exact elemE_2 (fun h => h1 (nz_iff.2 h)) (.inr h4) | exact elemE_c (fun h => h1 (nz_iff.2 h)) h3 h4 | (exfalso; simp_all; done)
  exact .finE [.r []] [] (fun z0 => (VI z0, [])) (4 : Int) ((elemE x) : Int) e1
 ·
  (try simp only [beq_iff_eq, beq_eq_false_iff_ne, ne_eq, bne_iff_ne, bne_eq_false_iff_eq] at h1)
  refine .br [.r [(5, Xv 1 (x.ref == 0) X0), (6, Xv 1 (x.ref == 0) (Xc0 (fc_char x.char) X0)), (7, Xv 1 (x.ref == 0) X0), (8, X (Xk (x.ref == 0)))]] ((x.ref == 0) && !(decide (CharP x.char))) (fun h3 => ?_) (fun h3 => ?_)
  ·
   (try simp only [decide_eq_true_eq, decide_eq_false_iff_not, Int.not_lt, Int.not_le, Bool.not_eq_true', Bool.not_eq_false', Bool.and_eq_true, Bool.and_eq_false_iff, beq_iff_eq, beq_eq_false_iff_ne, ne_eq] at h3)
   refine .br [] ((x.ref == 0) && !(decide (CharP x.char))) (fun h3 => ?_) (fun h3 => ?_)
   ·
    (try simp only [decide_eq_true_eq, decide_eq_false_iff_not, Int.not_lt, Int.not_le, Bool.not_eq_true', Bool.not_eq_false', Bool.and_eq_true, Bool.and_eq_false_iff, beq_iff_eq, beq_eq_false_iff_ne, ne_eq] at h3)
    have e2 : ((elemE x) : Int) = 2 := by
     first | exact elemE_4 (nz_iff.1 h1) | exact elemE_2 (fun h => h1 (nz_iff.2 h)) (.inl h3) | exact elemE_2 (fun h => h1 (nz_iff.2 h)) (.inr h4) | exact elemE_c (fun h => h1 (nz_iff.2 h)) h3 h4 | (exfalso; simp_all; done)
    exact .finE [.r []] [] (fun z0 => (VI z0, [])) (2 : Int) ((elemE x) : Int) e2
   ·
    (try simp only [decide_eq_true_eq, decide_eq_false_iff_not, Int.not_lt, Int.not_le, Bool.not_eq_true', Bool.not_eq_false', Bool.and_eq_true, Bool.and_eq_false_iff, beq_iff_eq, beq_eq_false_iff_ne, ne_eq] at h3)
    have e3 : ((elemE x) : Int) = (chkA false x.attrs 0) := by
     first | exact elemE_4 (nz_iff.1 h1) | exact elemE_2 (fun h => h1 (nz_iff.2 h)) (.inl h3) | exact elemE_2 (fun h => h1 (nz_iff.2 h)) (.inr h4) | exact elemE_c (fun h => h1 (nz_iff.2 h)) h3 h4 | (exfalso; simp_all; done)
    exact .finE [.r [(2, X (Xc0 (fc_acheck x.attrs) X0))]] [] (fun z0 => (VI z0, [])) ((chkA false x.attrs 0) : Int) ((elemE x) : Int) e3
  ·
   (try simp only [decide_eq_true_eq, decide_eq_false_iff_not, Int.not_lt, Int.not_le, Bool.not_eq_true', Bool.not_eq_false', Bool.and_eq_true, Bool.and_eq_false_iff, beq_iff_eq, beq_eq_false_iff_ne, ne_eq] at h3)
   refine .br [.r [(5, Xv 1 (x.ref != 0) X0), (6, Xv 1 (x.ref != 0) X0), (7, Xv 1 (x.ref != 0) X0), (9, Xv 1 ((x.ref != 0) && !(decide (x.ref < 1))) X0), (10, Xv 1 ((x.ref != 0) && !(decide (x.ref < 1))) X0), (11, Xko (x.ref != 0) (decide (x.ref < 1))), (12, X (Xk (x.ref != 0)))]] ((x.ref != 0) && (decide (x.ref < 1) || decide (x.ref > 1073741824))) (fun h4 => ?_) (fun h4 => ?_)
   ·
    (try simp only [decide_eq_true_eq, decide_eq_false_iff_not, Int.not_lt, Int.not_le, gt_iff_lt, Bool.and_eq_true, Bool.and_eq_false_iff, Bool.not_eq_true', Bool.not_eq_false', Bool.or_eq_true, Bool.or_eq_false_iff, bne_iff_ne, bne_eq_false_iff_eq, ne_eq] at h4)
    have e4 : ((elemE x) : Int) = 2 := by
     first | exact elemE_4 (nz_iff.1 h1) | exact elemE_2 (fun h => h1 (nz_iff.2 h)) (.inl h3) | exact elemE_2 (fun h => h1 (nz_iff.2 h)) (.inr h4) | exact elemE_c (fun h => h1 (nz_iff.2 h)) h3 h4 | (exfalso; simp_all; done)
    exact .finE [.r []] [] (fun z0 => (VI z0, [])) (2 : Int) ((elemE x) : Int) e4
   ·
    (try simp only [decide_eq_true_eq, decide_eq_false_iff_not, Int.not_lt, Int.not_le, gt_iff_lt, Bool.and_eq_true, Bool.and_eq_false_iff, Bool.not_eq_true', Bool.not_eq_false', Bool.or_eq_true, Bool.or_eq_false_iff, bne_iff_ne, bne_eq_false_iff_eq, ne_eq] at h4)
    have e5 : ((elemE x) : Int) = (chkA false x.attrs 0) := by
     first | exact elemE_4 (nz_iff.1 h1) | exact elemE_2 (fun h => h1 (nz_iff.2 h)) (.inl h3) | exact elemE_2 (fun h => h1 (nz_iff.2 h)) (.inr h4) | exact elemE_c (fun h => h1 (nz_iff.2 h)) h3 h4 | (exfalso; simp_all; done)
    exact .finE [.r [(2, X (Xc0 (fc_acheck x.attrs) X0))]] [] (fun z0 => (VI z0, [])) ((chkA false x.attrs 0) : Int) ((elemE x) : Int) e5

theorem fc_checkPart (l : List Elem) : FC Tryd.prog 10 [VL 3 elemT l] (app emp []) (VI (partE l 0)) (app emp []) := by
 refine .go Tryd.f10 ?_
 refine .len 0 (fun hl0 => ?_)
 refine .loop (α := Nat) [.r [], .r [(1, X (Xl elemT l))]] 32 (fun i => ([(6, VL 3 elemT l), (7, VI (l.length : Int)), (8, VI (i : Int))], [])) (fun i => i ≤ l.length ∧ partE l 0 = partE l i) (fun i => l.length - i) (0 : Nat) ?_ ?_
 ·
  exact ⟨by omega, rfl⟩
 rintro i I2 ih2
 try dsimp only at I2
 refine .br [.r []] (decide ((i : Int) < (l.length : Int))) (fun h2 => ?_) (fun h2 => ?_)
 ·
  (try simp only [decide_eq_true_eq, decide_eq_false_iff_not, Int.not_lt, Int.not_le] at h2)
  refine .br [.r [(0, X (Xi elemT l (i : Int)))], .r [(1, X (Xc0 (fc_elem ((l.getD i default))) X0))], .r []] ((elemE ((l.getD i default))) != 0) (fun h5 => ?_) (fun h5 => ?_)
  ·
   (try simp only [bne_iff_ne, bne_eq_false_iff_eq, ne_eq] at h5)
   have e1 : ((partE l 0) : Int) = (elemE ((l.getD i default))) := by
    rw [I2.2, partE]; ((repeat' split) <;> first | rfl | omega | (simp_all; done) | (simp_all; omega))
   exact .finE [.r []] [] (fun z0 => (VI z0, [])) ((elemE ((l.getD i default))) : Int) ((partE l 0) : Int) e1
  ·
   (try simp only [bne_iff_ne, bne_eq_false_iff_eq, ne_eq] at h5)
   refine .back [.r [(0, X (Xn ((i : Int) + 1)))]] [] (ih2 ((i + 1) : Nat) ?_ ?_)
   ·
    refine ⟨by omega, ?_⟩; rw [I2.2, partE, if_pos (by omega), if_pos (by omega)]
   ·
    ((try dsimp only); omega)
 ·
  (try simp only [decide_eq_true_eq, decide_eq_false_iff_not, Int.not_lt, Int.not_le] at h2)
  have e2 : ((partE l 0) : Int) = 0 := by
   rw [I2.2, partE]; ((repeat' split) <;> first | rfl | omega | (simp_all; done) | (simp_all; omega))
  exact .finE [.r []] [] (fun z0 => (VI z0, [])) (0 : Int) ((partE l 0) : Int) e2

end Go.Ch
end
section
set_option linter.unusedVariables false
set_option linter.unusedSimpArgs false
namespace Go.Ch
open Go Go.Ab

structure DStep where
  kind : Int
  n : Int
  attrs : List Attr
  elems : List Elem
instance : Inhabited DStep := ⟨⟨0, 0, [], []⟩⟩
def dstepT (s : DStep) : Tree := .agg [.sc (.int .i64 s.kind), .sc (.int .i64 s.n), .lst 2 (s.attrs.map attrT), .lst 3 (s.elems.map elemT)]
def AN (n : Nat) (l : List Elem) : Prop := ∀ x ∈ l, x.attrs.length ≤ n
def stepD (s : DStep) : Int :=
  if s.kind = 1 then (if s.n ≠ 0 ∨ 0 < s.attrs.length then 4 else if s.elems.length = 0 then 11 else partE s.elems 0)
  else if s.kind = 0 ∨ s.kind = 2 then
    (if 0 < s.elems.length ∨ (s.kind = 2 ∧ 0 < s.attrs.length) then 4 else if s.n < 1 ∨ 2147483647 < s.n then 2 else chkA true s.attrs 0)
  else 8
def szD (s : DStep) : Int := if s.kind = 1 then (s.elems.length : Int) else s.n
def DOk (s : DStep) : Prop :=
  (s.kind = 1 ∧ s.n = 0 ∧ s.attrs = [] ∧ s.elems ≠ [] ∧ ∀ x ∈ s.elems, elemE x = 0) ∨
  ((s.kind = 0 ∨ s.kind = 2) ∧ s.elems = [] ∧ (s.kind = 2 → s.attrs = []) ∧ 1 ≤ s.n ∧ s.n ≤ 2147483647 ∧ VG true s.attrs)
/-- Neighbours that a delta must not have. -/
def adjD (w x : DStep) : Bool := ((w.kind == x.kind) && ((x.kind != 0) || sameL w.attrs x.attrs)) || ((w.kind == 2) && (x.kind == 1))
/-- Bounds on the lists inside. -/
def DN (n : Nat) (l : List DStep) : Prop := ∀ s ∈ l, s.elems.length ≤ n ∧ s.attrs.length ≤ n ∧ AN n s.elems
def chkD (l : List DStep) (i : Nat) (b a : Int) : Int :=
  if i < l.length then
    if stepD (l.getD i default) ≠ 0 then stepD (l.getD i default)
    else if 0 < i ∧ adjD (l.getD (i - 1) default) (l.getD i default) = true then 5
    else chkD l (i + 1) (if (l.getD i default).kind ≠ 1 then min (b + (l.getD i default).n) 2147483648 else b) (if (l.getD i default).kind ≠ 2 then min (a + szD (l.getD i default)) 2147483648 else a)
  else if 2147483647 < b ∨ 2147483647 < a then 3 else 0
termination_by l.length - i
def checkD (l : List DStep) : Int := chkD l 0 0 0
def oS (s : DStep) : Int := if s.kind = 1 then 0 else s.n
def nS (s : DStep) : Int := if s.kind = 2 then 0 else szD s
def oldD : List DStep → Int
  | [] => 0
  | s :: l => oS s + oldD l
def newD : List DStep → Int
  | [] => 0
  | s :: l => nS s + newD l
def DForm : List DStep → Prop
  | [] => True
  | [s] => DOk s
  | s :: t :: l => DOk s ∧ adjD s t = false ∧ DForm (t :: l)
def DFormAt (l : List DStep) (i : Nat) : Prop := ∀ k, i ≤ k → k < l.length → DOk (l.getD k default) ∧ (0 < k → adjD (l.getD (k - 1) default) (l.getD k default) = false)
theorem atD_drop {l : List DStep} {i : Nat} (h : DFormAt l i) : ∀ s ∈ l.drop i, DOk s := by
  intro s hs
  obtain ⟨k, hk, e⟩ := List.mem_iff_getElem.1 hs
  rw [List.length_drop] at hk
  have := (h (i + k) (by omega) (by omega)).1
  rw [List.getElem_drop] at e
  rw [← e]
  simpa [List.getD, List.getElem?_eq_getElem (show i + k < l.length by omega)] using this
theorem at_of_dform : ∀ {l : List DStep}, DForm l → DFormAt l 0
  | [], _ => fun k h1 h2 => by simp at h2
  | [s], h => fun k h1 h2 => by
    have : k = 0 := by simp at h2; omega
    subst this
    exact ⟨h, fun h0 => by omega⟩
  | s :: t :: l, h => fun k h1 h2 => by
    obtain ⟨a, b, c⟩ := h
    rcases k with _ | k
    · exact ⟨a, fun h0 => by omega⟩
    · have := at_of_dform c k (Nat.zero_le _) (by simp at h2 ⊢; omega)
      rw [List.getD_cons_succ]
      refine ⟨this.1, fun _ => ?_⟩
      rcases k with _ | k
      · exact b
      · rw [Nat.add_sub_cancel, List.getD_cons_succ]
        have e := this.2 (by omega)
        rw [Nat.add_sub_cancel] at e
        exact e
def DValid (l : List DStep) : Prop := DForm l ∧ oldD l ≤ 2147483647 ∧ newD l ≤ 2147483647
theorem DForm.all {l : List DStep} (h : DForm l) : ∀ s ∈ l, DOk s := by
  have := atD_drop (at_of_dform h)
  simpa using this

/-! ### The reference's check -/
def adjR (w x : DStep) : Prop := if x.kind = 1 then w.kind ≠ 0 else if x.kind = 2 then w.kind = 2 else w.kind = 0 ∧ sameL w.attrs x.attrs = true
instance (w x : DStep) : Decidable (adjR w x) := by unfold adjR; infer_instance
def chkR (l : List DStep) (i : Nat) (b a : Int) : Int :=
  if i < l.length then
    if stepD (l.getD i default) ≠ 0 then stepD (l.getD i default)
    else if 0 < i ∧ adjR (l.getD (i - 1) default) (l.getD i default) then 5
    else chkR l (i + 1) (if (l.getD i default).kind ≠ 1 ∧ b < 2147483648 then b + (l.getD i default).n else b) (if (l.getD i default).kind ≠ 2 ∧ a < 2147483648 then a + ((l.getD i default).n + (l.getD i default).elems.length) else a)
  else if 2147483647 < b ∨ 2147483647 < a then 3 else 0
termination_by l.length - i
def refD (l : List DStep) : Int := chkR l 0 0 0
def sumNs : List DStep → Int
  | [] => 0
  | s :: l => s.n + sumNs l
/-- Sizes of the strings inside. -/
def sameDS (x y : DStep) : Bool := ((x.kind == y.kind) && (x.n == y.n)) && (sameL x.attrs y.attrs && sameF x.elems y.elems)

/-! ### Units -/
inductive DU where
  | K (c : List Attr)
  | A (e : Elem)
  | C
def exS (s : DStep) : List DU := if s.kind = 1 then s.elems.map .A else if s.kind = 2 then List.replicate s.n.toNat .C else List.replicate s.n.toNat (.K s.attrs)
def exD : List DStep → List DU
  | [] => []
  | s :: l => exS s ++ exD l
/-- An element changed by an attribute change. -/
def chgE (c : List Attr) (x : Elem) : Elem := ⟨x.char, x.ref, fm rawG x.attrs c⟩
def applyU : List DU → List Elem → List Elem
  | [], _ => []
  | .A e :: u, l => e :: applyU u l
  | .K c :: u, x :: l => chgE c x :: applyU u l
  | .C :: u, _ :: l => applyU u l
  | .K _ :: u, [] => applyU u []
  | .C :: u, [] => applyU u []
def undoU : List DU → List Elem → List DU
  | [], _ => []
  | .A _ :: u, l => .C :: undoU u l
  | .K c :: u, x :: l => .K (fm chgG (fm rawG x.attrs c) x.attrs) :: undoU u l
  | .C :: u, x :: l => .A x :: undoU u l
  | .K _ :: u, [] => undoU u []
  | .C :: u, [] => undoU u []
def oldN : List DU → Nat
  | [] => 0
  | .A _ :: u => oldN u
  | _ :: u => oldN u + 1
def newN : List DU → Nat
  | [] => 0
  | .C :: u => newN u
  | _ :: u => newN u + 1
def UOk : List DU → Prop
  | [] => True
  | .K c :: u => VG true c ∧ UOk u
  | _ :: u => UOk u
inductive DSw : List DU → List DU → Prop
  | refl (u : List DU) : DSw u u
  | cons (x : DU) {u v : List DU} (h : DSw u v) : DSw (x :: u) (x :: v)
  | swap (e : Elem) (u : List DU) : DSw (.A e :: .C :: u) (.C :: .A e :: u)
  | symm {u v : List DU} (h : DSw u v) : DSw v u
  | trans {u v w : List DU} (h : DSw u v) (k : DSw v w) : DSw u w
theorem DSw.left (w : List DU) {u v : List DU} (h : DSw u v) : DSw (w ++ u) (w ++ v) := by
  induction w with
  | nil => exact h
  | cons x w ih => exact .cons x ih
theorem DSw.right (w : List DU) {u v : List DU} (h : DSw u v) : DSw (u ++ w) (v ++ w) := by
  induction h with
  | refl u => exact .refl _
  | cons x _ ih => exact .cons x ih
  | swap e u => exact .swap e _
  | symm _ ih => exact .symm ih
  | trans _ _ a b => exact .trans a b
def rawD (l : List Elem) (d : List DStep) : List Elem := applyU (exD d) l
end Go.Ch
end
section
set_option linter.unusedVariables false
set_option linter.unusedSimpArgs false
set_option maxRecDepth 100000
set_option maxHeartbeats 4000000
open Go Go.Proofs Go.Ab
namespace Go.Ch
theorem fc_on (s : ByteArray) : FC Tryd.prog 17 [VS s] (app emp []) (VL 2 attrT [({ name := s, val := { data := #[111, 110] } } : Attr)]) (app emp []) := by
 refine .go Tryd.f17 ?_
 exact .fin [.r [], .r [], .le (.fr 2 [(1 : Nat) = (List.map attrT [({ name := s, val := { data := #[111, 110] } } : Attr)]).length] ⟨lm, trivial⟩)] []
end Go.Ch
end
section
set_option linter.unusedVariables false
set_option linter.unusedSimpArgs false
namespace Go.Ch
open Go Go.Ab

/-- Every byte is a plain letter. -/
def AscS (s : ByteArray) : Prop := ∀ i, i < s.size → 32 ≤ byt s i ∧ byt s i < 127
def ascE (s : ByteArray) (l : List Attr) (i : Nat) : Elem := ⟨(byt s i : Int), 0, l⟩
def ascL (s : ByteArray) (l : List Attr) (n : Nat) : List Elem := (List.range n).map (ascE s l)
theorem ascL_succ (s : ByteArray) (l : List Attr) (n : Nat) : ascL s l (n + 1) = ascL s l n ++ [⟨(byt s n : Int), 0, l⟩] := by
  unfold ascL; rw [List.range_succ, List.map_append]; rfl
theorem ext_size (s : ByteArray) (n : Nat) : (s.extract n s.size).size = s.size - n := by simp [ByteArray.size_extract]
theorem ext_byt {s : ByteArray} {n : Nat} (h : n < s.size) : byt (s.extract n s.size) 0 = byt s n := by
  unfold byt
  have h1 : 0 < (s.extract n s.size).size := by rw [ext_size]; omega
  rw [getElem?_pos s n h, getElem?_pos (s.extract n s.size) 0 h1]
  simp [ByteArray.getElem_extract]
theorem ext_ext {s : ByteArray} {n : Nat} : (s.extract n s.size).extract 1 (s.extract n s.size).size = s.extract (n + 1) s.size := by
  rw [ext_size]
  apply ByteArray.ext
  simp only [ByteArray.data_extract, Array.extract_extract]
  congr 1
  omega
theorem ext_all (s : ByteArray) : s.extract 0 s.size = s := by simp
/-- The characters of a flow of plain letters. -/
def strE (f : List Elem) : ByteArray := ⟨(f.map fun x => UInt8.ofNat x.char.toNat).toArray⟩
theorem strE_ints {f : List Elem} (h : ∀ x ∈ f, 0 ≤ x.char ∧ x.char < 256) : f.map (·.char) = intsB (strE f) := by
  unfold intsB strE
  simp only [List.map_map]
  apply List.map_congr_left
  intro x hx
  have := h x hx
  simp only [Function.comp]
  rw [UInt8.toNat_ofNat']
  omega
end Go.Ch
end
section
set_option linter.unusedVariables false
set_option linter.unusedSimpArgs false
set_option maxRecDepth 100000
set_option maxHeartbeats 4000000
open Go Go.Proofs Go.Ab
namespace Go.Ch
def intT (z : Int) : Tree := .sc (.int .i64 z)
def withinI (x lo hi : Int) : Int := lo + ((x.tmod (hi - lo + 1)) + (hi - lo + 1)).tmod (hi - lo + 1)
end Go.Ch
end
section
set_option linter.unusedVariables false
set_option linter.unusedSimpArgs false
set_option maxRecDepth 100000
set_option maxHeartbeats 4000000
open Go Go.Proofs Go.Ab
namespace Go.Ch
theorem fc_attrCheck (l : List Attr) : FC Tryd.prog 18 [VL 2 attrT l] (app emp []) (VI (chkA false l 0)) (app emp []) := by
 refine .go Tryd.f18 ?_
 refine .len 0 (fun hl0 => ?_)
 exact .fin [.r [], .r [(1, X (Xc0 (fc_chk l false) X0))]] []

theorem fc_decode (s : ByteArray) (h : 0 < s.size ∧ byt s 0 < 128) : FC Tryd.prog 19 [VS s] (app emp []) (.tup [.t (.sc (.int .i32 (byt s 0 : Int))), VI 1]) (app emp []) := by
 refine .go Tryd.f19 ?_
 have hz : seq s { data := #[] } = false := by rw [seq_mt, decide_eq_false (by omega)]
 have h2 := h.2
 unfold byt at h2
 refine .br [.r [], .r [(4, Xv 1 (!(seq s ({ data := #[] }))) (Xb s 0)), (5, Xv 1 (!(seq s ({ data := #[] }))) X0), (6, X (Xk (!(seq s ({ data := #[] })))))]] (!(seq s ({ data := #[] })) && decide (((((s[0]?).getD 0).toNat : Nat) : Int) < 128)) (fun h1 => ?_) (fun h1 => ?_)
 ·
  (try simp only [decide_eq_true_eq, decide_eq_false_iff_not, Int.not_lt, Int.not_le, Bool.not_eq_true', Bool.not_eq_false', Bool.and_eq_true, Bool.and_eq_false_iff] at h1)
  have e1 : ((byt s 0 : Int) : Int) = ((((s[0]?).getD 0).toNat : Nat) : Int) := by
   rfl
  exact .finE [.r [(1, X (Xb s 0)), (2, X (Xcv IntKind.i32 ((((s[0]?).getD 0).toNat : Nat) : Int)) (wrap_i32 (by omega)))]] [] (fun z0 => (.tup [.t (.sc (.int .i32 z0)), VI 1], [])) (((((s[0]?).getD 0).toNat : Nat) : Int) : Int) ((byt s 0 : Int) : Int) e1
 ·
  (try simp only [decide_eq_true_eq, decide_eq_false_iff_not, Int.not_lt, Int.not_le, Bool.not_eq_true', Bool.not_eq_false', Bool.and_eq_true, Bool.and_eq_false_iff] at h1)
  exfalso
  rcases h1 with q | q; (rw [hz] at q; cases q); omega

theorem fc_appendRune (l : List Int) (c : Int) (h : 0 ≤ c ∧ c < 128) (hl : l.length ≤ 100000000000) : FC Tryd.prog 21 [.row 0 l.length, .t (.sc (.int .i32 c))] (app emp [(0, OR 1 byteT l)]) (.row 0 ((l ++ [c]).length)) (app emp [(0, OR 1 byteT (l ++ [c]))]) := by
 refine .go Tryd.f21 ?_
 refine .br [.r [], .r [(1, X (Xcv IntKind.u32 c) (wrap_u32 (by omega)))]] (decide (c ≤ 127)) (fun h1 => ?_) (fun h1 => ?_)
 ·
  (try simp only [decide_eq_true_eq, decide_eq_false_iff_not, Int.not_lt, Int.not_le] at h1)
  exact .fin [.r [(2, X (Xcv IntKind.u8 c) (wrap_u8 (by omega))), (4, X (rowC byteT [c] (Xap 1 byteT 0 l [c])))]] [(0, 0)]
 ·
  (try simp only [decide_eq_true_eq, decide_eq_false_iff_not, Int.not_lt, Int.not_le] at h1)
  exfalso
  omega

theorem fc_ofAsc (s : ByteArray) (l : List Attr) (hs : AscS s) (hl : chkA false l 0 = 0) (hn : s.size ≤ 1000000000) (hk : l.length ≤ 1000000000) : FC Tryd.prog 7 [VS s, VL 2 attrT l] (app emp []) (.tup [VL 3 elemT (ascL s l s.size), VI 0]) (app emp []) := by
 refine .go Tryd.f7 ?_
 refine .len 1 (fun hl1 => ?_)
 refine .br [.r [], .r [(1, X (Xc0 (fc_attrCheck l) X0))], .r []] ((chkA false l 0) != 0) (fun h2 => ?_) (fun h2 => ?_)
 ·
  (try simp only [bne_iff_ne, bne_eq_false_iff_eq, ne_eq] at h2)
  exfalso
  omega
 ·
  (try simp only [bne_iff_ne, bne_eq_false_iff_eq, ne_eq] at h2)
  refine .loop (α := ByteArray × (List Elem)) [.r [], .le (.nR 7 3)] 65 (fun (u, o) => ([(0, VS u), (1, VL 2 attrT l), (7, .row 64 o.length)], [(64, OR 3 elemT o)])) (fun (u, o) => o.length ≤ s.size ∧ u = s.extract o.length s.size ∧ o = ascL s l o.length) (fun (u, o) => s.size - o.length) (s, []) ?_ ?_
  ·
   exact ⟨by simp, (ext_all s).symm, rfl⟩
  rintro ⟨u, o⟩ I5 ih5
  try dsimp only at I5
  have us : u.size = s.size - o.length := by rw [I5.2.1, ext_size]
  refine .br [.r []] (!(seq u ({ data := #[] }))) (fun h5 => ?_) (fun h5 => ?_)
  ·
   (try simp only [Bool.not_eq_true', Bool.not_eq_false'] at h5)
   rw [seq_mt, decide_eq_false_iff_not] at h5
   have hb := hs o.length (by omega)
   have hu : byt u 0 = byt s o.length := by rw [I5.2.1, ext_byt (by omega)]
   have h0 : 0 < u.size ∧ byt u 0 < 128 := ⟨by omega, by omega⟩
   refine .br [.r [(1, X (Xc0 (fc_decode u (by assumption)) X0))], .r [(4, Xv 1 ((byt u 0 : Int) == 65533) X0), (5, X (Xk ((byt u 0 : Int) == 65533)))]] (((byt u 0 : Int) == 65533) || false) (fun h7 => ?_) (fun h7 => ?_)
   ·
    (try simp only [Bool.or_eq_true, Bool.or_eq_false_iff, beq_iff_eq, beq_eq_false_iff_ne, ne_eq] at h7)
    exfalso
    rcases h7 with q | q
    · omega
    · cases q
   ·
    (try simp only [Bool.or_eq_true, Bool.or_eq_false_iff, beq_iff_eq, beq_eq_false_iff_ne, ne_eq] at h7)
    refine .br [.r [(1, X (Xn (byt u 0 : Int))), (2, X (Xc0 (fc_char (byt u 0 : Int)) X0))]] (!(decide (CharP (byt u 0 : Int)))) (fun h9 => ?_) (fun h9 => ?_)
    ·
     (try simp only [decide_eq_true_eq, decide_eq_false_iff_not, Int.not_lt, Int.not_le, Bool.not_eq_true', Bool.not_eq_false'] at h9)
     exfalso
     unfold CharP at h9; omega
    ·
     (try simp only [decide_eq_true_eq, decide_eq_false_iff_not, Int.not_lt, Int.not_le, Bool.not_eq_true', Bool.not_eq_false'] at h9)
     refine .back [.r [(2, X (Xn (byt u 0 : Int))), (4, X (Xan attrT 249 l)), (6, X (rowC attrT l X0)), (7, X (rowC elemT [({ char := (byt u 0 : Int), ref := 0, attrs := l } : Elem)] (Xap 3 elemT 64 o [({ char := (byt u 0 : Int), ref := 0, attrs := l } : Elem)])))], .r [(2, X (Xa (Xc ((0:Int) ≤ 1)) (Xa (Xc ((1 : Int) ≤ (u.size : Int))) (Xc (((u.size : Int) : Int) ≤ (u.size : Int))))))]] [(64, 64)] (ih5 ((u.extract ((1 : Int)).toNat (((u.size : Int) : Int)).toNat), (o ++ [({ char := (byt u 0 : Int), ref := 0, attrs := l } : Elem)])) ?_ ?_)
     ·
      simp only [List.length_append, List.length_cons, List.length_nil]
      refine ⟨by omega, ?_, ?_⟩
      · show u.extract 1 u.size = _
        rw [I5.2.1]; exact ext_ext
      · rw [Nat.zero_add, ascL_succ, ← I5.2.2, hu]
     ·
      simp only [List.length_append, List.length_cons, List.length_nil]; omega
  ·
   (try simp only [Bool.not_eq_true', Bool.not_eq_false'] at h5)
   rw [seq_mt, decide_eq_true_eq] at h5
   have hfin : ascL s l s.size = o := by rw [show s.size = o.length by omega]; exact I5.2.2.symm
   have e1 : ((ascL s l s.size) : List Elem) = o := by
    rw [hfin]
   exact .finE [.r [], .le (.fr 4 [(o.length : Nat) = (List.map elemT o).length] ⟨lm, trivial⟩)] [] (fun z0 => (.tup [VL 3 elemT z0, VI 0], [])) (o : List Elem) ((ascL s l s.size) : List Elem) e1
end Go.Ch
end
section
set_option linter.unusedVariables false
set_option linter.unusedSimpArgs false
set_option maxRecDepth 100000
set_option maxHeartbeats 4000000
open Go Go.Proofs Go.Ab
namespace Go.Ch
theorem fc_textAsc (f : List Elem) (hp : partE f 0 = 0) (hc : ∀ x ∈ f, x.ref = 0 ∧ 0 ≤ x.char ∧ x.char < 128) (hn : f.length ≤ 1000000000) : FC Tryd.prog 8 [VL 3 elemT f] (app emp []) (.tup [VS (strE f), VI 0]) (app emp []) := by
 refine .go Tryd.f8 ?_
 refine .len 0 (fun hl0 => ?_)
 refine .br [.r [], .r [(1, X (Xc0 (fc_checkPart f) X0))], .r []] ((partE f 0) != 0) (fun h2 => ?_) (fun h2 => ?_)
 ·
  (try simp only [bne_iff_ne, bne_eq_false_iff_eq, ne_eq] at h2)
  exfalso
  omega
 ·
  (try simp only [bne_iff_ne, bne_eq_false_iff_eq, ne_eq] at h2)
  refine .loop (α := Nat × (List Int)) [.r [], .r [(1, X (Xl elemT f))], .le (.nR 5 1)] 89 (fun (i, b) => ([(5, .row 88 b.length), (14, VL 3 elemT f), (15, VI (f.length : Int)), (16, VI (i : Int))], [(88, OR 1 byteT b)])) (fun (i, b) => i ≤ f.length ∧ b = (f.take i).map (·.char)) (fun (i, b) => f.length - i) (0, []) ?_ ?_
  ·
   exact ⟨by omega, rfl⟩
  rintro ⟨i, b⟩ I6 ih6
  try dsimp only at I6
  have bl : b.length = i := by rw [I6.2]; simp; omega
  refine .br [.r []] (decide ((i : Int) < (f.length : Int))) (fun h6 => ?_) (fun h6 => ?_)
  ·
   (try simp only [decide_eq_true_eq, decide_eq_false_iff_not, Int.not_lt, Int.not_le] at h6)
   have hx := hc _ (getDE_mem (l := f) (k := i) (by omega))
   refine .br [.r [(0, X (Xi elemT f (i : Int)))], .r [], .r []] ((((f.getD i default)).ref) != 0) (fun h9 => ?_) (fun h9 => ?_)
   ·
    (try simp only [bne_iff_ne, bne_eq_false_iff_eq, ne_eq] at h9)
    exfalso
    omega
   ·
    (try simp only [bne_iff_ne, bne_eq_false_iff_eq, ne_eq] at h9)
    refine .back [.r [(2, X (Xcv IntKind.i32 (((f.getD i default)).char)) (wrap_i32 (by omega))), (3, X (Xc3 201 [(0, 88)] (fc_appendRune b (((f.getD i default)).char) (by omega) (by omega)) X0))], .r [(0, X (Xn ((i : Int) + 1)))]] [(88, 88)] (ih6 ((i + 1), (b ++ [(((f.getD i default)).char)])) ?_ ?_)
    ·
     refine ⟨by omega, ?_⟩
     rw [List.take_succ_eq_append_getElem (show i < f.length by omega), List.map_append, ← I6.2]
     simp [List.getD, List.getElem?_eq_getElem (show i < f.length by omega)]
    ·
     ((try dsimp only); omega)
  ·
   (try simp only [decide_eq_true_eq, decide_eq_false_iff_not, Int.not_lt, Int.not_le] at h6)
   have hb : b = intsB (strE f) := by rw [I6.2, List.take_of_length_le (by omega)]; exact strE_ints (fun x hx => by have := hc x hx; omega)
   exact .fin [.r [(1, X (Xstr b.length b (strE f)) ⟨rfl, hb⟩)]] []

theorem door_facts : chkA false [({ name := { data := #[98, 111, 108, 100] }, val := { data := #[111, 110] } } : Attr)] 0 = 0 ∧ partE (ascL { data := #[97, 98] } [({ name := { data := #[98, 111, 108, 100] }, val := { data := #[111, 110] } } : Attr)] (ByteArray.size { data := #[97, 98] })) 0 = 0 ∧ ((ascL { data := #[97, 98] } [({ name := { data := #[98, 111, 108, 100] }, val := { data := #[111, 110] } } : Attr)] (ByteArray.size { data := #[97, 98] }))).length = 2 ∧ strE (ascL { data := #[97, 98] } [({ name := { data := #[98, 111, 108, 100] }, val := { data := #[111, 110] } } : Attr)] (ByteArray.size { data := #[97, 98] })) = { data := #[97, 98] } := by decide +kernel
theorem door_asc : AscS { data := #[97, 98] } := fun i hi => by
  have : i = 0 ∨ i = 1 := by have : ByteArray.size { data := #[97, 98] } = 2 := rfl; omega
  rcases this with rfl | rfl <;> decide
theorem asc_mem {s : ByteArray} {l : List Attr} {n : Nat} {x : Elem} (h : x ∈ ascL s l n) (hs : AscS s) (hn : n ≤ s.size) : x.ref = 0 ∧ 0 ≤ x.char ∧ x.char < 128 := by
  obtain ⟨i, hi, rfl⟩ := List.mem_map.1 h
  have := hs i (by have := List.mem_range.1 hi; omega)
  refine ⟨rfl, ?_, ?_⟩ <;> simp only [ascE] <;> omega

theorem fc_flows  : FC Tryd.prog 6 [] (app emp []) (VB true) (app emp []) := by
 refine .go Tryd.f6 ?_
 obtain ⟨p1, p2, p3, p4⟩ := door_facts
 have p5 := door_asc
 have p7 : ByteArray.size { data := #[97, 98] } = 2 := rfl
 have p8 : ([({ name := { data := #[98, 111, 108, 100] }, val := { data := #[111, 110] } } : Attr)]).length = 1 := rfl
 have p6 := fun x (h : x ∈ (ascL { data := #[97, 98] } [({ name := { data := #[98, 111, 108, 100] }, val := { data := #[111, 110] } } : Attr)] (ByteArray.size { data := #[97, 98] }))) => asc_mem h door_asc (Nat.le_refl _)
 have e1 : ((((true || false) && (((ascL ({ data := #[97, 98] }) [({ name := ({ data := #[98, 111, 108, 100] }), val := { data := #[111, 110] } } : Attr)] (ByteArray.size ({ data := #[97, 98] }))).length : Int) == 2)) && seq ({ data := #[97, 98] } : ByteArray) ({ data := #[97, 98] })) : Bool) = true := by
  rw [p3]; simp [seq_iff]
 exact .finE [.r [], .r [(0, X (Xc1 8 (fc_on ({ data := #[98, 111, 108, 100] })) X0)), (1, X (Xc1 16 (fc_ofAsc ({ data := #[97, 98] }) [({ name := ({ data := #[98, 111, 108, 100] }), val := { data := #[111, 110] } } : Attr)] (by assumption) (by assumption) (by omega) (by omega)) X0))], .r [(1, X (Xc0 (fc_textAsc (ascL ({ data := #[97, 98] }) [({ name := ({ data := #[98, 111, 108, 100] }), val := { data := #[111, 110] } } : Attr)] (ByteArray.size ({ data := #[97, 98] }))) (by assumption) (by assumption) (by omega)) X0))], .le (.eq 3 (VS (strE (ascL ({ data := #[97, 98] }) [({ name := ({ data := #[98, 111, 108, 100] }), val := { data := #[111, 110] } } : Attr)] (ByteArray.size ({ data := #[97, 98] }))))) (VS ({ data := #[97, 98] } : ByteArray)) (.of_eq (by rw [p4]))), .r [(4, Xv 1 true X0), (5, X (Xk true)), (8, Xv 1 (true || false) (Xl elemT (ascL ({ data := #[97, 98] }) [({ name := ({ data := #[98, 111, 108, 100] }), val := { data := #[111, 110] } } : Attr)] (ByteArray.size ({ data := #[97, 98] }))))), (9, Xv 1 (true || false) X0), (10, X (Xk (true || false))), (13, Xv 1 ((true || false) && (((ascL ({ data := #[97, 98] }) [({ name := ({ data := #[98, 111, 108, 100] }), val := { data := #[111, 110] } } : Attr)] (ByteArray.size ({ data := #[97, 98] }))).length : Int) == 2)) X0), (14, X (Xk ((true || false) && (((ascL ({ data := #[97, 98] }) [({ name := ({ data := #[98, 111, 108, 100] }), val := { data := #[111, 110] } } : Attr)] (ByteArray.size ({ data := #[97, 98] }))).length : Int) == 2))))]] [] (fun z0 => (VB z0, [])) ((((true || false) && (((ascL ({ data := #[97, 98] }) [({ name := ({ data := #[98, 111, 108, 100] }), val := { data := #[111, 110] } } : Attr)] (ByteArray.size ({ data := #[97, 98] }))).length : Int) == 2)) && seq ({ data := #[97, 98] } : ByteArray) ({ data := #[97, 98] })) : Bool) (true : Bool) e1.symm
end Go.Ch
end
section
set_option linter.unusedVariables false
set_option linter.unusedSimpArgs false
set_option maxRecDepth 100000
set_option maxHeartbeats 4000000
open Go Go.Proofs Go.Ab
namespace Go.Ch
end Go.Ch
end
section
namespace Go.Proofs
open Go.Shelf
def Tryd.lays278_ren : Go.Shelf.Ren := ⟨fun | 278 => 29 | n => n, fun | 37 => 48 | 21 => 21 | 51 => 57 | 4 => 4 | 46 => 61 | 5 => 5 | n => n, fun | n => n⟩
open Go.RowKit in
def Tryd.lays242_ren : Go.Shelf.Ren := ⟨fun | 242 => 21 | 278 => 29 | n => n, fun | 37 => 48 | 21 => 21 | 51 => 57 | 4 => 4 | 5 => 5 | 46 => 61 | n => n, fun | n => n⟩
open Go.RowKit in
open Go.RowKit in
open Go.RowKit in
def Tryd.lays197_ren : Go.Shelf.Ren := ⟨fun | 197 => 19 | 260 => 28 | n => n, fun | 9 => 9 | 21 => 21 | 3 => 3 | 4 => 4 | 5 => 5 | 105 => 45 | 119 => 60 | 0 => 0 | 46 => 61 | 139 => 64 | 138 => 63 | n => n, fun | 3 => 0 | 4 => 1 | n => n⟩
theorem Tryd.lays197 : Go.Proofs.Lays.n197 Tryd.prog Tryd.lays197_ren := {
  mixed := by kernel_rfl
  f197 := Tryd.func19.trans (congrArg some (by kernel_rfl))
  f260 := Tryd.func28.trans (congrArg some (by kernel_rfl))
  t0 := Tryd.underlying0
  a0 := Tryd.isAgg0
  z0 := Tryd.sizeOf0
  v0 := Tryd.zeroValue0
  t3 := Tryd.underlying3
  a3 := Tryd.isAgg3
  z3 := Tryd.sizeOf3
  v3 := Tryd.zeroValue3
  t4 := Tryd.underlying4
  a4 := Tryd.isAgg4
  z4 := Tryd.sizeOf4
  v4 := Tryd.zeroValue4
  t5 := Tryd.underlying5
  a5 := Tryd.isAgg5
  z5 := Tryd.sizeOf5
  v5 := Tryd.zeroValue5
  t9 := Tryd.underlying9
  a9 := Tryd.isAgg9
  z9 := Tryd.sizeOf9
  v9 := Tryd.zeroValue9
  t21 := Tryd.underlying21
  a21 := Tryd.isAgg21
  z21 := Tryd.sizeOf21
  v21 := Tryd.zeroValue21
  t46 := Tryd.underlying61
  a46 := Tryd.isAgg61
  z46 := Tryd.sizeOf61
  v46 := Tryd.zeroValue61
  t105 := Tryd.underlying45
  a105 := Tryd.isAgg45
  z105 := Tryd.sizeOf45
  v105 := Tryd.zeroValue45
  t119 := Tryd.underlying60
  a119 := Tryd.isAgg60
  z119 := Tryd.sizeOf60
  t138 := Tryd.underlying63
  a138 := Tryd.isAgg63
  z138 := Tryd.sizeOf63
  v138 := Tryd.zeroValue63
  t139 := Tryd.underlying64
  a139 := Tryd.isAgg64
  z139 := Tryd.sizeOf64
  v139 := Tryd.zeroValue64
  g3 := by kernel_rfl
  g4 := by kernel_rfl }
open Go.RowKit Go.Lib in
def Tryd.lays260_ren : Go.Shelf.Ren := ⟨fun | 260 => 28 | n => n, fun | 9 => 9 | 21 => 21 | 3 => 3 | 4 => 4 | 5 => 5 | 119 => 60 | 0 => 0 | 46 => 61 | 139 => 64 | 138 => 63 | n => n, fun | 3 => 0 | 4 => 1 | n => n⟩
theorem Tryd.lays260 : Go.Proofs.Lays.n260 Tryd.prog Tryd.lays260_ren := {
  mixed := by kernel_rfl
  f260 := Tryd.func28.trans (congrArg some (by kernel_rfl))
  t0 := Tryd.underlying0
  a0 := Tryd.isAgg0
  z0 := Tryd.sizeOf0
  v0 := Tryd.zeroValue0
  t3 := Tryd.underlying3
  a3 := Tryd.isAgg3
  z3 := Tryd.sizeOf3
  v3 := Tryd.zeroValue3
  t4 := Tryd.underlying4
  a4 := Tryd.isAgg4
  z4 := Tryd.sizeOf4
  v4 := Tryd.zeroValue4
  t5 := Tryd.underlying5
  a5 := Tryd.isAgg5
  z5 := Tryd.sizeOf5
  v5 := Tryd.zeroValue5
  t9 := Tryd.underlying9
  a9 := Tryd.isAgg9
  z9 := Tryd.sizeOf9
  v9 := Tryd.zeroValue9
  t21 := Tryd.underlying21
  a21 := Tryd.isAgg21
  z21 := Tryd.sizeOf21
  v21 := Tryd.zeroValue21
  t46 := Tryd.underlying61
  a46 := Tryd.isAgg61
  z46 := Tryd.sizeOf61
  v46 := Tryd.zeroValue61
  t119 := Tryd.underlying60
  a119 := Tryd.isAgg60
  z119 := Tryd.sizeOf60
  t138 := Tryd.underlying63
  a138 := Tryd.isAgg63
  z138 := Tryd.sizeOf63
  v138 := Tryd.zeroValue63
  t139 := Tryd.underlying64
  a139 := Tryd.isAgg64
  z139 := Tryd.sizeOf64
  v139 := Tryd.zeroValue64
  g3 := by kernel_rfl
  g4 := by kernel_rfl }
open Go.RowKit Go.Lib in
open Go.RowKit Go.Lib in
/-- **unicode/utf8.DecodeRuneInString AT EVERY STRING.** (LAID: no walk: one application.) -/
theorem Tryd.utf8_DecodeRuneInString (s : ByteArray) (w : World) (hT : Lib.Utf8Tabs 0 1 w) :
    Calls Tryd.prog 19 #[.string s] w fun e w' => e = .returned (.tuple #[.int .i32 (Lib.decodeGo s).1, .int .i64 (Lib.decodeGo s).2]) ∧ Below w.heap.size w w' := Any.utf8_DecodeRuneInString Tryd.lays197 s w hT
end Go.Proofs
end
section
set_option linter.unusedVariables false
namespace Go.Ch
open Go Go.Proofs Go.Ab

theorem fc_decodeG (s : ByteArray) : FC Tryd.prog 19 [VS s] (app emp []) (.tup [.t (.sc (.int .i32 ((Lib.decodeGo s).1 : Int))), VI ((Lib.decodeGo s).2 : Int)]) (app emp []) := by
  refine FC.ofTab (us := [.string s]) (v := .tuple #[.int .i32 (Lib.decodeGo s).1, .int .i64 (Lib.decodeGo s).2]) (fun st m w ok xs hl hv => ?_) (fun st m w ok => ?_) (fun w hT => ?_)
  · match xs, hl with
    | [x], _ =>
      have := VRel.sc_inv (hv 0 _ _ rfl rfl)
      rw [this]
  · refine .tup _ [.int .i32 (Lib.decodeGo s).1, .int .i64 (Lib.decodeGo s).2] rfl (fun i v u h1 h2 => ?_)
    match i with
    | 0 => cases h1; cases h2; exact .t _ _ (.sc _ rfl)
    | 1 => cases h1; cases h2; exact .t _ _ (.sc _ rfl)
    | i + 2 => cases h1
  · exact Tryd.utf8_DecodeRuneInString s w (hT 0 1 (by kernel_rfl) (by kernel_rfl))
end Go.Ch
end
section
set_option linter.unusedVariables false
set_option linter.unusedSimpArgs false
namespace Go.Ch
open Go Go.Ab

def decR (u : ByteArray) : Int := ((Lib.decodeGo u).1 : Int)
def decW (u : ByteArray) : Nat := (Lib.decodeGo u).2
theorem decW_bd {u : ByteArray} (h : 0 < u.size) : 1 ≤ decW u ∧ decW u ≤ u.size := by
  unfold decW Lib.decodeGo
  rw [if_neg (by omega)]
  have hl : u.data.toList.length = u.size := by rw [Array.length_toList]; rfl
  rw [Lib.decode_N]
  have h1 := Lib.decodeN_ge1 (u.data.toList.length - 0) (u.data.toList.getD 0 0).toNat (u.data.toList.getD (0 + 1) 0).toNat (u.data.toList.getD (0 + 2) 0).toNat (u.data.toList.getD (0 + 3) 0).toNat
  have h2 := Lib.decodeN_width_le (u.data.toList.length - 0) (u.data.toList.getD 0 0).toNat (u.data.toList.getD (0 + 1) 0).toNat (u.data.toList.getD (0 + 2) 0).toNat (u.data.toList.getD (0 + 3) 0).toNat (by omega)
  omega
/-- The characters, and the error. -/
def ofR (u : ByteArray) : List Int × Int :=
  if h : 0 < u.size then
    if decR u = 65533 ∧ decW u = 1 then ([], 10)
    else if ¬ CharP (decR u) then ([], 2)
    else (decR u :: (ofR (u.extract (decW u) u.size)).1, (ofR (u.extract (decW u) u.size)).2)
  else ([], 0)
termination_by u.size
decreasing_by
  all_goals
    have := decW_bd h
    rw [ByteArray.size_extract]
    omega
def mkE (l : List Attr) (c : Int) : Elem := ⟨c, 0, l⟩
/-- What the loop keeps: what is out, and what is left. -/
structure OfI (s : ByteArray) (l : List Attr) (u : ByteArray) (o : List Elem) : Prop where
  size : o.length + u.size ≤ s.size
  chars : o ++ (ofR u).1.map (mkE l) = (ofR s).1.map (mkE l)
  err : (ofR u).2 = (ofR s).2
theorem OfI.start (s : ByteArray) (l : List Attr) : OfI s l s [] := ⟨by simp, rfl, rfl⟩
theorem ofR_end {u : ByteArray} (h : ¬ 0 < u.size) : ofR u = ([], 0) := by rw [ofR, dif_neg h]
theorem ofR_bad {u : ByteArray} (h : 0 < u.size) (h1 : decR u = 65533 ∧ decW u = 1) : ofR u = ([], 10) := by rw [ofR, dif_pos h, if_pos h1]
theorem ofR_no {u : ByteArray} (h : 0 < u.size) (h1 : ¬ (decR u = 65533 ∧ decW u = 1)) (h2 : ¬ CharP (decR u)) : ofR u = ([], 2) := by rw [ofR, dif_pos h, if_neg h1, if_pos h2]
theorem ofR_go {u : ByteArray} (h : 0 < u.size) (h1 : ¬ (decR u = 65533 ∧ decW u = 1)) (h2 : CharP (decR u)) : ofR u = (decR u :: (ofR (u.extract (decW u) u.size)).1, (ofR (u.extract (decW u) u.size)).2) := by
  conv => lhs; rw [ofR]
  rw [dif_pos h, if_neg h1, if_neg (fun q => q h2)]
theorem OfI.next {s : ByteArray} {l : List Attr} {u : ByteArray} {o : List Elem} (hI : OfI s l u o) (h : 0 < u.size) (h1 : ¬ (decR u = 65533 ∧ decW u = 1)) (h2 : CharP (decR u)) :
    OfI s l (u.extract (decW u) u.size) (o ++ [mkE l (decR u)]) := by
  have hw := decW_bd h
  have hg := ofR_go h h1 h2
  have hc := hI.chars
  have he := hI.err
  rw [hg] at hc he
  refine ⟨?_, ?_, he⟩
  · have := hI.size
    rw [ByteArray.size_extract, List.length_append, List.length_singleton]; omega
  · rw [List.append_assoc]; exact hc
/-- What Of answers. -/
def ofL (s : ByteArray) (l : List Attr) : List Elem := if (ofR s).2 = 0 then (ofR s).1.map (mkE l) else []
theorem ofL_err {s : ByteArray} {l : List Attr} (h : (ofR s).2 ≠ 0) : ofL s l = [] := by unfold ofL; rw [if_neg h]
theorem decR_bd (u : ByteArray) : 0 ≤ decR u ∧ decR u ≤ 1114111 := by
  unfold decR Lib.decodeGo
  split
  · exact ⟨by decide, by decide⟩
  · have := Lib.rune_le u 0; omega
theorem OfI.done {s : ByteArray} {l : List Attr} {u : ByteArray} {o : List Elem} (hI : OfI s l u o) (h : u.size = 0) : ofL s l = o ∧ (ofR s).2 = 0 := by
  have hc := hI.chars
  have he := hI.err
  rw [ofR_end (by omega)] at hc he
  simp only [List.map_nil, List.append_nil] at hc
  have he : (ofR s).2 = 0 := he.symm
  exact ⟨by unfold ofL; rw [if_pos he, hc], he⟩
end Go.Ch
end
section
set_option linter.unusedVariables false
set_option linter.unusedSimpArgs false
set_option maxRecDepth 100000
set_option maxHeartbeats 4000000
open Go Go.Proofs Go.Ab
namespace Go.Ch
theorem fc_decG (s : ByteArray) : FC Tryd.prog 19 [VS s] (app emp []) (.tup [.t (.sc (.int .i32 (decR s))), VI (decW s : Int)]) (app emp []) := fc_decodeG s

theorem fc_of (s : ByteArray) (l : List Attr) (hn : s.size ≤ 1000000000) (hk : l.length ≤ 1000000000) : FC Tryd.prog 7 [VS s, VL 2 attrT l] (app emp []) (.tup [VL 3 elemT (if chkA false l 0 = 0 then ofL s l else []), VI (if chkA false l 0 = 0 then (ofR s).2 else chkA false l 0)]) (app emp []) := by
 refine .go Tryd.f7 ?_
 refine .len 1 (fun hl1 => ?_)
 refine .br [.r [], .r [(1, X (Xc0 (fc_attrCheck l) X0))], .r []] ((chkA false l 0) != 0) (fun h2 => ?_) (fun h2 => ?_)
 ·
  (try simp only [bne_iff_ne, bne_eq_false_iff_eq, ne_eq] at h2)
  have e1 : ((if chkA false l 0 = 0 then ofL s l else []) : List Elem) = [] := by
   (first | rw [if_pos (by omega)] | rw [if_neg (by omega)]); (first | done | exact oz | exact oe2 | skip)
  have e2 : ((if chkA false l 0 = 0 then (ofR s).2 else chkA false l 0) : Int) = (chkA false l 0) := by
   (first | rw [if_pos (by omega)] | rw [if_neg (by omega)]); (first | done | exact oz | exact oe2 | skip)
  exact .finE [.r [], .le (.nL 4 3)] [] (fun (z0, z1) => (.tup [VL 3 elemT z0, VI z1], [])) (([] : List Elem), ((chkA false l 0) : Int)) (((if chkA false l 0 = 0 then ofL s l else []) : List Elem), ((if chkA false l 0 = 0 then (ofR s).2 else chkA false l 0) : Int)) (pr e1 e2)
 ·
  (try simp only [bne_iff_ne, bne_eq_false_iff_eq, ne_eq] at h2)
  refine .loop (α := ByteArray × (List Elem)) [.r [], .le (.nR 7 3)] 65 (fun (u, o) => ([(0, VS u), (1, VL 2 attrT l), (7, .row 64 o.length)], [(64, OR 3 elemT o)])) (fun (u, o) => OfI s l u o) (fun (u, o) => u.size) (s, []) ?_ ?_
  ·
   exact OfI.start s l
  rintro ⟨u, o⟩ I5 ih5
  replace I5 : OfI s l u o := I5
  have ol := I5.size
  have oe := I5.err
  refine .br [.r []] (!(seq u ({ data := #[] }))) (fun h5 => ?_) (fun h5 => ?_)
  ·
   (try simp only [Bool.not_eq_true', Bool.not_eq_false'] at h5)
   rw [seq_mt, decide_eq_false_iff_not] at h5
   have hw := decW_bd (u := u) (by omega)
   have hr := decR_bd u
   refine .br [.r [(1, X (Xc0 (fc_decG u) X0))], .r [(4, Xv 1 ((decR u) == 65533) X0), (5, X (Xk ((decR u) == 65533)))]] (((decR u) == 65533) && ((decW u : Int) == 1)) (fun h7 => ?_) (fun h7 => ?_)
   ·
    (try simp only [Bool.and_eq_true, Bool.and_eq_false_iff, Bool.not_eq_true', Bool.not_eq_false', beq_iff_eq, beq_eq_false_iff_ne, ne_eq] at h7)
    have hb := ofR_bad (u := u) (by omega) ⟨h7.1, by omega⟩
    rw [hb] at oe
    have oe2 : (ofR s).2 = 10 := oe.symm
    have oz : ofL s l = [] := ofL_err (by rw [oe2]; decide)
    have e3 : ((if chkA false l 0 = 0 then ofL s l else []) : List Elem) = [] := by
     (first | rw [if_pos (by omega)] | rw [if_neg (by omega)]); (first | done | exact oz | exact oe2 | skip)
    have e4 : ((if chkA false l 0 = 0 then (ofR s).2 else chkA false l 0) : Int) = 10 := by
     (first | rw [if_pos (by omega)] | rw [if_neg (by omega)]); (first | done | exact oz | exact oe2 | skip)
    exact .finE [.r [], .le (.nL 4 3)] [] (fun (z0, z1) => (.tup [VL 3 elemT z0, VI z1], [])) (([] : List Elem), (10 : Int)) (((if chkA false l 0 = 0 then ofL s l else []) : List Elem), ((if chkA false l 0 = 0 then (ofR s).2 else chkA false l 0) : Int)) (pr e3 e4)
   ·
    (try simp only [Bool.and_eq_true, Bool.and_eq_false_iff, Bool.not_eq_true', Bool.not_eq_false', beq_iff_eq, beq_eq_false_iff_ne, ne_eq] at h7)
    have hnb : ¬ (decR u = 65533 ∧ decW u = 1) := fun q => by rcases h7 with h | h; (exact h q.1); (apply h; omega)
    refine .br [.r [(1, X (Xn (decR u))), (2, X (Xc0 (fc_char (decR u)) X0))]] (!(decide (CharP (decR u)))) (fun h9 => ?_) (fun h9 => ?_)
    ·
     (try simp only [decide_eq_true_eq, decide_eq_false_iff_not, Int.not_lt, Int.not_le, Bool.not_eq_true', Bool.not_eq_false'] at h9)
     have hb := ofR_no (u := u) (by omega) hnb h9
     rw [hb] at oe
     have oe2 : (ofR s).2 = 2 := oe.symm
     have oz : ofL s l = [] := ofL_err (by rw [oe2]; decide)
     have e5 : ((if chkA false l 0 = 0 then ofL s l else []) : List Elem) = [] := by
      (first | rw [if_pos (by omega)] | rw [if_neg (by omega)]); (first | done | exact oz | exact oe2 | skip)
     have e6 : ((if chkA false l 0 = 0 then (ofR s).2 else chkA false l 0) : Int) = 2 := by
      (first | rw [if_pos (by omega)] | rw [if_neg (by omega)]); (first | done | exact oz | exact oe2 | skip)
     exact .finE [.r [], .le (.nL 4 3)] [] (fun (z0, z1) => (.tup [VL 3 elemT z0, VI z1], [])) (([] : List Elem), (2 : Int)) (((if chkA false l 0 = 0 then ofL s l else []) : List Elem), ((if chkA false l 0 = 0 then (ofR s).2 else chkA false l 0) : Int)) (pr e5 e6)
    ·
     (try simp only [decide_eq_true_eq, decide_eq_false_iff_not, Int.not_lt, Int.not_le, Bool.not_eq_true', Bool.not_eq_false'] at h9)
     refine .back [.r [(2, X (Xn (decR u))), (4, X (Xan attrT 249 l)), (6, X (rowC attrT l X0)), (7, X (rowC elemT [({ char := (decR u), ref := 0, attrs := l } : Elem)] (Xap 3 elemT 64 o [({ char := (decR u), ref := 0, attrs := l } : Elem)])))], .r [(2, X (Xa (Xc ((0:Int) ≤ (decW u : Int))) (Xa (Xc (((decW u : Int) : Int) ≤ (u.size : Int))) (Xc (((u.size : Int) : Int) ≤ (u.size : Int))))))]] [(64, 64)] (ih5 ((u.extract (((decW u : Int) : Int)).toNat (((u.size : Int) : Int)).toNat), (o ++ [({ char := (decR u), ref := 0, attrs := l } : Elem)])) ?_ ?_)
     ·
      exact I5.next (by omega) hnb h9
     ·
      show (u.extract (decW u) u.size).size < u.size
      rw [ByteArray.size_extract]; omega
  ·
   (try simp only [Bool.not_eq_true', Bool.not_eq_false'] at h5)
   rw [seq_mt, decide_eq_true_eq] at h5
   obtain ⟨oz, oe2⟩ := I5.done h5
   have e7 : ((if chkA false l 0 = 0 then ofL s l else []) : List Elem) = o := by
    (first | rw [if_pos (by omega)] | rw [if_neg (by omega)]); (first | done | exact oz | exact oe2 | skip)
   have e8 : ((if chkA false l 0 = 0 then (ofR s).2 else chkA false l 0) : Int) = 0 := by
    (first | rw [if_pos (by omega)] | rw [if_neg (by omega)]); (first | done | exact oz | exact oe2 | skip)
   exact .finE [.r [], .le (.fr 4 [(o.length : Nat) = (List.map elemT o).length] ⟨lm, trivial⟩)] [] (fun (z0, z1) => (.tup [VL 3 elemT z0, VI z1], [])) ((o : List Elem), (0 : Int)) (((if chkA false l 0 = 0 then ofL s l else []) : List Elem), ((if chkA false l 0 = 0 then (ofR s).2 else chkA false l 0) : Int)) (pr e7 e8)
end Go.Ch
end
section
set_option linter.unusedVariables false
set_option linter.unusedSimpArgs false
set_option maxRecDepth 100000
set_option maxHeartbeats 4000000
open Go Go.Proofs Go.Ab
namespace Go.Ch
theorem fc_appendNon (l : List Int) (r : Int) (h : 128 ≤ r ∧ r ≤ 1114111 ∧ ¬ (55296 ≤ r ∧ r ≤ 57343)) (hl : l.length ≤ 100000000000) : FC Tryd.prog 29 [.row 0 l.length, .t (.sc (.int .i32 r))] (app emp [(0, OR 1 byteT l)]) (.row 0 ((l ++ (Lib.encodeRuneZ r)).length)) (app emp [(0, OR 1 byteT (l ++ (Lib.encodeRuneZ r)))]) := by
 refine .go Tryd.f29 ?_
 refine .br [.r [], .r [(1, X (Xcv IntKind.u32 r) (wrap_u32 (by omega)))], .r []] (decide (r ≤ 2047)) (fun h3 => ?_) (fun h3 => ?_)
 ·
  (try simp only [decide_eq_true_eq, decide_eq_false_iff_not, Int.not_lt, Int.not_le] at h3)
  have e1 : ((l ++ (Lib.encodeRuneZ r)) : List Int) = (l ++ [(192 + r / 64), (128 + r % 64)]) := by
   first | (exfalso; omega) | rw [Lib.encodeRuneZ_two (by omega) (by omega)] | rw [Lib.encodeRuneZ_three (by omega)] | rw [Lib.encodeRuneZ_four (by omega) (by omega)]
  have e2 : ((l ++ (Lib.encodeRuneZ r)).length : Nat) = (l ++ [(192 + r / 64), (128 + r % 64)]).length := by
   first | (exfalso; omega) | rw [Lib.encodeRuneZ_two (by omega) (by omega)] | rw [Lib.encodeRuneZ_three (by omega)] | rw [Lib.encodeRuneZ_four (by omega) (by omega)]
  exact .finE [.r [(2, X (Xsh IntKind.i32 6 (r.fdiv (2 ^ (min (6 : Int).toNat IntKind.i32.bits))) (r / 64)) ⟨by decide, shr6⟩), (3, X (Xbit IntKind.u8 (IntKind.u8.wrap (r / 64)) (r / 64)) (by rw [u8mod]; omega)), (4, X (Xbit IntKind.u8 (orI IntKind.u8 192 (r / 64)) (192 + r / 64)) (or192 (by omega))), (6, X (Xbit IntKind.u8 (IntKind.u8.wrap r) (r % 256)) u8mod), (7, X (Xbit IntKind.u8 (andI IntKind.u8 (r % 256) 63) (r % 64)) (by rw [and63 (by omega)]; omega)), (8, X (Xbit IntKind.u8 (orI IntKind.u8 128 (r % 64)) (128 + r % 64)) (or128 (by omega))), (10, X (rowC byteT [(192 + r / 64), (128 + r % 64)] (Xap 1 byteT 0 l [(192 + r / 64), (128 + r % 64)])))]] [(0, 0)] (fun (z0, z1) => (.row 0 z1, [(0, OR 1 byteT z0)])) (((l ++ [(192 + r / 64), (128 + r % 64)]) : List Int), ((l ++ [(192 + r / 64), (128 + r % 64)]).length : Nat)) (((l ++ (Lib.encodeRuneZ r)) : List Int), ((l ++ (Lib.encodeRuneZ r)).length : Nat)) (pr e1 e2)
 ·
  (try simp only [decide_eq_true_eq, decide_eq_false_iff_not, Int.not_lt, Int.not_le] at h3)
  refine .br [.r []] (decide (r < 55296)) (fun h5 => ?_) (fun h5 => ?_)
  ·
   (try simp only [decide_eq_true_eq, decide_eq_false_iff_not, Int.not_lt, Int.not_le] at h5)
   refine .br [] (decide (r < 55296)) (fun h5 => ?_) (fun h5 => ?_)
   ·
    (try simp only [decide_eq_true_eq, decide_eq_false_iff_not, Int.not_lt, Int.not_le] at h5)
    have e3 : ((l ++ (Lib.encodeRuneZ r)) : List Int) = (l ++ [(224 + r / 4096), (128 + r / 64 % 64), (128 + r % 64)]) := by
     first | (exfalso; omega) | rw [Lib.encodeRuneZ_two (by omega) (by omega)] | rw [Lib.encodeRuneZ_three (by omega)] | rw [Lib.encodeRuneZ_four (by omega) (by omega)]
    have e4 : ((l ++ (Lib.encodeRuneZ r)).length : Nat) = (l ++ [(224 + r / 4096), (128 + r / 64 % 64), (128 + r % 64)]).length := by
     first | (exfalso; omega) | rw [Lib.encodeRuneZ_two (by omega) (by omega)] | rw [Lib.encodeRuneZ_three (by omega)] | rw [Lib.encodeRuneZ_four (by omega) (by omega)]
    exact .finE [.r [(2, X (Xsh IntKind.i32 12 (r.fdiv (2 ^ (min (12 : Int).toNat IntKind.i32.bits))) (r / 4096)) ⟨by decide, shr12⟩), (3, X (Xbit IntKind.u8 (IntKind.u8.wrap (r / 4096)) (r / 4096)) (by rw [u8mod]; omega)), (4, X (Xbit IntKind.u8 (orI IntKind.u8 224 (r / 4096)) (224 + r / 4096)) (or224 (by omega))), (6, X (Xsh IntKind.i32 6 (r.fdiv (2 ^ (min (6 : Int).toNat IntKind.i32.bits))) (r / 64)) ⟨by decide, shr6⟩), (7, X (Xbit IntKind.u8 (IntKind.u8.wrap (r / 64)) (r / 64 % 256)) u8mod), (8, X (Xbit IntKind.u8 (andI IntKind.u8 (r / 64 % 256) 63) (r / 64 % 64)) (by rw [and63 (by omega)]; omega)), (9, X (Xbit IntKind.u8 (orI IntKind.u8 128 (r / 64 % 64)) (128 + r / 64 % 64)) (or128 (by omega))), (11, X (Xbit IntKind.u8 (IntKind.u8.wrap r) (r % 256)) u8mod), (12, X (Xbit IntKind.u8 (andI IntKind.u8 (r % 256) 63) (r % 64)) (by rw [and63 (by omega)]; omega)), (13, X (Xbit IntKind.u8 (orI IntKind.u8 128 (r % 64)) (128 + r % 64)) (or128 (by omega))), (15, X (rowC byteT [(224 + r / 4096), (128 + r / 64 % 64), (128 + r % 64)] (Xap 1 byteT 0 l [(224 + r / 4096), (128 + r / 64 % 64), (128 + r % 64)])))]] [(0, 0)] (fun (z0, z1) => (.row 0 z1, [(0, OR 1 byteT z0)])) (((l ++ [(224 + r / 4096), (128 + r / 64 % 64), (128 + r % 64)]) : List Int), ((l ++ [(224 + r / 4096), (128 + r / 64 % 64), (128 + r % 64)]).length : Nat)) (((l ++ (Lib.encodeRuneZ r)) : List Int), ((l ++ (Lib.encodeRuneZ r)).length : Nat)) (pr e3 e4)
   ·
    (try simp only [decide_eq_true_eq, decide_eq_false_iff_not, Int.not_lt, Int.not_le] at h5)
    refine .br [.r [(4, Xv 1 (decide (r > 65535)) X0), (5, X (Xk (decide (r > 65535))))]] (decide (r > 65535) && decide (r ≤ 1114111)) (fun h8 => ?_) (fun h8 => ?_)
    ·
     (try simp only [decide_eq_true_eq, decide_eq_false_iff_not, Int.not_lt, Int.not_le, gt_iff_lt, Bool.and_eq_true, Bool.and_eq_false_iff, Bool.not_eq_true', Bool.not_eq_false'] at h8)
     have e5 : ((l ++ (Lib.encodeRuneZ r)) : List Int) = (l ++ [(240 + r / 262144), (128 + r / 4096 % 64), (128 + r / 64 % 64), (128 + r % 64)]) := by
      first | (exfalso; omega) | rw [Lib.encodeRuneZ_two (by omega) (by omega)] | rw [Lib.encodeRuneZ_three (by omega)] | rw [Lib.encodeRuneZ_four (by omega) (by omega)]
     have e6 : ((l ++ (Lib.encodeRuneZ r)).length : Nat) = (l ++ [(240 + r / 262144), (128 + r / 4096 % 64), (128 + r / 64 % 64), (128 + r % 64)]).length := by
      first | (exfalso; omega) | rw [Lib.encodeRuneZ_two (by omega) (by omega)] | rw [Lib.encodeRuneZ_three (by omega)] | rw [Lib.encodeRuneZ_four (by omega) (by omega)]
     exact .finE [.r [(2, X (Xsh IntKind.i32 18 (r.fdiv (2 ^ (min (18 : Int).toNat IntKind.i32.bits))) (r / 262144)) ⟨by decide, shr18⟩), (3, X (Xbit IntKind.u8 (IntKind.u8.wrap (r / 262144)) (r / 262144)) (by rw [u8mod]; omega)), (4, X (Xbit IntKind.u8 (orI IntKind.u8 240 (r / 262144)) (240 + r / 262144)) (or240 (by omega))), (6, X (Xsh IntKind.i32 12 (r.fdiv (2 ^ (min (12 : Int).toNat IntKind.i32.bits))) (r / 4096)) ⟨by decide, shr12⟩), (7, X (Xbit IntKind.u8 (IntKind.u8.wrap (r / 4096)) (r / 4096 % 256)) u8mod), (8, X (Xbit IntKind.u8 (andI IntKind.u8 (r / 4096 % 256) 63) (r / 4096 % 64)) (by rw [and63 (by omega)]; omega)), (9, X (Xbit IntKind.u8 (orI IntKind.u8 128 (r / 4096 % 64)) (128 + r / 4096 % 64)) (or128 (by omega))), (11, X (Xsh IntKind.i32 6 (r.fdiv (2 ^ (min (6 : Int).toNat IntKind.i32.bits))) (r / 64)) ⟨by decide, shr6⟩), (12, X (Xbit IntKind.u8 (IntKind.u8.wrap (r / 64)) (r / 64 % 256)) u8mod), (13, X (Xbit IntKind.u8 (andI IntKind.u8 (r / 64 % 256) 63) (r / 64 % 64)) (by rw [and63 (by omega)]; omega)), (14, X (Xbit IntKind.u8 (orI IntKind.u8 128 (r / 64 % 64)) (128 + r / 64 % 64)) (or128 (by omega))), (16, X (Xbit IntKind.u8 (IntKind.u8.wrap r) (r % 256)) u8mod), (17, X (Xbit IntKind.u8 (andI IntKind.u8 (r % 256) 63) (r % 64)) (by rw [and63 (by omega)]; omega)), (18, X (Xbit IntKind.u8 (orI IntKind.u8 128 (r % 64)) (128 + r % 64)) (or128 (by omega))), (20, X (rowC byteT [(240 + r / 262144), (128 + r / 4096 % 64), (128 + r / 64 % 64), (128 + r % 64)] (Xap 1 byteT 0 l [(240 + r / 262144), (128 + r / 4096 % 64), (128 + r / 64 % 64), (128 + r % 64)])))]] [(0, 0)] (fun (z0, z1) => (.row 0 z1, [(0, OR 1 byteT z0)])) (((l ++ [(240 + r / 262144), (128 + r / 4096 % 64), (128 + r / 64 % 64), (128 + r % 64)]) : List Int), ((l ++ [(240 + r / 262144), (128 + r / 4096 % 64), (128 + r / 64 % 64), (128 + r % 64)]).length : Nat)) (((l ++ (Lib.encodeRuneZ r)) : List Int), ((l ++ (Lib.encodeRuneZ r)).length : Nat)) (pr e5 e6)
    ·
     (try simp only [decide_eq_true_eq, decide_eq_false_iff_not, Int.not_lt, Int.not_le, gt_iff_lt, Bool.and_eq_true, Bool.and_eq_false_iff, Bool.not_eq_true', Bool.not_eq_false'] at h8)
     exfalso
     omega
  ·
   (try simp only [decide_eq_true_eq, decide_eq_false_iff_not, Int.not_lt, Int.not_le] at h5)
   refine .br [.r [(4, Xv 1 (decide (57343 < r)) X0), (5, X (Xk (decide (57343 < r))))]] (decide (57343 < r) && decide (r ≤ 65535)) (fun h6 => ?_) (fun h6 => ?_)
   ·
    (try simp only [decide_eq_true_eq, decide_eq_false_iff_not, Int.not_lt, Int.not_le, Bool.and_eq_true, Bool.and_eq_false_iff, Bool.not_eq_true', Bool.not_eq_false'] at h6)
    have e7 : ((l ++ (Lib.encodeRuneZ r)) : List Int) = (l ++ [(224 + r / 4096), (128 + r / 64 % 64), (128 + r % 64)]) := by
     first | (exfalso; omega) | rw [Lib.encodeRuneZ_two (by omega) (by omega)] | rw [Lib.encodeRuneZ_three (by omega)] | rw [Lib.encodeRuneZ_four (by omega) (by omega)]
    have e8 : ((l ++ (Lib.encodeRuneZ r)).length : Nat) = (l ++ [(224 + r / 4096), (128 + r / 64 % 64), (128 + r % 64)]).length := by
     first | (exfalso; omega) | rw [Lib.encodeRuneZ_two (by omega) (by omega)] | rw [Lib.encodeRuneZ_three (by omega)] | rw [Lib.encodeRuneZ_four (by omega) (by omega)]
    exact .finE [.r [(2, X (Xsh IntKind.i32 12 (r.fdiv (2 ^ (min (12 : Int).toNat IntKind.i32.bits))) (r / 4096)) ⟨by decide, shr12⟩), (3, X (Xbit IntKind.u8 (IntKind.u8.wrap (r / 4096)) (r / 4096)) (by rw [u8mod]; omega)), (4, X (Xbit IntKind.u8 (orI IntKind.u8 224 (r / 4096)) (224 + r / 4096)) (or224 (by omega))), (6, X (Xsh IntKind.i32 6 (r.fdiv (2 ^ (min (6 : Int).toNat IntKind.i32.bits))) (r / 64)) ⟨by decide, shr6⟩), (7, X (Xbit IntKind.u8 (IntKind.u8.wrap (r / 64)) (r / 64 % 256)) u8mod), (8, X (Xbit IntKind.u8 (andI IntKind.u8 (r / 64 % 256) 63) (r / 64 % 64)) (by rw [and63 (by omega)]; omega)), (9, X (Xbit IntKind.u8 (orI IntKind.u8 128 (r / 64 % 64)) (128 + r / 64 % 64)) (or128 (by omega))), (11, X (Xbit IntKind.u8 (IntKind.u8.wrap r) (r % 256)) u8mod), (12, X (Xbit IntKind.u8 (andI IntKind.u8 (r % 256) 63) (r % 64)) (by rw [and63 (by omega)]; omega)), (13, X (Xbit IntKind.u8 (orI IntKind.u8 128 (r % 64)) (128 + r % 64)) (or128 (by omega))), (15, X (rowC byteT [(224 + r / 4096), (128 + r / 64 % 64), (128 + r % 64)] (Xap 1 byteT 0 l [(224 + r / 4096), (128 + r / 64 % 64), (128 + r % 64)])))]] [(0, 0)] (fun (z0, z1) => (.row 0 z1, [(0, OR 1 byteT z0)])) (((l ++ [(224 + r / 4096), (128 + r / 64 % 64), (128 + r % 64)]) : List Int), ((l ++ [(224 + r / 4096), (128 + r / 64 % 64), (128 + r % 64)]).length : Nat)) (((l ++ (Lib.encodeRuneZ r)) : List Int), ((l ++ (Lib.encodeRuneZ r)).length : Nat)) (pr e7 e8)
   ·
    (try simp only [decide_eq_true_eq, decide_eq_false_iff_not, Int.not_lt, Int.not_le, Bool.and_eq_true, Bool.and_eq_false_iff, Bool.not_eq_true', Bool.not_eq_false'] at h6)
    refine .br [.r [(4, Xv 1 (decide (r > 65535)) X0), (5, X (Xk (decide (r > 65535))))]] (decide (r > 65535) && decide (r ≤ 1114111)) (fun h8 => ?_) (fun h8 => ?_)
    ·
     (try simp only [decide_eq_true_eq, decide_eq_false_iff_not, Int.not_lt, Int.not_le, gt_iff_lt, Bool.and_eq_true, Bool.and_eq_false_iff, Bool.not_eq_true', Bool.not_eq_false'] at h8)
     have e9 : ((l ++ (Lib.encodeRuneZ r)) : List Int) = (l ++ [(240 + r / 262144), (128 + r / 4096 % 64), (128 + r / 64 % 64), (128 + r % 64)]) := by
      first | (exfalso; omega) | rw [Lib.encodeRuneZ_two (by omega) (by omega)] | rw [Lib.encodeRuneZ_three (by omega)] | rw [Lib.encodeRuneZ_four (by omega) (by omega)]
     have e10 : ((l ++ (Lib.encodeRuneZ r)).length : Nat) = (l ++ [(240 + r / 262144), (128 + r / 4096 % 64), (128 + r / 64 % 64), (128 + r % 64)]).length := by
      first | (exfalso; omega) | rw [Lib.encodeRuneZ_two (by omega) (by omega)] | rw [Lib.encodeRuneZ_three (by omega)] | rw [Lib.encodeRuneZ_four (by omega) (by omega)]
     exact .finE [.r [(2, X (Xsh IntKind.i32 18 (r.fdiv (2 ^ (min (18 : Int).toNat IntKind.i32.bits))) (r / 262144)) ⟨by decide, shr18⟩), (3, X (Xbit IntKind.u8 (IntKind.u8.wrap (r / 262144)) (r / 262144)) (by rw [u8mod]; omega)), (4, X (Xbit IntKind.u8 (orI IntKind.u8 240 (r / 262144)) (240 + r / 262144)) (or240 (by omega))), (6, X (Xsh IntKind.i32 12 (r.fdiv (2 ^ (min (12 : Int).toNat IntKind.i32.bits))) (r / 4096)) ⟨by decide, shr12⟩), (7, X (Xbit IntKind.u8 (IntKind.u8.wrap (r / 4096)) (r / 4096 % 256)) u8mod), (8, X (Xbit IntKind.u8 (andI IntKind.u8 (r / 4096 % 256) 63) (r / 4096 % 64)) (by rw [and63 (by omega)]; omega)), (9, X (Xbit IntKind.u8 (orI IntKind.u8 128 (r / 4096 % 64)) (128 + r / 4096 % 64)) (or128 (by omega))), (11, X (Xsh IntKind.i32 6 (r.fdiv (2 ^ (min (6 : Int).toNat IntKind.i32.bits))) (r / 64)) ⟨by decide, shr6⟩), (12, X (Xbit IntKind.u8 (IntKind.u8.wrap (r / 64)) (r / 64 % 256)) u8mod), (13, X (Xbit IntKind.u8 (andI IntKind.u8 (r / 64 % 256) 63) (r / 64 % 64)) (by rw [and63 (by omega)]; omega)), (14, X (Xbit IntKind.u8 (orI IntKind.u8 128 (r / 64 % 64)) (128 + r / 64 % 64)) (or128 (by omega))), (16, X (Xbit IntKind.u8 (IntKind.u8.wrap r) (r % 256)) u8mod), (17, X (Xbit IntKind.u8 (andI IntKind.u8 (r % 256) 63) (r % 64)) (by rw [and63 (by omega)]; omega)), (18, X (Xbit IntKind.u8 (orI IntKind.u8 128 (r % 64)) (128 + r % 64)) (or128 (by omega))), (20, X (rowC byteT [(240 + r / 262144), (128 + r / 4096 % 64), (128 + r / 64 % 64), (128 + r % 64)] (Xap 1 byteT 0 l [(240 + r / 262144), (128 + r / 4096 % 64), (128 + r / 64 % 64), (128 + r % 64)])))]] [(0, 0)] (fun (z0, z1) => (.row 0 z1, [(0, OR 1 byteT z0)])) (((l ++ [(240 + r / 262144), (128 + r / 4096 % 64), (128 + r / 64 % 64), (128 + r % 64)]) : List Int), ((l ++ [(240 + r / 262144), (128 + r / 4096 % 64), (128 + r / 64 % 64), (128 + r % 64)]).length : Nat)) (((l ++ (Lib.encodeRuneZ r)) : List Int), ((l ++ (Lib.encodeRuneZ r)).length : Nat)) (pr e9 e10)
    ·
     (try simp only [decide_eq_true_eq, decide_eq_false_iff_not, Int.not_lt, Int.not_le, gt_iff_lt, Bool.and_eq_true, Bool.and_eq_false_iff, Bool.not_eq_true', Bool.not_eq_false'] at h8)
     exfalso
     omega

theorem fc_appendRuneG (l : List Int) (r : Int) (h : (0 ≤ r ∧ r ≤ 1114111 ∧ ¬ (55296 ≤ r ∧ r ≤ 57343))) (hl : l.length ≤ 100000000000) : FC Tryd.prog 21 [.row 0 l.length, .t (.sc (.int .i32 r))] (app emp [(0, OR 1 byteT l)]) (.row 0 ((l ++ (Lib.encodeRuneZ r)).length)) (app emp [(0, OR 1 byteT (l ++ (Lib.encodeRuneZ r)))]) := by
 refine .go Tryd.f21 ?_
 refine .br [.r [], .r [(1, X (Xcv IntKind.u32 r) (wrap_u32 (by omega)))]] (decide (r ≤ 127)) (fun h1 => ?_) (fun h1 => ?_)
 ·
  (try simp only [decide_eq_true_eq, decide_eq_false_iff_not, Int.not_lt, Int.not_le] at h1)
  have e1 : ((l ++ (Lib.encodeRuneZ r)) : List Int) = (l ++ [r]) := by
   first | rw [Lib.encodeRuneZ_one (by omega) (by omega)] | rfl
  have e2 : ((l ++ (Lib.encodeRuneZ r)).length : Nat) = (l ++ [r]).length := by
   first | rw [Lib.encodeRuneZ_one (by omega) (by omega)] | rfl
  exact .finE [.r [(2, X (Xcv IntKind.u8 r) (wrap_u8 (by omega))), (4, X (rowC byteT [r] (Xap 1 byteT 0 l [r])))]] [(0, 0)] (fun (z0, z1) => (.row 0 z1, [(0, OR 1 byteT z0)])) (((l ++ [r]) : List Int), ((l ++ [r]).length : Nat)) (((l ++ (Lib.encodeRuneZ r)) : List Int), ((l ++ (Lib.encodeRuneZ r)).length : Nat)) (pr e1 e2)
 ·
  (try simp only [decide_eq_true_eq, decide_eq_false_iff_not, Int.not_lt, Int.not_le] at h1)
  exact .fin [.r [(2, X (Xc3 49 [(0, 0)] (fc_appendNon l r (by omega) (by omega)) X0))]] [(0, 0)]
end Go.Ch
end
section
set_option linter.unusedVariables false
set_option linter.unusedSimpArgs false
namespace Go.Ch
open Go Go.Ab

def runeE (x : Elem) : Int := if x.ref = 0 then x.char else 65532
def txB (f : List Elem) : List Int := f.flatMap fun x => Lib.encodeRuneZ (runeE x)
def strB (l : List Int) : ByteArray := ⟨(l.map fun z => UInt8.ofNat z.toNat).toArray⟩
theorem strB_ints {l : List Int} (h : ∀ z ∈ l, 0 ≤ z ∧ z < 256) : l = intsB (strB l) := by
  unfold intsB strB
  simp only [List.map_map]
  conv => lhs; rw [← List.map_id l]
  apply List.map_congr_left
  intro x hx
  have := h x hx
  simp only [Function.comp, id]
  rw [UInt8.toNat_ofNat']
  omega
def RuneOk (r : Int) : Prop := 0 ≤ r ∧ r ≤ 1114111 ∧ ¬ (55296 ≤ r ∧ r ≤ 57343)
theorem rune_ok {x : Elem} (h : elemE x = 0) : RuneOk (runeE x) := by
  unfold elemE at h
  unfold RuneOk runeE
  split at h
  · omega
  · rename_i h1
    split
    · rename_i hr
      split at h
      · omega
      · rename_i h2
        have : CharP x.char := Classical.byContradiction fun q => h2 (.inl ⟨hr, q⟩)
        unfold CharP at this
        omega
    · omega
theorem enc_bd {r : Int} (h : RuneOk r) : (Lib.encodeRuneZ r).length ≤ 4 ∧ ∀ z ∈ Lib.encodeRuneZ r, 0 ≤ z ∧ z < 256 := by
  obtain ⟨h0, h1, h2⟩ := h
  by_cases a : r ≤ 127
  · rw [Lib.encodeRuneZ_one h0 a]; exact ⟨by simp, fun z hz => by simp only [List.mem_cons, List.not_mem_nil, or_false] at hz; omega⟩
  · by_cases b : r ≤ 2047
    · rw [Lib.encodeRuneZ_two (by omega) b]; exact ⟨by simp, fun z hz => by simp only [List.mem_cons, List.not_mem_nil, or_false] at hz; omega⟩
    · by_cases c : r ≤ 65535
      · rw [Lib.encodeRuneZ_three (by omega)]; exact ⟨by simp, fun z hz => by simp only [List.mem_cons, List.not_mem_nil, or_false] at hz; omega⟩
      · rw [Lib.encodeRuneZ_four (by omega) h1]; exact ⟨by simp, fun z hz => by simp only [List.mem_cons, List.not_mem_nil, or_false] at hz; omega⟩
theorem txB_bd {f : List Elem} (h : ∀ x ∈ f, RuneOk (runeE x)) : ∀ z ∈ txB f, 0 ≤ z ∧ z < 256 := fun z hz => by
  obtain ⟨x, hx, hz⟩ := List.mem_flatMap.1 hz
  exact (enc_bd (h x hx)).2 z hz
theorem txB_len : ∀ (f : List Elem), (∀ x ∈ f, RuneOk (runeE x)) → (txB f).length ≤ 4 * f.length
  | [], _ => Nat.le_refl _
  | x :: f, h => by
    have := txB_len f (fun y hy => h y (by simp [hy]))
    have := (enc_bd (h x (by simp))).1
    unfold txB at *
    simp only [List.flatMap_cons, List.length_append, List.length_cons]
    omega
theorem txB_snoc (f : List Elem) (x : Elem) : txB (f ++ [x]) = txB f ++ Lib.encodeRuneZ (runeE x) := by unfold txB; simp
def txS (f : List Elem) : ByteArray := strB (txB f)
end Go.Ch
end
section
set_option linter.unusedVariables false
set_option linter.unusedSimpArgs false
set_option maxRecDepth 100000
set_option maxHeartbeats 4000000
open Go Go.Proofs Go.Ab
namespace Go.Ch
theorem fc_text (f : List Elem) (hp : partE f 0 = 0) (hn : f.length ≤ 1000000000) : FC Tryd.prog 8 [VL 3 elemT f] (app emp []) (.tup [VS (txS f), VI 0]) (app emp []) := by
 refine .go Tryd.f8 ?_
 refine .len 0 (fun hl0 => ?_)
 have hr : ∀ x ∈ f, RuneOk (runeE x) := fun x hx => rune_ok (part_iff.1 hp x hx)
 refine .br [.r [], .r [(1, X (Xc0 (fc_checkPart f) X0))], .r []] ((partE f 0) != 0) (fun h2 => ?_) (fun h2 => ?_)
 ·
  (try simp only [bne_iff_ne, bne_eq_false_iff_eq, ne_eq] at h2)
  exfalso
  omega
 ·
  (try simp only [bne_iff_ne, bne_eq_false_iff_eq, ne_eq] at h2)
  refine .loop (α := Nat × (List Int)) [.r [], .r [(1, X (Xl elemT f))], .le (.nR 5 1)] 89 (fun (i, b) => ([(5, .row 88 b.length), (14, VL 3 elemT f), (15, VI (f.length : Int)), (16, VI (i : Int))], [(88, OR 1 byteT b)])) (fun (i, b) => i ≤ f.length ∧ b = txB (f.take i)) (fun (i, b) => f.length - i) (0, []) ?_ ?_
  ·
   exact ⟨by omega, rfl⟩
  rintro ⟨i, b⟩ I6 ih6
  try dsimp only at I6
  have bl : b.length ≤ 4 * i := by rw [I6.2]; have := txB_len (f.take i) (fun x hx => hr x (List.mem_of_mem_take hx)); rw [List.length_take] at this; omega
  refine .br [.r []] (decide ((i : Int) < (f.length : Int))) (fun h6 => ?_) (fun h6 => ?_)
  ·
   (try simp only [decide_eq_true_eq, decide_eq_false_iff_not, Int.not_lt, Int.not_le] at h6)
   have hx := hr _ (getDE_mem (l := f) (k := i) (by omega))
   unfold RuneOk at hx
   have hre : runeE (f.getD i default) = (if (f.getD i default).ref = 0 then (f.getD i default).char else 65532) := rfl
   refine .br [.r [(0, X (Xi elemT f (i : Int)))], .r [], .r []] ((((f.getD i default)).ref) != 0) (fun h9 => ?_) (fun h9 => ?_)
   ·
    (try simp only [bne_iff_ne, bne_eq_false_iff_eq, ne_eq] at h9)
    first | (have hrr : runeE (f.getD i default) = (f.getD i default).char := by rw [hre, if_pos (by omega)]) | (have hrr : runeE (f.getD i default) = 65532 := by rw [hre, if_neg (by omega)])
    rw [hrr] at hx
    refine .back [.r [], .r [(2, X (Xcv IntKind.i32 65532) (wrap_i32 (by omega))), (3, X (Xc3 209 [(0, 88)] (fc_appendRuneG b 65532 (by omega) (by omega)) X0))], .r [(0, X (Xn ((i : Int) + 1)))]] [(88, 88)] (ih6 ((i + 1), (b ++ (Lib.encodeRuneZ 65532))) ?_ ?_)
    ·
     refine ⟨by omega, ?_⟩
     rw [List.take_succ_eq_append_getElem (show i < f.length by omega), txB_snoc, ← I6.2]
     have hq : f.getD i default = f[i] := by simp [List.getD, List.getElem?_eq_getElem (show i < f.length by omega)]
     rw [← hq, hrr]
    ·
     ((try dsimp only); omega)
   ·
    (try simp only [bne_iff_ne, bne_eq_false_iff_eq, ne_eq] at h9)
    first | (have hrr : runeE (f.getD i default) = (f.getD i default).char := by rw [hre, if_pos (by omega)]) | (have hrr : runeE (f.getD i default) = 65532 := by rw [hre, if_neg (by omega)])
    rw [hrr] at hx
    refine .back [.r [(2, X (Xcv IntKind.i32 (((f.getD i default)).char)) (wrap_i32 (by omega))), (3, X (Xc3 201 [(0, 88)] (fc_appendRuneG b (((f.getD i default)).char) (by omega) (by omega)) X0))], .r [(0, X (Xn ((i : Int) + 1)))]] [(88, 88)] (ih6 ((i + 1), (b ++ (Lib.encodeRuneZ (((f.getD i default)).char)))) ?_ ?_)
    ·
     refine ⟨by omega, ?_⟩
     rw [List.take_succ_eq_append_getElem (show i < f.length by omega), txB_snoc, ← I6.2]
     have hq : f.getD i default = f[i] := by simp [List.getD, List.getElem?_eq_getElem (show i < f.length by omega)]
     rw [← hq, hrr]
    ·
     ((try dsimp only); omega)
  ·
   (try simp only [decide_eq_true_eq, decide_eq_false_iff_not, Int.not_lt, Int.not_le] at h6)
   have hb : b = intsB (txS f) := by rw [I6.2, List.take_of_length_le (by omega)]; exact strB_ints (txB_bd hr)
   exact .fin [.r [(1, X (Xstr b.length b (txS f)) ⟨rfl, hb⟩)]] []
end Go.Ch
end
section
set_option linter.unusedVariables false
set_option linter.unusedSimpArgs false
namespace Go.Ch
open Go Go.Ab

theorem enc_dec (L : List UInt8) (h0 : 0 < L.length) (h : ¬ ((Lib.decodeN L.length (L.getD 0 0).toNat (L.getD 1 0).toNat (L.getD 2 0).toNat (L.getD 3 0).toNat).1 = 65533 ∧ (Lib.decodeN L.length (L.getD 0 0).toNat (L.getD 1 0).toNat (L.getD 2 0).toNat (L.getD 3 0).toNat).2 = 1)) :
    Lib.encodeRuneZ ((Lib.decodeN L.length (L.getD 0 0).toNat (L.getD 1 0).toNat (L.getD 2 0).toNat (L.getD 3 0).toNat).1 : Int) = (L.map fun b => (b.toNat : Int)).take (Lib.decodeN L.length (L.getD 0 0).toNat (L.getD 1 0).toNat (L.getD 2 0).toNat (L.getD 3 0).toNat).2 := by
  have key : ∀ (n : Nat) (a b c d : UInt8) (r : List Int), (n = 1 ∨ n = 2 ∨ n = 3 ∨ 4 ≤ n) →
      ¬ ((Lib.decodeN n a.toNat b.toNat c.toNat d.toNat).1 = 65533 ∧ (Lib.decodeN n a.toNat b.toNat c.toNat d.toNat).2 = 1) →
      (Lib.encodeRuneZ ((Lib.decodeN n a.toNat b.toNat c.toNat d.toNat).1 : Int) = [(a.toNat : Int), b.toNat, c.toNat, d.toNat].take (Lib.decodeN n a.toNat b.toNat c.toNat d.toNat).2) ∧ (Lib.decodeN n a.toNat b.toNat c.toNat d.toNat).2 ≤ n := by
    intro n a b c d r hn hh
    have ha := UInt8.toNat_lt a
    have hb := UInt8.toNat_lt b
    have hc := UInt8.toNat_lt c
    have hd := UInt8.toNat_lt d
    generalize a.toNat = a at *
    generalize b.toNat = b at *
    generalize c.toNat = c at *
    generalize d.toNat = d at *
    unfold Lib.decodeN at hh ⊢
    split at hh
    · rename_i q
      rw [if_pos q]
      refine ⟨?_, by simp only; omega⟩
      simp only
      rw [Lib.encodeRuneZ_one (by omega) (by omega)]; rfl
    · rename_i q
      rw [if_neg q]
      split at hh
      · rename_i q2
        rw [if_pos q2]
        split at hh
        · rename_i q3
          rw [if_pos q3]
          refine ⟨?_, by simp only; omega⟩
          simp only
          rw [Lib.encodeRuneZ_two (by omega) (by omega)]
          simp only [List.take_succ_cons, List.take_zero, List.cons.injEq, and_true]
          omega
        · exact absurd ⟨rfl, rfl⟩ hh
      · rename_i q2
        rw [if_neg q2]
        split at hh
        · rename_i q3
          rw [if_pos q3]
          split at hh
          · rename_i q4
            rw [if_pos q4]
            refine ⟨?_, by simp only; omega⟩
            simp only
            rw [Lib.encodeRuneZ_three (by omega)]
            simp only [List.take_succ_cons, List.take_zero, List.cons.injEq, and_true]
            omega
          · exact absurd ⟨rfl, rfl⟩ hh
        · rename_i q3
          rw [if_neg q3]
          split at hh
          · rename_i q4
            rw [if_pos q4]
            split at hh
            · rename_i q5
              rw [if_pos q5]
              refine ⟨?_, by simp only; omega⟩
              simp only
              rw [Lib.encodeRuneZ_four (by omega) (by omega)]
              simp only [List.take_succ_cons, List.take_zero, List.cons.injEq, and_true]
              omega
            · exact absurd ⟨rfl, rfl⟩ hh
          · exact absurd ⟨rfl, rfl⟩ hh
  have hk := key L.length (L.getD 0 0) (L.getD 1 0) (L.getD 2 0) (L.getD 3 0) [] (by omega) h
  rw [hk.1]
  have hw := hk.2
  have h1 := Lib.decodeN_ge1 L.length (L.getD 0 0).toNat (L.getD 1 0).toNat (L.getD 2 0).toNat (L.getD 3 0).toNat
  have h4 : (Lib.decodeN L.length (L.getD 0 0).toNat (L.getD 1 0).toNat (L.getD 2 0).toNat (L.getD 3 0).toNat).2 ≤ 4 := by
    clear h hk hw h1
    unfold Lib.decodeN
    repeat' split
    all_goals simp
  generalize (Lib.decodeN L.length (L.getD 0 0).toNat (L.getD 1 0).toNat (L.getD 2 0).toNat (L.getD 3 0).toNat).2 = w at *
  have hw4 : w = 1 ∨ w = 2 ∨ w = 3 ∨ w = 4 := by omega
  match L, h0 with
  | [a], _ => have : w = 1 := by simp only [List.length_singleton] at hw; omega
              subst this; rfl
  | [a, b], _ => rcases hw4 with rfl | rfl | rfl | rfl
                 · rfl
                 · rfl
                 · simp at hw
                 · simp at hw
  | [a, b, c], _ => rcases hw4 with rfl | rfl | rfl | rfl
                    · rfl
                    · rfl
                    · rfl
                    · simp at hw
  | a :: b :: c :: d :: r, _ => rcases hw4 with rfl | rfl | rfl | rfl <;> rfl
theorem dec_bytes {u : ByteArray} (h : 0 < u.size) (h1 : ¬ (decR u = 65533 ∧ decW u = 1)) : Lib.encodeRuneZ (decR u) = (intsB u).take (decW u) := by
  have hl : u.data.toList.length = u.size := by rw [Array.length_toList]; rfl
  have hd : Lib.decodeGo u = Lib.decodeN u.data.toList.length (u.data.toList.getD 0 0).toNat (u.data.toList.getD 1 0).toNat (u.data.toList.getD 2 0).toNat (u.data.toList.getD 3 0).toNat := by
    unfold Lib.decodeGo
    rw [if_neg (by omega), Lib.decode_N]; rfl
  unfold decR decW intsB at *
  rw [hd] at h1 ⊢
  exact enc_dec u.data.toList (by omega) (fun q => h1 ⟨by omega, q.2⟩)
theorem ints_split (u : ByteArray) (w : Nat) (hw : w ≤ u.size) : intsB u = (intsB u).take w ++ intsB (u.extract w u.size) := by
  have hl : u.data.toList.length = u.size := by rw [Array.length_toList]; rfl
  have e : (u.extract w u.size).data.toList = u.data.toList.drop w := by
    rw [ByteArray.data_extract, Array.toList_extract, List.extract_eq_take_drop, ← hl]
    rw [List.take_of_length_le (by rw [List.length_drop]; omega)]
  unfold intsB
  rw [e, ← List.map_take, ← List.map_append, List.take_append_drop]
theorem ofR_all : ∀ (n : Nat) (u : ByteArray), u.size = n → (∀ c ∈ (ofR u).1, CharP c) ∧ (ofR u).1.length ≤ u.size ∧ ((ofR u).2 = 0 → (ofR u).1.flatMap Lib.encodeRuneZ = intsB u) := by
  intro n
  induction n using Nat.strongRecOn with
  | _ n ih =>
    intro u hu
    by_cases h : 0 < u.size
    · by_cases h1 : decR u = 65533 ∧ decW u = 1
      · rw [ofR_bad h h1]; exact ⟨fun c hc => (by cases hc), Nat.zero_le _, fun q => (by cases q)⟩
      · by_cases h2 : CharP (decR u)
        · have hw := decW_bd h
          have hs : (u.extract (decW u) u.size).size = u.size - decW u := by rw [ByteArray.size_extract]; omega
          obtain ⟨i1, i2, i3⟩ := ih (u.size - decW u) (by omega) (u.extract (decW u) u.size) hs
          rw [ofR_go h h1 h2]
          refine ⟨fun c hc => ?_, by simp only [List.length_cons]; omega, fun q => ?_⟩
          · rcases List.mem_cons.1 hc with rfl | hc
            · exact h2
            · exact i1 c hc
          · rw [List.flatMap_cons, i3 q, dec_bytes h h1, ← ints_split u _ hw.2]
        · rw [ofR_no h h1 h2]; exact ⟨fun c hc => (by cases hc), Nat.zero_le _, fun q => (by cases q)⟩
    · rw [ofR_end h]
      refine ⟨fun c hc => (by cases hc), Nat.zero_le _, fun _ => ?_⟩
      have : u.data.toList = [] := List.length_eq_zero_iff.1 (by rw [Array.length_toList]; have : u.data.size = u.size := rfl; omega)
      unfold intsB; rw [this]; rfl
theorem ofL_mem {s : ByteArray} {l : List Attr} {x : Elem} (h : x ∈ ofL s l) : ∃ c, CharP c ∧ x = mkE l c := by
  unfold ofL at h
  split at h
  · obtain ⟨c, hc, rfl⟩ := List.mem_map.1 h
    exact ⟨c, (ofR_all _ s rfl).1 c hc, rfl⟩
  · cases h
theorem ofL_part {s : ByteArray} {l : List Attr} (h : chkA false l 0 = 0) : partE (ofL s l) 0 = 0 := part_iff.2 fun x hx => by
  obtain ⟨c, hc, rfl⟩ := ofL_mem hx
  have h9 : c ≠ 0 := by unfold CharP at hc; omega
  rw [elemE_c (x := mkE l c) (by simp [mkE, h9]) (.inr hc) (.inl rfl)]
  exact h
theorem ofL_len (s : ByteArray) (l : List Attr) : (ofL s l).length ≤ s.size := by
  unfold ofL
  split
  · rw [List.length_map]; exact (ofR_all _ s rfl).2.1
  · exact Nat.zero_le _
theorem bytes_back {s : ByteArray} {z : List Int} (h : z = intsB s) : strB z = s := by
  subst h
  unfold strB intsB
  rw [List.map_map]
  have : (u : UInt8) → (fun z : Int => UInt8.ofNat z.toNat) ((u.toNat : Nat) : Int) = u := fun u => by simp
  have e : (s.data.toList.map ((fun z : Int => UInt8.ofNat z.toNat) ∘ fun b : UInt8 => (b.toNat : Int))) = s.data.toList := by
    conv => rhs; rw [← List.map_id s.data.toList]
    exact List.map_congr_left fun u _ => by simp
  rw [e]
theorem txS_back {s : ByteArray} {l : List Attr} (h : (ofR s).2 = 0) : txS (ofL s l) = s := by
  have h3 := (ofR_all _ s rfl).2.2 h
  unfold txS
  refine bytes_back ?_
  rw [← h3]
  unfold txB ofL
  rw [if_pos h, List.flatMap_map]
  rfl
end Go.Ch
end
section
set_option linter.unusedVariables false
set_option linter.unusedSimpArgs false
set_option maxRecDepth 100000
set_option maxHeartbeats 4000000
open Go Go.Proofs Go.Ab
namespace Go.Ch
theorem fc_lawText (s : ByteArray) (l : List Attr) (hn : s.size ≤ 1000000000) (hk : l.length ≤ 1000000000) : FC Tryd.prog 3 [VS s, VL 2 attrT l] (app emp []) (VB true) (app emp []) := by
 refine .go Tryd.f3 ?_
 refine .len 1 (fun hl1 => ?_)
 obtain ⟨f, hf⟩ : ∃ z, (if chkA false l 0 = 0 then ofL s l else []) = z := ⟨_, rfl⟩
 obtain ⟨e, he⟩ : ∃ z, (if chkA false l 0 = 0 then (ofR s).2 else chkA false l 0) = z := ⟨_, rfl⟩
 have fl : f.length ≤ s.size := by
   rw [← hf]; split
   · exact ofL_len s l
   · exact Nat.zero_le _
 have fp : partE f 0 = 0 := by
   rw [← hf]; split
   · exact ofL_part (by assumption)
   · exact part_iff.2 (fun x hx => by cases hx)
 have fz : ¬ e = 0 → f = [] := fun q => by
   by_cases c : chkA false l 0 = 0
   · rw [if_pos c] at he hf; rw [← hf]; exact ofL_err (by omega)
   · rw [if_neg c] at hf; exact hf.symm
 have fb : e = 0 → txS f = s := fun q => by
   by_cases c : chkA false l 0 = 0
   · rw [if_pos c] at he hf; rw [← hf]; exact txS_back (by omega)
   · rw [if_neg c] at he; exact absurd (he.trans q) c
 have fm : ∀ x ∈ f, x.attrs = l ∧ x.ref = 0 := fun x hx => by
   rw [← hf] at hx
   split at hx
   · obtain ⟨c, _, rfl⟩ := ofL_mem hx; exact ⟨rfl, rfl⟩
   · cases hx
 refine .br [.r [], .r [(0, X (Xc0 fc_flows X0))], .f, .r [(2, X (Xc1 40 (fc_of s l (by omega) (by omega)) X0))], .le (.eq 5 (VL 3 elemT (if chkA false l 0 = 0 then ofL s l else [])) (VL 3 elemT f) (.of_eq (by rw [hf]))), .le (.eq 6 (VI (if chkA false l 0 = 0 then (ofR s).2 else chkA false l 0)) (VI e) (.of_eq (by rw [he]))), .r [(1, X (Xc0 (fc_text f (by assumption) (by omega)) X0))], .r []] (e != 0) (fun h5 => ?_) (fun h5 => ?_)
 ·
  (try simp only [bne_iff_ne, bne_eq_false_iff_eq, ne_eq] at h5)
  have fe := fz h5
  have e1 : (((f.length : Int) == 0) : Bool) = true := by
   first | (rw [fe]; rfl) | (rw [fs, fp]; simp; omega) | (rw [fs, fp]; simp [*])
  exact .finE [.r [(1, X (Xl elemT f))]] [] (fun z0 => (VB z0, [])) (((f.length : Int) == 0) : Bool) (true : Bool) e1.symm
 ·
  (try simp only [bne_iff_ne, bne_eq_false_iff_eq, ne_eq] at h5)
  refine .loop (α := Nat) [.r [(1, X (Xl elemT f))]] 184 (fun i => ([(0, VS s), (1, VL 2 attrT l), (5, VL 3 elemT f), (7, VS (txS f)), (8, VI 0), (29, VL 3 elemT f), (30, VI (f.length : Int)), (31, VI (i : Int))], [])) (fun i => i ≤ f.length) (fun i => f.length - i) (0 : Nat) ?_ ?_
  ·
   omega
  rintro i I8 ih8
  try dsimp only at I8
  refine .br [.r []] (decide ((i : Int) < (f.length : Int))) (fun h8 => ?_) (fun h8 => ?_)
  ·
   (try simp only [decide_eq_true_eq, decide_eq_false_iff_not, Int.not_lt, Int.not_le] at h8)
   obtain ⟨xa, xr⟩ := fm _ (getDE_mem (l := f) (k := i) (by omega))
   refine .br [.r [(0, X (Xi elemT f (i : Int)))], .r [(3, X (Xc0 (fc_sameAttrs (((f.getD i default)).attrs) l) X0)), (7, Xv 1 (!(!(sameL (((f.getD i default)).attrs) l))) X0), (8, Xv 1 (!(!(sameL (((f.getD i default)).attrs) l))) X0), (9, X (Xk' (!(sameL (((f.getD i default)).attrs) l))))]] (!(sameL (((f.getD i default)).attrs) l) || ((((f.getD i default)).ref) != 0)) (fun h10 => ?_) (fun h10 => ?_)
   ·
    (try simp only [Bool.not_eq_true', Bool.not_eq_false', Bool.or_eq_true, Bool.or_eq_false_iff, bne_iff_ne, bne_eq_false_iff_eq, ne_eq] at h10)
    exfalso
    rw [xa, sameL_self, xr] at h10; simp at h10
   ·
    (try simp only [Bool.not_eq_true', Bool.not_eq_false', Bool.or_eq_true, Bool.or_eq_false_iff, bne_iff_ne, bne_eq_false_iff_eq, ne_eq] at h10)
    refine .back [.r [(0, X (Xn ((i : Int) + 1)))]] [] (ih8 ((i + 1) : Nat) ?_ ?_)
    ·
     show _ ≤ _; omega
    ·
     ((try dsimp only); omega)
  ·
   (try simp only [decide_eq_true_eq, decide_eq_false_iff_not, Int.not_lt, Int.not_le] at h8)
   have ft := fb (by omega)
   have fs : seq (txS f) s = true := seq_iff.2 ft
   have e2 : (((true && seq (txS f) s) && ((partE f 0) == 0)) : Bool) = true := by
    first | (rw [fe]; rfl) | (rw [fs, fp]; simp; omega) | (rw [fs, fp]; simp [*])
   exact .finE [.r [(5, Xv 2 true X0), (6, X (Xk true)), (9, Xv 1 (true && seq (txS f) s) (Xc0 (fc_checkPart f) X0)), (10, Xv 1 (true && seq (txS f) s) X0), (11, X (Xk (true && seq (txS f) s)))]] [] (fun z0 => (VB z0, [])) (((true && seq (txS f) s) && ((partE f 0) == 0)) : Bool) (true : Bool) e2.symm
end Go.Ch
end
