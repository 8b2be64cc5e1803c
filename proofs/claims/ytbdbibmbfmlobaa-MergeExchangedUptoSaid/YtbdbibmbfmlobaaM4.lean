/- The oracles of the operations, each with the one thing that is asked. -/
import Derived.Test.YtbdbibmbfmlobaaM1
import Derived.Test.YtbdbibmbfmlobaaM2
import Derived.Test.YtbdbibmbfmlobaaM3
import Derived.Test.YtbdbibmbfmlobaaProg
section
set_option linter.unusedVariables false
namespace Go.Ab
open Go
variable {P : Program}

structure Px (p : Prop) where
  o : Orc
  cs : List Prop
  h : p → All cs
def gdC (e : Bool) : List Prop → List Prop
  | [] => []
  | p :: l => (e = true → p) :: gdC e l
theorem gdC_all {e : Bool} : ∀ {l : List Prop}, (e = true → All l) → All (gdC e l)
  | [], _ => trivial
  | p :: l, h => ⟨fun he => (h he).1, gdC_all fun he => (h he).2⟩
/-- As it stands; behind a guard; behind a guard, with a write. -/
def X {p : Prop} (x : Px p) (h : p := by first | with_reducible exact True.intro | omega | (and_intros <;> first | omega | with_reducible rfl | with_reducible assumption | with_reducible exact True.intro | (simp only [List.length_map]; omega) | (simp; omega) | (simp; done))) : Ox := ⟨x.o, x.cs, x.h h⟩
def Xg {p : Prop} (e : Bool) (x : Px p) (h : e = true → p := by first | (intro _; with_reducible exact True.intro) | (intro hg; (try simp [-List.getD_eq_getElem?_getD] at hg); first | omega | (and_intros <;> first | omega | with_reducible rfl | with_reducible assumption | with_reducible exact True.intro | (simp only [List.length_map]; omega) | (simp; omega) | (simp [hg]; done)))) : Ox := ⟨x.o, gdC e x.cs, gdC_all fun he => x.h (h he)⟩
def Xw {p : Prop} (e : Bool) (x : Px p) (h : e = true) (hp : p) : Ox := ⟨x.o, gdC e x.cs ++ [e = true], All_app.2 ⟨gdC_all fun _ => x.h hp, h, trivial⟩⟩
def oV (v : AVal) : Orc := ⟨some v, none, none, none, []⟩
def oE (x : Tree) : Orc := ⟨none, none, some x, none, []⟩

/-- A guarded value is read: its guard. -/
def Xq {p : Prop} (e : Bool) (x : Px p) : Px (e = true ∧ p) := ⟨x.o, (e = true) :: x.cs, fun h => ⟨h.1, x.h h.2⟩⟩
/-- Conditions alone. -/
def Xc (p : Prop) : Px p := ⟨Orc.no, [p], fun h => ⟨h, trivial⟩⟩
def X0 : Px True := ⟨Orc.no, [], fun _ => trivial⟩
def Xa {p q : Prop} (x : Px p) (y : Px q) : Px (p ∧ q) := ⟨y.o, x.cs ++ y.cs, fun h => All_app.2 ⟨x.h h.1, y.h h.2⟩⟩
/-- No overflow. -/
def Xn (a : Int) : Px (-9223372036854775808 ≤ a ∧ a ≤ 9223372036854775807) := ⟨oV (VI a), [Weak (VI (IntKind.i64.wrap a)) (VI a)], fun h => ⟨Weak.of_eq (nw h), trivial⟩⟩
def Xquo (a b : Int) : Px (0 ≤ a ∧ 0 < b ∧ a ≤ 9223372036854775807) := ⟨oV (VI (a / b)), [b ≠ 0, Weak (VI (IntKind.i64.wrap (a.tdiv b))) (VI (a / b))], fun h => ⟨by omega, Weak.of_eq (quo_nn h), trivial⟩⟩
def Xrem (a b : Int) : Px (0 ≤ a ∧ 0 < b) := ⟨oV (VI (a % b)), [b ≠ 0, Weak (VI (a.tmod b)) (VI (a % b))], fun h => ⟨by omega, Weak.of_eq (rem_nn h.1), trivial⟩⟩
def Xmax (a b : Int) : Px True := ⟨oV (VI (max a b)), [Weak (VI (if b > a then b else a)) (VI (max a b))], fun _ => ⟨Weak.of_eq max_if, trivial⟩⟩
def Xmin (a b : Int) : Px True := ⟨oV (VI (min a b)), [Weak (VI (if b < a then b else a)) (VI (min a b))], fun _ => ⟨Weak.of_eq min_if, trivial⟩⟩
/-- The length of a list. -/
def Xl {α : Type} (f : α → Tree) (l : List α) : Px True := ⟨oV (VI (l.length : Int)), [Weak (VI ((l.map f).length : Int)) (VI (l.length : Int))], fun _ => ⟨Weak.of_eq len_map, trivial⟩⟩
/-- An element of a list; its number written otherwise. -/
def Xi {α : Type} [Inhabited α] (f : α → Tree) (l : List α) (j : Int) : Px (0 ≤ j ∧ j < (l.length : Int)) :=
  ⟨oE (f (l.getD j.toNat default)), [0 ≤ j, (l.map f)[j.toNat]? = some (f (l.getD j.toNat default))], fun h => ⟨h.1, elt_map h.1 h.2, trivial⟩⟩
def Xi' {α : Type} [Inhabited α] (f : α → Tree) (l : List α) (j : Int) (k : Nat) : Px (j = (k : Int) ∧ k < l.length) :=
  ⟨oE (f (l.getD k default)), [0 ≤ j, (l.map f)[j.toNat]? = some (f (l.getD k default))], fun h => ⟨by omega, elt_map' h.1 h.2, trivial⟩⟩
/-- An owned row is read whole. -/
def Xr {α : Type} (f : α → Tree) (o : List α) : Px True := ⟨Orc.no, [o.length = (o.map f).length], fun _ => ⟨List.length_map _ |>.symm, trivial⟩⟩
/-- An element of a row: its place; what is there; what is written there. -/
def Xp {α : Type} (f : α → Tree) (o : List α) (j : Int) : Px (0 ≤ j ∧ j < (o.length : Int)) :=
  ⟨Orc.no, [o.length = (o.map f).length, 0 ≤ j, j < (o.length : Int)], fun h => ⟨List.length_map _ |>.symm, h.1, h.2, trivial⟩⟩
def Xp' {α : Type} (f : α → Tree) (id : Nat) (o : List α) (j : Int) (k : Nat) : Px (j = (k : Int) ∧ k < o.length) :=
  ⟨oV (.eptr id o.length k 0), [o.length = (o.map f).length, 0 ≤ j, j < (o.length : Int), Weak (.eptr id o.length j.toNat 0) (.eptr id o.length k 0)],
    fun h => ⟨List.length_map _ |>.symm, by omega, by omega, Weak.of_eq (eptr_eq (by omega)), trivial⟩⟩
def Xe {α : Type} [Inhabited α] (f : α → Tree) (o : List α) (i : Nat) : Px (i < o.length) :=
  ⟨oE (f (o.getD i default)), [o.length = (o.map f).length, (o.map f)[i]? = some (f (o.getD i default))], fun h => ⟨List.length_map _ |>.symm, elt_nat h, trivial⟩⟩
def Xs {α : Type} [Inhabited α] (k : Nat) (f : α → Tree) (id : Nat) (o : List α) (i : Nat) (x : α) (g : List (Nat × Ob) := []) : Px (i < o.length) :=
  ⟨⟨none, some (g ++ [(id, .row k false ((o.set i x).map f))]), some (f (o.getD i default)), none, []⟩,
    [o.length = (o.map f).length, (o.map f)[i]? = some (f (o.getD i default)), g ++ [(id, Ob.row k false ((o.set i x).map f))] = g ++ [(id, Ob.row k false ((o.map f).set i (f x)))]],
    fun h => ⟨List.length_map _ |>.symm, elt_nat h, by rw [row_set rfl], trivial⟩⟩
/-- Parts of a list. -/
def Xst {α : Type} (f : α → Tree) (k : Nat) (l : List α) (hi : Int) : Px (0 ≤ hi ∧ hi ≤ (l.length : Int)) :=
  ⟨oV (VL k f (l.take hi.toNat)), [0 ≤ hi, hi ≤ (((l.map f).length : Nat) : Int), Weak (.t (.lst k ((l.map f).take hi.toNat))) (VL k f (l.take hi.toNat))], fun h => ⟨h.1, by rw [List.length_map]; exact h.2, Weak.of_eq sl_take, trivial⟩⟩
def Xsd {α : Type} (f : α → Tree) (k : Nat) (l : List α) (lo : Int) : Px (0 ≤ lo ∧ lo ≤ (l.length : Int)) :=
  ⟨oV (VL k f (l.drop lo.toNat)), [0 ≤ lo, lo ≤ (((l.map f).length : Nat) : Int), Weak (.t (.lst k ((l.map f).drop lo.toNat))) (VL k f (l.drop lo.toNat))], fun h => ⟨h.1, by rw [List.length_map]; exact h.2, Weak.of_eq sl_drop, trivial⟩⟩
def Xsb {α : Type} (f : α → Tree) (k : Nat) (l : List α) (lo hi : Int) : Px (0 ≤ lo ∧ lo ≤ hi ∧ hi ≤ (l.length : Int)) :=
  ⟨oV (VL k f ((l.take hi.toNat).drop lo.toNat)), [0 ≤ lo, lo ≤ hi, hi ≤ (((l.map f).length : Nat) : Int), Weak (.t (.lst k (((l.map f).take hi.toNat).drop lo.toNat))) (VL k f ((l.take hi.toNat).drop lo.toNat))],
    fun h => ⟨h.1, h.2.1, by rw [List.length_map]; exact h.2.2, Weak.of_eq sl_both, trivial⟩⟩
/-- The same, of an owned row. -/
def rowC {p : Prop} {α : Type} (f : α → Tree) (o : List α) (x : Px p) : Px p := ⟨x.o, (o.length = (o.map f).length) :: x.cs, fun h => ⟨List.length_map _ |>.symm, x.h h⟩⟩
theorem lm {α : Type} {n : Nat} {f : α → Tree} {o : List α} (h : n = o.length := by first | with_reducible rfl | omega | (simp; done) | (simp; omega)) : n = (o.map f).length := by rw [List.length_map]; exact h
def rowX {p : Prop} {α : Type} (n : Nat) (f : α → Tree) (o : List α) (x : Px p) (h : n = o.length := by first | omega | (simp; done) | (simp; omega)) : Px p := ⟨x.o, (n = (o.map f).length) :: x.cs, fun hp => ⟨by rw [List.length_map]; exact h, x.h hp⟩⟩
/-- The row's number is said otherwise. -/
def Xen {α : Type} [Inhabited α] (n : Nat) (f : α → Tree) (o : List α) (i : Nat) : Px (n = o.length ∧ i < o.length) :=
  ⟨oE (f (o.getD i default)), [n = (o.map f).length, (o.map f)[i]? = some (f (o.getD i default))], fun h => ⟨by rw [List.length_map]; exact h.1, elt_nat h.2, trivial⟩⟩
def Xpn {α : Type} (n : Nat) (f : α → Tree) (o : List α) (j : Int) : Px (n = o.length ∧ 0 ≤ j ∧ j < (n : Int)) :=
  ⟨Orc.no, [n = (o.map f).length, 0 ≤ j, j < (n : Int)], fun h => ⟨by rw [List.length_map]; exact h.1, h.2.1, h.2.2, trivial⟩⟩
def Xsn {α : Type} [Inhabited α] (n k : Nat) (f : α → Tree) (id : Nat) (o : List α) (i : Nat) (x : α) (g : List (Nat × Ob) := []) : Px (n = o.length ∧ i < o.length) :=
  ⟨⟨none, some (g ++ [(id, .row k false ((o.set i x).map f))]), some (f (o.getD i default)), none, []⟩,
    [n = (o.map f).length, (o.map f)[i]? = some (f (o.getD i default)), g ++ [(id, Ob.row k false ((o.set i x).map f))] = g ++ [(id, Ob.row k false ((o.map f).set i (f x)))]],
    fun h => ⟨by rw [List.length_map]; exact h.1, elt_nat h.2, by rw [row_set rfl], trivial⟩⟩
def Xapn {α : Type} (n k : Nat) (f : α → Tree) (id : Nat) (o ys : List α) : Px (n = o.length ∧ o.length + ys.length ≤ 1099511627776) :=
  ⟨⟨some (.row id (o ++ ys).length), some [(id, .row k false ((o ++ ys).map f))], none, none, []⟩,
    [n = (o.map f).length, n + (ys.map f).length ≤ 1099511627776, Weak (.row id (n + (ys.map f).length)) (.row id (o ++ ys).length), [(id, Ob.row k false ((o ++ ys).map f))] = [(id, Ob.row k false (o.map f ++ ys.map f))]],
    fun h => ⟨by rw [List.length_map]; exact h.1, by rw [List.length_map]; omega, Weak.of_eq (by rw [h.1]; simp), row_append rfl, trivial⟩⟩
/-- A byte of a string. -/
def Xb (s : ByteArray) (j : Int) : Px (0 ≤ j ∧ j < (s.size : Int)) := ⟨Orc.no, [0 ≤ j, j < (s.size : Int)], fun h => ⟨h.1, h.2, trivial⟩⟩
/-- A cell of an array in a box, its number known. -/
def Xlit (id off z len : Nat) (j : Int) (i : Nat) : Px (j = (i : Int) ∧ i < len) :=
  ⟨oV (.ptr id (off + i * z)), [0 ≤ j, j < (len : Int), Weak (.ptr id (off + j.toNat * z)) (.ptr id (off + i * z))], fun h => ⟨by omega, by omega, Weak.of_eq (by rw [show j.toNat = i by omega]), trivial⟩⟩
/-- append to nil, to a row. -/
def Xan {α : Type} (f : α → Tree) (id : Nat) (ys : List α) : Px (ys.length ≤ 1099511627776) :=
  ⟨oV (.row id ys.length), [(ys.map f).length ≤ 1099511627776, Weak (.row id (ys.map f).length) (.row id ys.length)], fun h => ⟨by rw [List.length_map]; exact h, Weak.of_eq (by rw [List.length_map]), trivial⟩⟩
def Xap {α : Type} (k : Nat) (f : α → Tree) (id : Nat) (o ys : List α) : Px (o.length + ys.length ≤ 1099511627776) :=
  ⟨⟨some (.row id (o ++ ys).length), some [(id, .row k false ((o ++ ys).map f))], none, none, []⟩,
    [o.length = (o.map f).length, o.length + (ys.map f).length ≤ 1099511627776, Weak (.row id (o.length + (ys.map f).length)) (.row id (o ++ ys).length), [(id, Ob.row k false ((o ++ ys).map f))] = [(id, Ob.row k false (o.map f ++ ys.map f))]],
    fun h => ⟨List.length_map _ |>.symm, by rw [List.length_map]; exact h, Weak.of_eq (by simp), row_append rfl, trivial⟩⟩
/-- make -/
def Xmk {α : Type} (k : Nat) (f : α → Tree) (id : Nat) (n m : Int) (z : α) : Px (0 ≤ n ∧ n ≤ m ∧ m ≤ 1099511627776) :=
  ⟨⟨none, some [(id, .row k false ((List.replicate n.toNat z).map f))], none, none, []⟩, [0 ≤ n, n ≤ m, m ≤ 1099511627776, [(id, Ob.row k false ((List.replicate n.toNat z).map f))] = [(id, Ob.row k false (List.replicate n.toNat (f z)))]],
    fun h => ⟨h.1, h.2.1, h.2.2, by rw [List.map_replicate], trivial⟩⟩
def Xmz {α : Type} (k : Nat) (f : α → Tree) (id : Nat) (n m : Int) (z : α) (zs : List Tree) (hz : TWs zs (f z).cells) : Px (0 ≤ n ∧ n ≤ m ∧ m ≤ 1099511627776) :=
  ⟨⟨none, some [(id, .row k false ((List.replicate n.toNat z).map f))], some (f z), none, []⟩, [0 ≤ n, n ≤ m, m ≤ 1099511627776, TWs zs (f z).cells, [(id, Ob.row k false ((List.replicate n.toNat z).map f))] = [(id, Ob.row k false (List.replicate n.toNat (f z)))]],
    fun h => ⟨h.1, h.2.1, h.2.2, hz, by rw [List.map_replicate], trivial⟩⟩
/-- Nil cells of a struct. -/
def Xf (l : List (Nat × Nat)) : Px True := ⟨⟨none, none, none, none, l⟩, [], fun _ => trivial⟩
def Xw' (d v : AVal) : Px (Weak d v) := ⟨oV v, [Weak d v], fun h => ⟨h, trivial⟩⟩
/-- Whatever an operation asks, given whole. -/
def Xx (o : Orc) (cs : List Prop) : Px (All cs) := ⟨o, cs, id⟩

/-- Under a guard, guarded values are read (k of them, by the same guard). -/
def rpC (e : Bool) : Nat → List Prop → List Prop
  | 0, l => l
  | k + 1, l => (e = true) :: rpC e k l
theorem rpC_all {e : Bool} (he : e = true) {l : List Prop} (h : All l) : ∀ k, All (rpC e k l)
  | 0 => h
  | k + 1 => ⟨he, rpC_all he h k⟩
def Xv {p : Prop} (k : Nat) (e : Bool) (x : Px p) (h : e = true → p := by first | (intro _; with_reducible exact True.intro) | (intro hg; (try simp [-List.getD_eq_getElem?_getD] at hg); first | omega | (and_intros <;> first | omega | with_reducible rfl | with_reducible assumption | with_reducible exact True.intro | (simp only [List.length_map]; omega) | (simp; omega) | (simp [hg]; done)))) : Ox :=
  ⟨x.o, gdC e (rpC e k x.cs), gdC_all fun he => rpC_all he (x.h (h he)) k⟩
/-- pick: 'and', 'or'. -/
def Xk (g : Bool) : Px True := ⟨Orc.no, [g = true → g = true], fun _ => ⟨id, trivial⟩⟩
def Xk' (g : Bool) : Px True := ⟨Orc.no, [g = false → (!g) = true], fun _ => ⟨fun h => by simp [h], trivial⟩⟩

def Xka (e g : Bool) : Ox := ⟨Orc.no, [e = true → e = true, e = true → g = true → (e && g) = true], ⟨id, fun h k => by rw [h, k]; rfl, trivial⟩⟩
def Xko (e g : Bool) : Ox := ⟨Orc.no, [e = true → e = true, e = true → g = false → (e && !g) = true], ⟨id, fun h k => by rw [h, k]; rfl, trivial⟩⟩
/-! ### A slice of slices -/
theorem mat_at {α : Type} [Inhabited α] {f : α → Tree} {l : List α} {k : Nat} (h : k < l.length) : (matC (l.map f) none)[k]? = some (.t (f (l.getD k default))) := by
  simp [matC, List.getD, List.getElem?_eq_getElem h]
theorem mat_at' {α : Type} [Inhabited α] {f : α → Tree} {l : List α} {k i r n : Nat} (h : k < l.length) (hk : k ≠ i) : (matC (l.map f) (some (i, r, n)))[k]? = some (.t (f (l.getD k default))) := by
  simp only [matC, List.getElem?_set]
  rw [if_neg (fun e => hk e.symm)]
  simp [List.getD, List.getElem?_eq_getElem h]
def Xmm {α : Type} (f : α → Tree) (id : Nat) (n m : Int) (z : α) (zs : List Tree) (hz : TWs zs (f z).cells) : Px (0 ≤ n ∧ n = m ∧ m ≤ 1099511627776) :=
  ⟨⟨none, some [(id, .mat false ((List.replicate n.toNat z).map f) none)], some (f z), none, [(0, 0)]⟩, [0 ≤ n, n = m, m ≤ 1099511627776, TWs zs (f z).cells, [(id, Ob.mat false ((List.replicate n.toNat z).map f) none)] = [(id, Ob.mat false (List.replicate n.toNat (f z)) none)]],
    fun h => ⟨h.1, h.2.1, h.2.2, hz, by rw [List.map_replicate], trivial⟩⟩
def Xmi {α : Type} (f : α → Tree) (l : List α) (j : Int) : Px (0 ≤ j ∧ j < (l.length : Int)) := ⟨Orc.no, [0 ≤ j, j < ((l.map f).length : Int)], fun h => ⟨h.1, by rw [List.length_map]; exact h.2, trivial⟩⟩
def Xmi' {α : Type} (f : α → Tree) (id : Nat) (l : List α) (j : Int) (k : Nat) : Px (j = (k : Int) ∧ k < l.length) := ⟨oV (.mptr id k), [0 ≤ j, j < ((l.map f).length : Int), Weak (.mptr id j.toNat) (.mptr id k)], fun h => ⟨by omega, by rw [List.length_map]; omega, Weak.of_eq (by rw [show j.toNat = k by omega]), trivial⟩⟩
def Xml {α : Type} [Inhabited α] (f : α → Tree) (l : List α) (k : Nat) : Px (k < l.length) := ⟨⟨none, none, some (f (l.getD k default)), none, []⟩, [(matC (l.map f) none)[k]? = some (.t (f (l.getD k default)))], fun h => ⟨mat_at h, trivial⟩⟩
def Xml' {α : Type} [Inhabited α] (f : α → Tree) (l : List α) (k i r n : Nat) : Px (k < l.length ∧ k ≠ i) := ⟨⟨none, none, some (f (l.getD k default)), none, []⟩, [(matC (l.map f) (some (i, r, n)))[k]? = some (.t (f (l.getD k default)))], fun h => ⟨mat_at' h.1 h.2, trivial⟩⟩
def Xmh {α : Type} (f : α → Tree) (l : List α) (k i : Nat) : Px (k = i ∧ i < l.length) := ⟨Orc.no, [k = i, i < (l.map f).length], fun h => ⟨h.1, by rw [List.length_map]; exact h.2, trivial⟩⟩
def Xms {α : Type} (f : α → Tree) (l : List α) (k : Nat) : Px (k < l.length) := ⟨Orc.no, [k < (l.map f).length], fun h => ⟨by rw [List.length_map]; exact h, trivial⟩⟩
theorem mc_ok {α β : Type} {f : α → Tree} {g : β → Tree} {l : List α} {x : α} {o : List β} {q i k : Nat} (hq : q = o.length) (hx : f x = .lst k (o.map g)) : All [q = (o.map g).length, (l.map f).set i (.lst k (o.map g)) = (l.set i x).map f] :=
  ⟨by rw [List.length_map]; exact hq, by rw [List.map_set, hx], trivial⟩
/-! ### Calls -/
theorem FC.nil {f : FuncId} {args : List AVal} {res : AVal} {st st' : Store} (i k : Nat) (h : FC P f args st res st') (hi : args[i]? = some (.t (.lst k [])) := by kernel_rfl) (hk : Nat.blt 0 k = true := by kernel_rfl) : FC P f (args.set i VN) st res st' := by
  intro F m w us hS hl hv
  refine h F m w us hS (by simpa using hl) (fun j v u hj hu => ?_)
  by_cases e : i = j
  · subst e
    rw [hi] at hj
    cases hj
    have hlt := (List.getElem?_eq_some_iff.1 hi).1
    have := hv i VN u (by simp [hlt]) hu
    exact nil_lst (Nat.lt_of_succ_le (Nat.le_of_ble_eq_true hk)) _ _ _ _ _ this
  · exact hv j v u (by rw [List.getElem?_set_ne e]; exact hj) hu
/-- A callee that makes nothing; what its arguments ask ahead. -/
def Xc0 {p : Prop} {f : FuncId} {args : List AVal} {res : AVal} (h : FC P f args emp res emp) (x : Px p) (hc : callable P f = true := by kernel_rfl) : Px p :=
  ⟨⟨none, none, none, some ⟨0, [], res, []⟩, []⟩, (callable P f = true) :: (x.cs ++ [FC P f args emp res emp]), fun hp => ⟨hc, All_app.2 ⟨x.h hp, h, trivial⟩⟩⟩
/-- Behind a guard that the callee's contract leans on. -/
def Xc0g {p : Prop} {e : Bool} {f : FuncId} {args : List AVal} {res : AVal} (h : e = true → FC P f args emp res emp) (x : Px p) (hc : callable P f = true := by kernel_rfl) : Px (e = true ∧ p) :=
  ⟨⟨none, none, none, some ⟨0, [], res, []⟩, []⟩, (callable P f = true) :: (x.cs ++ [FC P f args emp res emp]), fun hp => ⟨hc, All_app.2 ⟨x.h hp.2, h hp.1, trivial⟩⟩⟩
def freshT : Nat → List (Nat × Ob) → List (Nat × Nat) → List (Nat × Nat)
  | _, [], _ => []
  | nid, (i, _) :: l, τ => match lk τ i with
    | some _ => freshT nid l τ
    | none => (i, nid) :: freshT (nid + 1) l τ
def orL {α : Type} (o : Option (List α)) : List α := o.getD []
def orV (o : Option AVal) : AVal := o.getD .junk
def ck1 (τ : List (Nat × Nat)) (res : AVal) (l1 : List (Nat × Ob)) : Bool := nodupB (τ.map (·.1)) && nodupB (τ.map (·.2)) && (renStore τ (app emp l1) τ).isSome && (renV τ res).isSome
theorem renL_nil_inv {args : List AVal} (h : renL [] args = some args) : renL (inv []) args = some args := h
theorem FC.fresh {f : FuncId} {args : List AVal} {res : AVal} {l1 : List (Nat × Ob)} (τ : List (Nat × Nat)) (h : FC P f args emp res (app emp l1)) (ha : renL [] args = some args) (hk : ck1 τ res l1 = true) :
    FC P f args emp (orV (renV τ res)) (app emp (orL (renStore τ (app emp l1) τ))) := by
  simp only [ck1, Bool.and_eq_true] at hk
  obtain ⟨⟨⟨k1, k2⟩, k3⟩, k4⟩ := hk
  obtain ⟨l', e3⟩ := Option.isSome_iff_exists.1 k3
  obtain ⟨r', e4⟩ := Option.isSome_iff_exists.1 k4
  refine FC.ren (l0 := []) (l0' := []) h [] τ (by simp [nodupB, k1, k2]) rfl (renL_nil_inv ha) rfl ?_ ?_
  · rw [e3]; rfl
  · rw [e4]; rfl
/-- A callee that makes objects of its own. -/
def Xc1 {p : Prop} {f : FuncId} {args : List AVal} {res : AVal} {l1 : List (Nat × Ob)} (nid : Nat) (h : FC P f args emp res (app emp l1)) (x : Px p) (ha : renL [] args = some args := by kernel_rfl)
    (hk : ck1 (freshT nid l1 []) res l1 = true := by kernel_rfl) (hc : callable P f = true := by kernel_rfl) : Px p :=
  ⟨⟨none, none, none, some ⟨1, [], orV (renV (freshT nid l1 []) res), orL (renStore (freshT nid l1 []) (app emp l1) (freshT nid l1 []))⟩, []⟩,
    (callable P f = true) :: (x.cs ++ [FC P f args emp (orV (renV (freshT nid l1 []) res)) (app emp (orL (renStore (freshT nid l1 []) (app emp l1) (freshT nid l1 []))))]),
    fun hp => ⟨hc, All_app.2 ⟨x.h hp, FC.fresh _ h ha hk, trivial⟩⟩⟩
def sndL : List (Nat × Nat) → List Nat
  | [] => []
  | (_, j) :: l => j :: sndL l
def ck3 (τ0 τ : List (Nat × Nat)) (args : List AVal) (l0 : List (Nat × Ob)) (res : AVal) (l1 : List (Nat × Ob)) : Bool :=
  (nodupB (τ0.map (·.1)) && nodupB (τ0.map (·.2)) && nodupB (τ.map (·.1)) && nodupB (τ.map (·.2)) && τ0.all (fun p => match lk τ p.1 with | some j => Nat.beq j p.2 | none => false)) &&
    (orL (renStore τ0 (app emp l0) τ0)).all (fun x => hasId (τ0.map (·.2)) x.1) && (renStore τ (app emp l1) τ).isSome && (renV τ res).isSome &&
    (orL (renStore τ0 (app emp l0) τ0)).all (fun x => hasId ((orL (renStore τ (app emp l1) τ)).map (·.1)) x.1)
theorem app_over {a b : List (Nat × Ob)} (h : ∀ x ∈ a, x.1 ∈ b.map (·.1)) : app (app emp a) b = app emp b := by
  funext i
  by_cases hi : i ∈ b.map (·.1)
  · exact app_at (.inl hi)
  · rw [app_not hi, app_not hi]
    refine app_not (fun hm => ?_)
    obtain ⟨x, hx, rfl⟩ := List.mem_map.1 hm
    exact hi (h x hx)
theorem FC.obj {f : FuncId} {args : List AVal} {res : AVal} {l0 l1 : List (Nat × Ob)} (τ0 τ : List (Nat × Nat)) (h : FC P f args (app emp l0) res (app emp l1)) (hk : ck3 τ0 τ args l0 res l1 = true)
    (h0 : renStore (inv τ0) (app emp (orL (renStore τ0 (app emp l0) τ0))) (inv τ0) = some l0) (ha : renL (inv τ0) (orL (renL τ0 args)) = some args) :
    FC P f (orL (renL τ0 args)) (app emp (orL (renStore τ0 (app emp l0) τ0))) (orV (renV τ res)) (app (app emp (orL (renStore τ0 (app emp l0) τ0))) (orL (renStore τ (app emp l1) τ))) := by
  simp only [ck3, Bool.and_eq_true] at hk
  obtain ⟨⟨⟨⟨k1, k2⟩, k3⟩, k4⟩, k5⟩ := hk
  obtain ⟨l', e3⟩ := Option.isSome_iff_exists.1 k3
  obtain ⟨r', e4⟩ := Option.isSome_iff_exists.1 k4
  rw [app_over (fun x hx => hasId_iff.1 (List.all_eq_true.1 k5 x hx))]
  refine FC.ren h τ0 τ (by simp only [Bool.and_eq_true]; exact k1) h0 ha k2 ?_ ?_
  · rw [e3]; rfl
  · rw [e4]; rfl
/-- A callee that is handed objects. -/
def Xc3 {p : Prop} {f : FuncId} {args : List AVal} {res : AVal} {l0 l1 : List (Nat × Ob)} (nid : Nat) (τ0 : List (Nat × Nat)) (h : FC P f args (app emp l0) res (app emp l1)) (x : Px p)
    (hk : ck3 τ0 (τ0 ++ freshT nid l1 τ0) args l0 res l1 = true := by kernel_rfl)
    (h0 : renStore (inv τ0) (app emp (orL (renStore τ0 (app emp l0) τ0))) (inv τ0) = some l0 := by kernel_rfl) (ha : renL (inv τ0) (orL (renL τ0 args)) = some args := by kernel_rfl) (hc : callable P f = true := by kernel_rfl) : Px p :=
  ⟨⟨none, none, none, some ⟨3, sndL τ0, orV (renV (τ0 ++ freshT nid l1 τ0) res), orL (renStore (τ0 ++ freshT nid l1 τ0) (app emp l1) (τ0 ++ freshT nid l1 τ0))⟩, []⟩,
    [callable P f = true, FC P f (orL (renL τ0 args)) (app emp (orL (renStore τ0 (app emp l0) τ0))) (orV (renV (τ0 ++ freshT nid l1 τ0) res)) (app (app emp (orL (renStore τ0 (app emp l0) τ0))) (orL (renStore (τ0 ++ freshT nid l1 τ0) (app emp l1) (τ0 ++ freshT nid l1 τ0))))],
    fun hp => ⟨hc, FC.obj _ _ h hk h0 ha, trivial⟩⟩
/-- One that only reads them. -/
theorem FC.objr {f : FuncId} {args : List AVal} {res : AVal} {l0 : List (Nat × Ob)} (τ0 : List (Nat × Nat)) (h : FC P f args (app emp l0) res (app emp l0)) (hk : ck3 τ0 τ0 args l0 res l0 = true)
    (h0 : renStore (inv τ0) (app emp (orL (renStore τ0 (app emp l0) τ0))) (inv τ0) = some l0) (ha : renL (inv τ0) (orL (renL τ0 args)) = some args) :
    FC P f (orL (renL τ0 args)) (app emp (orL (renStore τ0 (app emp l0) τ0))) (orV (renV τ0 res)) (app (app emp (orL (renStore τ0 (app emp l0) τ0))) []) := by
  have := FC.obj τ0 τ0 h hk h0 ha
  simp only [ck3, Bool.and_eq_true] at hk
  rw [app_over (fun x hx => hasId_iff.1 (List.all_eq_true.1 hk.2 x hx))] at this
  exact this
def Xc4 {p : Prop} {f : FuncId} {args : List AVal} {res : AVal} {l0 : List (Nat × Ob)} (τ0 : List (Nat × Nat)) (h : FC P f args (app emp l0) res (app emp l0)) (x : Px p)
    (hk : ck3 τ0 τ0 args l0 res l0 = true := by kernel_rfl)
    (h0 : renStore (inv τ0) (app emp (orL (renStore τ0 (app emp l0) τ0))) (inv τ0) = some l0 := by kernel_rfl) (ha : renL (inv τ0) (orL (renL τ0 args)) = some args := by kernel_rfl) (hc : callable P f = true := by kernel_rfl) : Px p :=
  ⟨⟨none, none, none, some ⟨3, sndL τ0, orV (renV τ0 res), []⟩, []⟩,
    [callable P f = true, FC P f (orL (renL τ0 args)) (app emp (orL (renStore τ0 (app emp l0) τ0))) (orV (renV τ0 res)) (app (app emp (orL (renStore τ0 (app emp l0) τ0))) [])],
    fun hp => ⟨hc, FC.objr _ h hk h0 ha, trivial⟩⟩
theorem pr {α β : Type} {a b : α} {c d : β} (h : a = b) (k : c = d) : (a, c) = (b, d) := by rw [h, k]
end Go.Ab
end
section
set_option linter.unusedVariables false
set_option linter.unusedSimpArgs false
namespace Go.Ch
open Go Go.Ab

structure Attr where
  name : ByteArray
  val : ByteArray
abbrev mt : ByteArray := { data := #[] }
instance : Inhabited Attr := ⟨⟨mt, mt⟩⟩
def attrT (a : Attr) : Tree := .agg [.sc (.string a.name), .sc (.string a.val)]

/-! ### The order of strings -/
theorem byt_ext {a b : ByteArray} (h : a.toList = b.toList) : a = b := by
  rw [ByteArray.toList_eq, ByteArray.toList_eq] at h
  obtain ⟨⟨x⟩⟩ := a
  obtain ⟨⟨y⟩⟩ := b
  simpa using h
theorem seq_iff {a b : ByteArray} : seq a b = true ↔ a = b := by
  unfold seq
  rw [beq_iff_eq]
  exact ⟨byt_ext, fun h => by rw [h]⟩
theorem seq_no {a b : ByteArray} : seq a b = false ↔ a ≠ b := by
  rw [← Bool.not_eq_true, seq_iff]
theorem bl_irr : ∀ x : List UInt8, Op.bytesLess x x = false
  | [] => rfl
  | a :: x => by simp [Op.bytesLess, bl_irr x]
theorem bl_trans : ∀ x y z : List UInt8, Op.bytesLess x y = true → Op.bytesLess y z = true → Op.bytesLess x z = true
  | _, _, [], _, h => by cases ‹List UInt8› <;> simp [Op.bytesLess] at h
  | [], _, _ :: _, _, _ => rfl
  | a :: x, [], _ :: _, h, _ => by simp [Op.bytesLess] at h
  | a :: x, b :: y, c :: z, h1, h2 => by
    simp only [Op.bytesLess, Bool.or_eq_true, decide_eq_true_eq, Bool.and_eq_true, beq_iff_eq, UInt8.lt_iff_toNat_lt, ← UInt8.toNat_inj] at h1 h2 ⊢
    rcases h1 with h1 | ⟨h1, h1'⟩
    · rcases h2 with h2 | ⟨h2, h2'⟩ <;> (left; omega)
    · rcases h2 with h2 | ⟨h2, h2'⟩
      · left; omega
      · right; exact ⟨by omega, bl_trans x y z h1' h2'⟩
theorem bl_tri : ∀ x y : List UInt8, Op.bytesLess x y = false → Op.bytesLess y x = false → x = y
  | [], [], _, _ => rfl
  | [], _ :: _, h, _ => by simp [Op.bytesLess] at h
  | _ :: _, [], _, h => by simp [Op.bytesLess] at h
  | a :: x, b :: y, h1, h2 => by
    simp only [Op.bytesLess, Bool.or_eq_false_iff, decide_eq_false_iff_not, Bool.and_eq_false_iff, beq_eq_false_iff_ne, UInt8.lt_iff_toNat_lt, ne_eq, ← UInt8.toNat_inj] at h1 h2
    have e : a.toNat = b.toNat := by omega
    have h1' : Op.bytesLess x y = false := by rcases h1.2 with h | h; exact absurd e h; exact h
    have h2' : Op.bytesLess y x = false := by rcases h2.2 with h | h; exact absurd e.symm h; exact h
    rw [UInt8.toNat_inj.1 e, bl_tri x y h1' h2']
theorem slt_irr (a : ByteArray) : slt a a = false := bl_irr _
theorem slt_trans {a b c : ByteArray} (h : slt a b = true) (k : slt b c = true) : slt a c = true := bl_trans _ _ _ h k
theorem slt_tri {a b : ByteArray} (h : slt a b = false) (k : slt b a = false) : a = b := byt_ext (bl_tri _ _ h k)
theorem slt_ne {a b : ByteArray} (h : slt a b = true) : a ≠ b := fun e => by subst e; rw [slt_irr] at h; cases h
theorem slt_asymm {a b : ByteArray} (h : slt a b = true) : slt b a = false := by
  cases k : slt b a with
  | false => rfl
  | true => have := slt_trans h k; rw [slt_irr] at this; cases this
/-! ### Lists in order -/
/-- All names are greater than n. -/
def Above (n : ByteArray) (l : List Attr) : Prop := ∀ a ∈ l, slt n a.name = true
def Sorted : List Attr → Prop
  | [] => True
  | a :: l => Above a.name l ∧ Sorted l
def look : List Attr → ByteArray → Option ByteArray
  | [], _ => none
  | a :: l, n => if a.name = n then some a.val else look l n
theorem look_above {l : List Attr} {n : ByteArray} (h : ∀ a ∈ l, a.name ≠ n) : look l n = none := by
  induction l with
  | nil => rfl
  | cons a l ih => rw [look, if_neg (h a (by simp))]; exact ih (fun b hb => h b (by simp [hb]))
theorem look_mem {l : List Attr} {n v : ByteArray} (h : look l n = some v) : (⟨n, v⟩ : Attr) ∈ l := by
  induction l with
  | nil => cases h
  | cons a l ih =>
    rw [look] at h
    split at h
    · rename_i hn
      cases h
      subst hn
      exact List.mem_cons_self
    · exact List.mem_cons_of_mem _ (ih h)
theorem look_of_mem {l : List Attr} (hs : Sorted l) {a : Attr} (h : a ∈ l) : look l a.name = some a.val := by
  induction l with
  | nil => cases h
  | cons b l ih =>
    rw [look]
    rcases List.mem_cons.1 h with rfl | h
    · rw [if_pos rfl]
    · rw [if_neg (slt_ne (hs.1 a h))]; exact ih hs.2 h
theorem sorted_ext : ∀ {a b : List Attr}, Sorted a → Sorted b → (∀ n, look a n = look b n) → a = b
  | [], [], _, _, _ => rfl
  | [], y :: b, _, _, h => by have := h y.name; simp [look] at this
  | x :: a, [], _, _, h => by have := h x.name; simp [look] at this
  | x :: a, y :: b, ha, hb, h => by
    have hxy : x.name = y.name := by
      refine slt_tri ?_ ?_
      · cases k : slt x.name y.name with
        | false => rfl
        | true =>
          have h1 := h x.name
          rw [look, if_pos rfl, look, if_neg (fun e => slt_ne k e.symm), look_above (fun z hz e => slt_ne (slt_trans k (hb.1 z hz)) e.symm)] at h1
          cases h1
      · cases k : slt y.name x.name with
        | false => rfl
        | true =>
          have h1 := h y.name
          rw [look, if_neg (fun e => slt_ne k e.symm), look_above (fun z hz e => slt_ne (slt_trans k (ha.1 z hz)) e.symm), look, if_pos rfl] at h1
          cases h1
    have hv : x.val = y.val := by
      have h1 := h x.name
      rw [look, if_pos rfl, look, if_pos hxy.symm] at h1
      exact Option.some.inj h1
    have e : x = y := by cases x; cases y; simp_all
    subst e
    rw [sorted_ext ha.2 hb.2 (fun n => ?_)]
    by_cases hn : x.name = n
    · subst hn
      rw [look_above (fun z hz e => slt_ne (ha.1 z hz) e.symm), look_above (fun z hz e => slt_ne (hb.1 z hz) e.symm)]
    · have h1 := h n
      rwa [look, if_neg hn, look, if_neg hn] at h1

/-! ### Two lists at once -/
def bothL : List Attr → List Attr → List (Attr × Attr)
  | [], [] => []
  | [], y :: b => (default, y) :: bothL [] b
  | x :: a, [] => (x, default) :: bothL a []
  | x :: a, y :: b =>
    if slt x.name y.name = true then (x, default) :: bothL a (y :: b)
    else if slt y.name x.name = true then (default, y) :: bothL (x :: a) b
    else (x, y) :: bothL a b
termination_by a b => a.length + b.length
theorem bothL_len : ∀ a b : List Attr, (bothL a b).length ≤ a.length + b.length := by
  intro a b
  induction a, b using bothL.induct with
  | case1 => simp [bothL]
  | case2 y b ih => simp only [bothL, List.length_cons] at ih ⊢; omega
  | case3 x a ih => simp only [bothL, List.length_cons] at ih ⊢; omega
  | case4 x a y b h ih => rw [bothL, if_pos h]; simp only [List.length_cons] at ih ⊢; omega
  | case5 x a y b h k ih => rw [bothL, if_neg h, if_pos k]; simp only [List.length_cons] at ih ⊢; omega
  | case6 x a y b h k ih => rw [bothL, if_neg h, if_neg k]; simp only [List.length_cons] at ih ⊢; omega

def Named (l : List Attr) : Prop := ∀ a ∈ l, a.name ≠ mt
/-- What a visitor may make of a pair: nothing, or an attribute of that name. -/
def Fair (g : Attr → Attr → Option Attr) : Prop := ∀ x y z, g x y = some z → z.name = if y.name = mt then x.name else y.name
def fm (g : Attr → Attr → Option Attr) (a b : List Attr) : List Attr := (bothL a b).filterMap fun p => g p.1 p.2
/-- What the visitor makes of what both lists have under a name. -/
def at2 (g : Attr → Attr → Option Attr) (n : ByteArray) : Option ByteArray → Option ByteArray → Option ByteArray
  | none, none => none
  | some v, none => (g ⟨n, v⟩ default).map (·.val)
  | none, some w => (g default ⟨n, w⟩).map (·.val)
  | some v, some w => (g ⟨n, v⟩ ⟨n, w⟩).map (·.val)

theorem fm_cons {g : Attr → Attr → Option Attr} {x y : Attr} {l : List (Attr × Attr)} : ((x, y) :: l).filterMap (fun p => g p.1 p.2) = (g x y).toList ++ l.filterMap (fun p => g p.1 p.2) := by
  rw [List.filterMap_cons]
  cases g x y <;> rfl
theorem look_opt {o : Option Attr} {l : List Attr} {k n : ByteArray} (h : ∀ z, o = some z → z.name = k) : look (o.toList ++ l) n = if k = n then (o.map (·.val)).or (look l n) else look l n := by
  cases o with
  | none => simp
  | some z =>
    have := h z rfl
    subst this
    simp [look]
theorem above_opt {o : Option Attr} {l : List Attr} {k n : ByteArray} (h : ∀ z, o = some z → z.name = k) (hn : slt n k = true) (hl : Above n l) : Above n (o.toList ++ l) := by
  intro a ha
  rcases List.mem_append.1 ha with ha | ha
  · rw [h a (by simpa using ha)]; exact hn
  · exact hl a ha
theorem sorted_opt {o : Option Attr} {l : List Attr} {k : ByteArray} (h : ∀ z, o = some z → z.name = k) (hl : Above k l) (hs : Sorted l) : Sorted (o.toList ++ l) := by
  cases o with
  | none => exact hs
  | some z => exact ⟨by rw [h z rfl]; exact hl, hs⟩

theorem look_hd {a : Attr} {l : List Attr} : look (a :: l) a.name = some a.val := by rw [look, if_pos rfl]
theorem look_tl {a : Attr} {l : List Attr} {n : ByteArray} (h : a.name ≠ n) : look (a :: l) n = look l n := by rw [look, if_neg h]
theorem fm_main {g : Attr → Attr → Option Attr} (hg : Fair g) : ∀ (a b : List Attr), Sorted a → Sorted b → Named a → Named b →
    Sorted (fm g a b) ∧ (∀ n, Above n a → Above n b → Above n (fm g a b)) ∧ ∀ n, look (fm g a b) n = at2 g n (look a n) (look b n) := by
  intro a b
  induction a, b using bothL.induct with
  | case1 => intro _ _ _ _; exact ⟨by simp [fm, bothL, Sorted], fun n _ _ => by simp [fm, bothL, Above], fun n => by simp [fm, bothL, look, at2]⟩
  | case2 y b ih =>
    intro _ hb _ nb
    obtain ⟨i1, i2, i3⟩ := ih trivial hb.2 (fun _ h => by cases h) (fun a h => nb a (by simp [h]))
    have hk : ∀ z, g default y = some z → z.name = y.name := fun z hz => by rw [hg _ _ z hz, if_neg (nb y (by simp))]
    have e : fm g [] (y :: b) = (g default y).toList ++ fm g [] b := by unfold fm; rw [bothL, fm_cons]
    rw [e]
    refine ⟨sorted_opt hk (i2 _ (fun _ h => by cases h) hb.1) i1, fun n h1 h2 => above_opt hk (h2 y (by simp)) (i2 n h1 (fun a h => h2 a (by simp [h]))), fun n => ?_⟩
    rw [look_opt hk, i3]
    simp only [look]
    by_cases h : y.name = n
    · subst h
      rw [look_above (l := b) (fun z hz e => slt_ne (hb.1 z hz) e.symm)]
      simp [at2]
    · simp only [if_neg h]
  | case3 x a ih =>
    intro ha _ na _
    obtain ⟨i1, i2, i3⟩ := ih ha.2 trivial (fun a h => na a (by simp [h])) (fun _ h => by cases h)
    have hk : ∀ z, g x default = some z → z.name = x.name := fun z hz => by rw [hg _ _ z hz]; exact if_pos rfl
    have e : fm g (x :: a) [] = (g x default).toList ++ fm g a [] := by unfold fm; rw [bothL, fm_cons]
    rw [e]
    refine ⟨sorted_opt hk (i2 _ ha.1 (fun _ h => by cases h)) i1, fun n h1 h2 => above_opt hk (h1 x (by simp)) (i2 n (fun a h => h1 a (by simp [h])) h2), fun n => ?_⟩
    rw [look_opt hk, i3]
    simp only [look]
    by_cases h : x.name = n
    · subst h
      rw [look_above (l := a) (fun z hz e => slt_ne (ha.1 z hz) e.symm)]
      simp [at2]
    · simp only [if_neg h]
  | case4 x a y b h ih =>
    intro ha hb na nb
    obtain ⟨i1, i2, i3⟩ := ih ha.2 hb (fun a h => na a (by simp [h])) nb
    have hk : ∀ z, g x default = some z → z.name = x.name := fun z hz => by rw [hg _ _ z hz]; exact if_pos rfl
    have e : fm g (x :: a) (y :: b) = (g x default).toList ++ fm g a (y :: b) := by unfold fm; rw [bothL, if_pos h, fm_cons]
    have hxb : Above x.name (y :: b) := fun z hz => by
      rcases List.mem_cons.1 hz with rfl | hz
      · exact h
      · exact slt_trans h (hb.1 z hz)
    rw [e]
    refine ⟨sorted_opt hk (i2 _ ha.1 hxb) i1, fun n h1 h2 => above_opt hk (h1 x (by simp)) (i2 n (fun a h => h1 a (by simp [h])) h2), fun n => ?_⟩
    rw [look_opt hk, i3]
    by_cases hn : x.name = n
    · subst hn
      rw [look_above (l := y :: b) (fun z hz e => slt_ne (hxb z hz) e.symm), look_above (l := a) (fun z hz e => slt_ne (ha.1 z hz) e.symm), look_hd]
      simp [at2]
    · rw [if_neg hn, look_tl hn]
  | case5 x a y b h k ih =>
    intro ha hb na nb
    obtain ⟨i1, i2, i3⟩ := ih ha hb.2 na (fun a h => nb a (by simp [h]))
    have hk : ∀ z, g default y = some z → z.name = y.name := fun z hz => by rw [hg _ _ z hz, if_neg (nb y (by simp))]
    have e : fm g (x :: a) (y :: b) = (g default y).toList ++ fm g (x :: a) b := by unfold fm; rw [bothL, if_neg h, if_pos k, fm_cons]
    have hya : Above y.name (x :: a) := fun z hz => by
      rcases List.mem_cons.1 hz with rfl | hz
      · exact k
      · exact slt_trans k (ha.1 z hz)
    rw [e]
    refine ⟨sorted_opt hk (i2 _ hya hb.1) i1, fun n h1 h2 => above_opt hk (h2 y (by simp)) (i2 n h1 (fun a h => h2 a (by simp [h]))), fun n => ?_⟩
    rw [look_opt hk, i3]
    by_cases hn : y.name = n
    · subst hn
      rw [look_above (l := x :: a) (fun z hz e => slt_ne (hya z hz) e.symm), look_above (l := b) (fun z hz e => slt_ne (hb.1 z hz) e.symm), look_hd]
      simp [at2]
    · rw [if_neg hn, look_tl (a := y) hn]
  | case6 x a y b h k ih =>
    intro ha hb na nb
    obtain ⟨i1, i2, i3⟩ := ih ha.2 hb.2 (fun a h => na a (by simp [h])) (fun a h => nb a (by simp [h]))
    have hxy : x.name = y.name := slt_tri (by simpa using h) (by simpa using k)
    have hk : ∀ z, g x y = some z → z.name = x.name := fun z hz => by rw [hg _ _ z hz, if_neg (nb y (by simp)), hxy]
    have e : fm g (x :: a) (y :: b) = (g x y).toList ++ fm g a b := by unfold fm; rw [bothL, if_neg h, if_neg k, fm_cons]
    rw [e]
    refine ⟨sorted_opt hk (i2 _ ha.1 (by rw [hxy]; exact hb.1)) i1, fun n h1 h2 => above_opt hk (h1 x (by simp)) (i2 n (fun a h => h1 a (by simp [h])) (fun a h => h2 a (by simp [h]))), fun n => ?_⟩
    rw [look_opt hk, i3]
    by_cases hn : x.name = n
    · subst hn
      have ey : (⟨x.name, y.val⟩ : Attr) = y := by rw [hxy]
      have hl : look (y :: b) x.name = some y.val := by rw [hxy]; exact look_hd
      rw [hl, look_hd, look_above (l := a) (fun z hz e => slt_ne (ha.1 z hz) e.symm), look_above (l := b) (fun z hz e => slt_ne (hb.1 z hz) (by rw [← hxy, e]))]
      simp [at2, ey]
    · rw [if_neg hn, look_tl hn, look_tl (a := y) (by rw [← hxy]; exact hn)]


/-! ### The four visitors -/
theorem dflt : (default : Attr) = ⟨mt, mt⟩ := rfl
def rawG (x y : Attr) : Option Attr := if y.name = mt then some x else if y.val = mt then none else some y
def chgG (x y : Attr) : Option Attr := if y.name = mt then some ⟨x.name, mt⟩ else if x.name = y.name ∧ x.val = y.val then none else some y
def botG (x y : Attr) : Option Attr := some (if y.name = mt then x else y)
def wioG (x y : Attr) : Option Attr := if y.name = mt then some x else none
theorem fair_raw : Fair rawG := by intro x y z h; unfold rawG at h; (repeat' split at h) <;> simp_all
theorem fair_chg : Fair chgG := by intro x y z h; unfold chgG at h; (repeat' split at h) <;> simp_all <;> subst h <;> simp_all
section
variable (NP VP : ByteArray → Prop)
/-- A value that may stand under a name: in a list (e = false) or in a change (e = true). -/
def Q (e : Bool) (n v : ByteArray) : Prop := NP n ∧ (VP v ∨ (e = true ∧ v = mt))
def V (e : Bool) (l : List Attr) : Prop := Sorted l ∧ ∀ a ∈ l, Q NP VP e a.name a.val
end
section
variable {NP VP : ByteArray → Prop} (hN : ¬ NP mt) (hV : ¬ VP mt)
include hN
theorem V.named {e : Bool} {l : List Attr} (h : V NP VP e l) : Named l := fun a ha e' => hN (by have := (h.2 a ha).1; rwa [e'] at this)
omit hN in
theorem V.look {e : Bool} {l : List Attr} (h : V NP VP e l) {n v : ByteArray} (hl : look l n = some v) : Q NP VP e n v := h.2 ⟨n, v⟩ (look_mem hl)
theorem fm_look {e1 e2 : Bool} {g : Attr → Attr → Option Attr} (hg : Fair g) {a b : List Attr} (ha : V NP VP e1 a) (hb : V NP VP e2 b) (n : ByteArray) :
    Go.Ch.look (fm g a b) n = at2 g n (Go.Ch.look a n) (Go.Ch.look b n) := (fm_main hg a b ha.1 hb.1 (ha.named hN) (hb.named hN)).2.2 n
theorem fm_V {e1 e2 e3 : Bool} {g : Attr → Attr → Option Attr} (hg : Fair g) {a b : List Attr} (ha : V NP VP e1 a) (hb : V NP VP e2 b)
    (h1 : ∀ n v z, n ≠ mt → Q NP VP e1 n v → at2 g n (some v) none = some z → Q NP VP e3 n z)
    (h2 : ∀ n v z, n ≠ mt → Q NP VP e2 n v → at2 g n none (some v) = some z → Q NP VP e3 n z)
    (h3 : ∀ n v w z, n ≠ mt → Q NP VP e1 n v → Q NP VP e2 n w → at2 g n (some v) (some w) = some z → Q NP VP e3 n z) : V NP VP e3 (fm g a b) := by
  have hm := fm_main hg a b ha.1 hb.1 (ha.named hN) (hb.named hN)
  refine ⟨hm.1, fun z hz => ?_⟩
  have hl := look_of_mem hm.1 hz
  rw [hm.2.2] at hl
  have hq : ∀ {e v}, Q NP VP e z.name v → z.name ≠ mt := fun q e => hN (e ▸ q.1)
  cases h4 : Go.Ch.look a z.name with
  | none =>
    cases h5 : Go.Ch.look b z.name with
    | none => rw [h4, h5] at hl; cases hl
    | some w => rw [h4, h5] at hl; exact h2 _ _ _ (hq (hb.look h5)) (hb.look h5) hl
  | some v =>
    cases h5 : Go.Ch.look b z.name with
    | none => rw [h4, h5] at hl; exact h1 _ _ _ (hq (ha.look h4)) (ha.look h4) hl
    | some w => rw [h4, h5] at hl; exact h3 _ _ _ _ (hq (ha.look h4)) (ha.look h4) (hb.look h5) hl
theorem q_ne {e : Bool} {n v : ByteArray} (h : Q NP VP e n v) : n ≠ mt := fun e => hN (e ▸ h.1)
theorem raw_V {l c : List Attr} (hl : V NP VP false l) (hc : V NP VP true c) : V NP VP false (fm rawG l c) := by
  refine fm_V hN fair_raw hl hc (fun n v z hn q h => ?_) (fun n v z hn q h => ?_) (fun n v w z hn q r h => ?_)
  · simp [at2, rawG, dflt] at h; subst h; exact q
  · simp [at2, rawG, dflt, hn] at h; obtain ⟨_, ⟨h1, rfl⟩, rfl⟩ := h; simp_all [Q]
  · simp [at2, rawG, dflt, hn] at h; obtain ⟨_, ⟨h1, rfl⟩, rfl⟩ := h; simp_all [Q]
theorem chg_V {a b : List Attr} (ha : V NP VP false a) (hb : V NP VP false b) : V NP VP true (fm chgG a b) := by
  refine fm_V hN fair_chg ha hb (fun n v z hn q h => ?_) (fun n v z hn q h => ?_) (fun n v w z hn q r h => ?_)
  · simp [at2, chgG, dflt] at h; subst h; exact ⟨q.1, .inr ⟨rfl, rfl⟩⟩
  · simp [at2, chgG, dflt, hn] at h; obtain ⟨_, ⟨h1, rfl⟩, rfl⟩ := h; simp_all [Q]
  · simp [at2, chgG, dflt, hn] at h; obtain ⟨_, ⟨h1, rfl⟩, rfl⟩ := h; simp_all [Q]
include hV
omit hN in
theorem q_val {n v : ByteArray} (h : Q NP VP false n v) : v ≠ mt := fun e => by
  rcases h.2 with h | h
  · exact hV (e ▸ h)
  · cases h.1
/-- A change and its Undo leave the list. -/
theorem undo_back {l c : List Attr} (hl : V NP VP false l) (hc : V NP VP true c) : fm rawG (fm rawG l c) (fm chgG (fm rawG l c) l) = l := by
  have hm := raw_V hN hl hc
  have hu := chg_V hN hm hl
  refine sorted_ext (raw_V hN hm hu).1 hl.1 (fun n => ?_)
  rw [fm_look hN fair_raw hm hu, fm_look hN fair_chg hm hl, fm_look hN fair_raw hl hc]
  cases h1 : look l n with
  | none =>
    cases h2 : look c n with
    | none => rfl
    | some w =>
      have hn := q_ne hN (hc.look h2)
      by_cases hw : w = mt
      · subst hw; simp [at2, rawG, chgG, dflt, hn]
      · simp [at2, rawG, chgG, dflt, hn, hw]
  | some v =>
    have hn := q_ne hN (hl.look h1)
    have hv := q_val hV (hl.look h1)
    cases h2 : look c n with
    | none => simp [at2, rawG, chgG, dflt, hn, hv]
    | some w =>
      by_cases hw : w = mt
      · subst hw; simp [at2, rawG, chgG, dflt, hn, hv, Ne.symm hn]
      · by_cases hwv : w = v
        · subst hwv; simp [at2, rawG, chgG, dflt, hn, hv]
        · simp [at2, rawG, chgG, dflt, hn, hv, hw, hwv]
/-- Between leads from a to b. -/
theorem between_leads {a b : List Attr} (ha : V NP VP false a) (hb : V NP VP false b) : fm rawG a (fm chgG a b) = b := by
  have hc := chg_V hN ha hb
  refine sorted_ext (raw_V hN ha hc).1 hb.1 (fun n => ?_)
  rw [fm_look hN fair_raw ha hc, fm_look hN fair_chg ha hb]
  cases h1 : look a n with
  | none =>
    cases h2 : look b n with
    | none => rfl
    | some w =>
      have hn := q_ne hN (hb.look h2)
      have hw := q_val hV (hb.look h2)
      simp [at2, rawG, chgG, dflt, hn, hw, Ne.symm hn]
  | some v =>
    have hn := q_ne hN (ha.look h1)
    cases h2 : look b n with
    | none => simp [at2, rawG, chgG, dflt, hn]
    | some w =>
      have hw := q_val hV (hb.look h2)
      by_cases hwv : v = w
      · subst hwv; simp [at2, rawG, chgG, dflt, hn, hw]
      · simp [at2, rawG, chgG, dflt, hn, hw, hwv]
/-- .. and names only what differs. -/
theorem between_differs {a b : List Attr} (ha : V NP VP false a) (hb : V NP VP false b) {x : Attr} (hx : x ∈ fm chgG a b) : (look a x.name).getD mt ≠ (look b x.name).getD mt := by
  have hc := chg_V hN ha hb
  have hl := look_of_mem hc.1 hx
  rw [fm_look hN fair_chg ha hb] at hl
  cases h1 : look a x.name with
  | none =>
    cases h2 : look b x.name with
    | none => rw [h1, h2] at hl; cases hl
    | some w => exact fun e => q_val hV (hb.look h2) e.symm
  | some v =>
    cases h2 : look b x.name with
    | none => exact q_val hV (ha.look h1)
    | some w =>
      rw [h1, h2] at hl
      intro e
      simp only [Option.getD_some] at e
      subst e
      simp [at2, chgG, q_ne hN (ha.look h1)] at hl
end

end Go.Ch
end
section
set_option linter.unusedVariables false
set_option linter.unusedSimpArgs false
set_option maxRecDepth 100000
set_option maxHeartbeats 4000000
open Go Go.Proofs Go.Ab
namespace Go.Ch
theorem seq_mt {s : ByteArray} : seq s { data := #[] } = decide (s.size = 0) := by
  by_cases h : s.size = 0
  · rw [decide_eq_true h, seq_iff]
    obtain ⟨⟨l⟩⟩ := s
    cases l with
    | nil => rfl
    | cons a l => simp [ByteArray.size] at h
  · rw [decide_eq_false h, seq_no]
    intro e; subst e; exact h rfl
theorem str_pos {s : ByteArray} (h : seq s { data := #[] } = false) : (0 : Int) < (s.size : Int) := by
  rw [seq_mt, decide_eq_false_iff_not] at h; omega
def byt (s : ByteArray) (i : Nat) : Nat := ((s[i]?).getD 0).toNat
def badC (b : Nat) : Prop := (b < 97 ∨ 122 < b) ∧ (b < 48 ∨ 57 < b) ∧ b ≠ 46 ∧ b ≠ 45
instance (b : Nat) : Decidable (badC b) := by unfold badC; infer_instance
def nmS (s : ByteArray) (i : Nat) : Bool := if i < s.size then (if badC (byt s i) then false else nmS s (i + 1)) else true
termination_by s.size - i
def nameGo (s : ByteArray) : Bool := decide (1 ≤ s.size ∧ s.size ≤ 24 ∧ 97 ≤ byt s 0 ∧ byt s 0 ≤ 122) && nmS s 0
def vlS (s : ByteArray) (i : Nat) : Bool := if i < s.size then (if byt s i < 32 ∨ 126 < byt s i then false else vlS s (i + 1)) else true
termination_by s.size - i
def valGo (s : ByteArray) : Bool := decide (1 ≤ s.size ∧ s.size ≤ 200) && vlS s 0
def nmR (s : ByteArray) (i : Nat) : Bool := if i < s.size then (if (byt s i < 97 ∨ 122 < byt s i) ∧ (i = 0 ∨ (byt s i ≠ 46 ∧ byt s i ≠ 45 ∧ (byt s i < 48 ∨ 57 < byt s i))) then false else nmR s (i + 1)) else true
termination_by s.size - i
def nameRf (s : ByteArray) : Bool := nmR s 0 && decide (1 ≤ s.size ∧ s.size ≤ 24)
def valRf (s : ByteArray) : Bool := vlS s 0 && decide (1 ≤ s.size ∧ s.size ≤ 200)
theorem nmR_pos (s : ByteArray) (i : Nat) (h : 0 < i) : nmR s i = nmS s i := by
  induction i using nmS.induct (s := s) with
  | case1 i hi hb => rw [nmR, nmS, if_pos hi, if_pos hi, if_pos hb, if_pos]; unfold badC at hb; omega
  | case2 i hi hb ih => rw [nmR, nmS, if_pos hi, if_pos hi, if_neg hb, if_neg]; exact ih (by omega); unfold badC at hb; omega
  | case3 i hi => rw [nmR, nmS, if_neg hi, if_neg hi]
theorem nameRf_eq (s : ByteArray) : nameRf s = nameGo s := by
  unfold nameRf nameGo
  by_cases h : 1 ≤ s.size
  · rw [nmR, if_pos (by omega), nmR_pos s (0 + 1) (by omega)]
    by_cases h2 : 97 ≤ byt s 0 ∧ byt s 0 ≤ 122
    · have e : nmS s 0 = nmS s (0 + 1) := by rw [nmS, if_pos (by omega), if_neg (by unfold badC; omega)]
      rw [if_neg (by omega), e, Bool.and_comm]
      congr 1
      simp [h2]
    · rw [if_pos (by omega), decide_eq_false (by omega : ¬ (1 ≤ s.size ∧ s.size ≤ 24 ∧ 97 ≤ byt s 0 ∧ byt s 0 ≤ 122))]
      simp
  · rw [decide_eq_false (by omega), decide_eq_false (by omega)]; simp
theorem valRf_eq (s : ByteArray) : valRf s = valGo s := by unfold valRf valGo; rw [Bool.and_comm]
theorem byt0 (s : ByteArray) (i : Nat) : ((s[i]?).getD 0).toNat = byt s i := rfl

theorem fc_name (s : ByteArray) : FC Try.prog 149 [VS s] (app emp []) (VB (nameGo s)) (app emp []) := by
 refine .go Try.f149 ?_
 refine .br [.r [], .r [(4, Xv 1 (!(seq s ({ data := #[] }))) X0), (5, Xv 1 (!(seq s ({ data := #[] }))) X0), (6, X (Xk' (seq s ({ data := #[] })))), (9, Xv 1 (!(seq s ({ data := #[] }) || decide ((s.size : Int) > 24))) (Xb s 0) (fun hg => by (try simp only [decide_eq_true_eq, decide_eq_false_iff_not, Int.not_lt, Int.not_le, gt_iff_lt, Bool.not_eq_true', Bool.not_eq_false', Bool.or_eq_true, Bool.or_eq_false_iff] at hg); exact ⟨(by first | omega | (simp; omega) | (simp; done) | assumption), (str_pos (by first | exact hg | exact hg.1 | exact hg.1.1))⟩)), (10, Xv 1 (!(seq s ({ data := #[] }) || decide ((s.size : Int) > 24))) X0), (11, X (Xk' (seq s ({ data := #[] }) || decide ((s.size : Int) > 24)))), (14, Xv 1 (!((seq s ({ data := #[] }) || decide ((s.size : Int) > 24)) || decide (((((s[0]?).getD 0).toNat : Nat) : Int) < 97))) (Xb s 0) (fun hg => by (try simp only [decide_eq_true_eq, decide_eq_false_iff_not, Int.not_lt, Int.not_le, gt_iff_lt, Bool.not_eq_true', Bool.not_eq_false', Bool.or_eq_true, Bool.or_eq_false_iff] at hg); exact ⟨(by first | omega | (simp; omega) | (simp; done) | assumption), (str_pos (by first | exact hg | exact hg.1 | exact hg.1.1))⟩)), (15, Xv 1 (!((seq s ({ data := #[] }) || decide ((s.size : Int) > 24)) || decide (((((s[0]?).getD 0).toNat : Nat) : Int) < 97))) X0), (16, X (Xk' ((seq s ({ data := #[] }) || decide ((s.size : Int) > 24)) || decide (((((s[0]?).getD 0).toNat : Nat) : Int) < 97))))]] (((seq s ({ data := #[] }) || decide ((s.size : Int) > 24)) || decide (((((s[0]?).getD 0).toNat : Nat) : Int) < 97)) || decide (((((s[0]?).getD 0).toNat : Nat) : Int) > 122)) (fun h1 => ?_) (fun h1 => ?_)
 ·
  (try simp only [decide_eq_true_eq, decide_eq_false_iff_not, Int.not_lt, Int.not_le, gt_iff_lt, Bool.or_eq_true, Bool.or_eq_false_iff] at h1)
  have e1 : ((nameGo s) : Bool) = false := by
   simp only [byt0, seq_mt, decide_eq_true_eq] at h1; unfold nameGo; rw [decide_eq_false (by omega)]; rfl
  exact .finE [.r []] [] (fun z0 => (VB z0, [])) (false : Bool) ((nameGo s) : Bool) e1
 ·
  (try simp only [decide_eq_true_eq, decide_eq_false_iff_not, Int.not_lt, Int.not_le, gt_iff_lt, Bool.or_eq_true, Bool.or_eq_false_iff] at h1)
  refine .loop (α := Nat) [.r []] 168 (fun i => ([(0, VS s), (23, VI (s.size : Int)), (24, VI (i : Int))], [])) (fun i => i ≤ s.size ∧ nmS s 0 = nmS s i) (fun i => s.size - i) (0 : Nat) ?_ ?_
  ·
   exact ⟨by omega, rfl⟩
  rintro i I4 ih4
  try dsimp only at I4
  refine .br [.r []] (decide ((i : Int) < (s.size : Int))) (fun h4 => ?_) (fun h4 => ?_)
  ·
   (try simp only [decide_eq_true_eq, decide_eq_false_iff_not, Int.not_lt, Int.not_le] at h4)
   refine .br [.r [], .r [(2, X (Xb s (i : Int)))], .r [(4, Xv 1 (!(decide (((((s[i]?).getD 0).toNat : Nat) : Int) < 97))) X0), (5, X (Xk' (decide (((((s[i]?).getD 0).toNat : Nat) : Int) < 97)))), (8, Xv 1 (decide (((((s[i]?).getD 0).toNat : Nat) : Int) < 97) || decide (((((s[i]?).getD 0).toNat : Nat) : Int) > 122)) X0), (9, Xv 1 (decide (((((s[i]?).getD 0).toNat : Nat) : Int) < 97) || decide (((((s[i]?).getD 0).toNat : Nat) : Int) > 122)) X0), (11, Xv 1 ((decide (((((s[i]?).getD 0).toNat : Nat) : Int) < 97) || decide (((((s[i]?).getD 0).toNat : Nat) : Int) > 122)) && !(decide (((((s[i]?).getD 0).toNat : Nat) : Int) < 48))) X0), (12, Xko (decide (((((s[i]?).getD 0).toNat : Nat) : Int) < 97) || decide (((((s[i]?).getD 0).toNat : Nat) : Int) > 122)) (decide (((((s[i]?).getD 0).toNat : Nat) : Int) < 48))), (13, X (Xk (decide (((((s[i]?).getD 0).toNat : Nat) : Int) < 97) || decide (((((s[i]?).getD 0).toNat : Nat) : Int) > 122)))), (16, Xv 1 ((decide (((((s[i]?).getD 0).toNat : Nat) : Int) < 97) || decide (((((s[i]?).getD 0).toNat : Nat) : Int) > 122)) && (decide (((((s[i]?).getD 0).toNat : Nat) : Int) < 48) || decide (((((s[i]?).getD 0).toNat : Nat) : Int) > 57))) X0), (17, X (Xk ((decide (((((s[i]?).getD 0).toNat : Nat) : Int) < 97) || decide (((((s[i]?).getD 0).toNat : Nat) : Int) > 122)) && (decide (((((s[i]?).getD 0).toNat : Nat) : Int) < 48) || decide (((((s[i]?).getD 0).toNat : Nat) : Int) > 57))))), (20, Xv 1 (((decide (((((s[i]?).getD 0).toNat : Nat) : Int) < 97) || decide (((((s[i]?).getD 0).toNat : Nat) : Int) > 122)) && (decide (((((s[i]?).getD 0).toNat : Nat) : Int) < 48) || decide (((((s[i]?).getD 0).toNat : Nat) : Int) > 57))) && (((((s[i]?).getD 0).toNat : Nat) : Int) != 46)) X0), (21, X (Xk (((decide (((((s[i]?).getD 0).toNat : Nat) : Int) < 97) || decide (((((s[i]?).getD 0).toNat : Nat) : Int) > 122)) && (decide (((((s[i]?).getD 0).toNat : Nat) : Int) < 48) || decide (((((s[i]?).getD 0).toNat : Nat) : Int) > 57))) && (((((s[i]?).getD 0).toNat : Nat) : Int) != 46))))]] ((((decide (((((s[i]?).getD 0).toNat : Nat) : Int) < 97) || decide (((((s[i]?).getD 0).toNat : Nat) : Int) > 122)) && (decide (((((s[i]?).getD 0).toNat : Nat) : Int) < 48) || decide (((((s[i]?).getD 0).toNat : Nat) : Int) > 57))) && (((((s[i]?).getD 0).toNat : Nat) : Int) != 46)) && (((((s[i]?).getD 0).toNat : Nat) : Int) != 45)) (fun h7 => ?_) (fun h7 => ?_)
   ·
    (try simp only [decide_eq_true_eq, decide_eq_false_iff_not, Int.not_lt, Int.not_le, gt_iff_lt, Bool.and_eq_true, Bool.and_eq_false_iff, Bool.not_eq_true', Bool.not_eq_false', Bool.or_eq_true, Bool.or_eq_false_iff, bne_iff_ne, bne_eq_false_iff_eq, ne_eq] at h7)
    have e2 : ((nameGo s) : Bool) = false := by
     simp only [byt0] at h7; unfold nameGo; rw [I4.2, nmS, if_pos (by omega), if_pos (by unfold badC; omega)]; simp
    exact .finE [.r []] [] (fun z0 => (VB z0, [])) (false : Bool) ((nameGo s) : Bool) e2
   ·
    (try simp only [decide_eq_true_eq, decide_eq_false_iff_not, Int.not_lt, Int.not_le, gt_iff_lt, Bool.and_eq_true, Bool.and_eq_false_iff, Bool.not_eq_true', Bool.not_eq_false', Bool.or_eq_true, Bool.or_eq_false_iff, bne_iff_ne, bne_eq_false_iff_eq, ne_eq] at h7)
    refine .back [.r [(0, X (Xn ((i : Int) + 1)))]] [] (ih4 ((i + 1) : Nat) ?_ ?_)
    ·
     simp only [byt0] at h7; refine ⟨by omega, ?_⟩; rw [I4.2, nmS, if_pos (by omega), if_neg (by unfold badC; omega)]
    ·
     ((try dsimp only); omega)
  ·
   (try simp only [decide_eq_true_eq, decide_eq_false_iff_not, Int.not_lt, Int.not_le] at h4)
   have e3 : ((nameGo s) : Bool) = true := by
    simp only [byt0, seq_mt, decide_eq_false_iff_not] at h1; unfold nameGo; rw [I4.2, nmS, if_neg (by omega), decide_eq_true (by omega)]; rfl
   exact .finE [.r []] [] (fun z0 => (VB z0, [])) (true : Bool) ((nameGo s) : Bool) e3

theorem fc_value (s : ByteArray) : FC Try.prog 150 [VS s] (app emp []) (VB (valGo s)) (app emp []) := by
 refine .go Try.f150 ?_
 refine .br [.r [], .r [(4, Xv 1 (!(seq s ({ data := #[] }))) X0), (5, Xv 1 (!(seq s ({ data := #[] }))) X0), (6, X (Xk' (seq s ({ data := #[] }))))]] (seq s ({ data := #[] }) || decide ((s.size : Int) > 200)) (fun h1 => ?_) (fun h1 => ?_)
 ·
  (try simp only [decide_eq_true_eq, decide_eq_false_iff_not, Int.not_lt, Int.not_le, gt_iff_lt, Bool.or_eq_true, Bool.or_eq_false_iff] at h1)
  have e1 : ((valGo s) : Bool) = false := by
   simp only [seq_mt, decide_eq_true_eq] at h1; unfold valGo; rw [decide_eq_false (by omega)]; rfl
  exact .finE [.r []] [] (fun z0 => (VB z0, [])) (false : Bool) ((valGo s) : Bool) e1
 ·
  (try simp only [decide_eq_true_eq, decide_eq_false_iff_not, Int.not_lt, Int.not_le, gt_iff_lt, Bool.or_eq_true, Bool.or_eq_false_iff] at h1)
  refine .loop (α := Nat) [.r []] 88 (fun i => ([(0, VS s), (12, VI (s.size : Int)), (13, VI (i : Int))], [])) (fun i => i ≤ s.size ∧ vlS s 0 = vlS s i) (fun i => s.size - i) (0 : Nat) ?_ ?_
  ·
   exact ⟨by omega, rfl⟩
  rintro i I4 ih4
  try dsimp only at I4
  refine .br [.r []] (decide ((i : Int) < (s.size : Int))) (fun h4 => ?_) (fun h4 => ?_)
  ·
   (try simp only [decide_eq_true_eq, decide_eq_false_iff_not, Int.not_lt, Int.not_le] at h4)
   refine .br [.r [], .r [(2, X (Xb s (i : Int))), (7, Xv 2 (!(decide (((((s[i]?).getD 0).toNat : Nat) : Int) < 32))) (Xb s (i : Int))), (8, Xv 1 (!(decide (((((s[i]?).getD 0).toNat : Nat) : Int) < 32))) X0), (9, X (Xk' (decide (((((s[i]?).getD 0).toNat : Nat) : Int) < 32))))]] (decide (((((s[i]?).getD 0).toNat : Nat) : Int) < 32) || decide (((((s[i]?).getD 0).toNat : Nat) : Int) > 126)) (fun h6 => ?_) (fun h6 => ?_)
   ·
    (try simp only [decide_eq_true_eq, decide_eq_false_iff_not, Int.not_lt, Int.not_le, gt_iff_lt, Bool.or_eq_true, Bool.or_eq_false_iff] at h6)
    have e2 : ((valGo s) : Bool) = false := by
     simp only [byt0] at h6; unfold valGo; rw [I4.2, vlS, if_pos (by omega), if_pos (by omega)]; simp
    exact .finE [.r []] [] (fun z0 => (VB z0, [])) (false : Bool) ((valGo s) : Bool) e2
   ·
    (try simp only [decide_eq_true_eq, decide_eq_false_iff_not, Int.not_lt, Int.not_le, gt_iff_lt, Bool.or_eq_true, Bool.or_eq_false_iff] at h6)
    refine .back [.r [(0, X (Xn ((i : Int) + 1)))]] [] (ih4 ((i + 1) : Nat) ?_ ?_)
    ·
     simp only [byt0] at h6; refine ⟨by omega, ?_⟩; rw [I4.2, vlS, if_pos (by omega), if_neg (by omega)]
    ·
     ((try dsimp only); omega)
  ·
   (try simp only [decide_eq_true_eq, decide_eq_false_iff_not, Int.not_lt, Int.not_le] at h4)
   have e3 : ((valGo s) : Bool) = true := by
    simp only [seq_mt, decide_eq_false_iff_not] at h1; unfold valGo; rw [I4.2, vlS, if_neg (by omega), decide_eq_true (by omega)]; rfl
   exact .finE [.r []] [] (fun z0 => (VB z0, [])) (true : Bool) ((valGo s) : Bool) e3

theorem fc_nameR (s : ByteArray) (hs : s.size ≤ 9223372036854775807) : FC Try.prog 79 [VS s] (app emp []) (VB (nameRf s)) (app emp []) := by
 refine .go Try.f79 ?_
 refine .loop (α := Nat) [.r [], .r []] 32 (fun i => ([(0, VS s), (6, VI (s.size : Int)), (7, VI (i : Int))], [])) (fun i => i ≤ s.size ∧ nmR s 0 = nmR s i) (fun i => s.size - i) (0 : Nat) ?_ ?_
 ·
  exact ⟨by omega, rfl⟩
 rintro i I2 ih2
 try dsimp only at I2
 refine .br [.r []] (decide ((i : Int) < (s.size : Int))) (fun h2 => ?_) (fun h2 => ?_)
 ·
  (try simp only [decide_eq_true_eq, decide_eq_false_iff_not, Int.not_lt, Int.not_le] at h2)
  refine .br [.r [], .r [(2, X (Xb s (i : Int))), (7, Xv 2 (decide (((((s[i]?).getD 0).toNat : Nat) : Int) ≥ 97)) (Xb s (i : Int))), (8, Xv 1 (decide (((((s[i]?).getD 0).toNat : Nat) : Int) ≥ 97)) X0), (9, X (Xk (decide (((((s[i]?).getD 0).toNat : Nat) : Int) ≥ 97))))], .r [(4, Xv 1 (!(decide (((((s[i]?).getD 0).toNat : Nat) : Int) ≥ 97) && decide (((((s[i]?).getD 0).toNat : Nat) : Int) ≤ 122))) X0), (5, Xv 1 (!(decide (((((s[i]?).getD 0).toNat : Nat) : Int) ≥ 97) && decide (((((s[i]?).getD 0).toNat : Nat) : Int) ≤ 122))) X0), (8, Xv 2 ((!(decide (((((s[i]?).getD 0).toNat : Nat) : Int) ≥ 97) && decide (((((s[i]?).getD 0).toNat : Nat) : Int) ≤ 122))) && !((i : Int) == 0)) (Xb s (i : Int))), (9, Xv 1 ((!(decide (((((s[i]?).getD 0).toNat : Nat) : Int) ≥ 97) && decide (((((s[i]?).getD 0).toNat : Nat) : Int) ≤ 122))) && !((i : Int) == 0)) X0), (10, Xv 1 ((!(decide (((((s[i]?).getD 0).toNat : Nat) : Int) ≥ 97) && decide (((((s[i]?).getD 0).toNat : Nat) : Int) ≤ 122))) && !((i : Int) == 0)) X0), (13, Xv 2 (((!(decide (((((s[i]?).getD 0).toNat : Nat) : Int) ≥ 97) && decide (((((s[i]?).getD 0).toNat : Nat) : Int) ≤ 122))) && !((i : Int) == 0)) && (((((s[i]?).getD 0).toNat : Nat) : Int) != 46)) (Xb s (i : Int))), (14, Xv 1 (((!(decide (((((s[i]?).getD 0).toNat : Nat) : Int) ≥ 97) && decide (((((s[i]?).getD 0).toNat : Nat) : Int) ≤ 122))) && !((i : Int) == 0)) && (((((s[i]?).getD 0).toNat : Nat) : Int) != 46)) X0), (15, Xka ((!(decide (((((s[i]?).getD 0).toNat : Nat) : Int) ≥ 97) && decide (((((s[i]?).getD 0).toNat : Nat) : Int) ≤ 122))) && !((i : Int) == 0)) (((((s[i]?).getD 0).toNat : Nat) : Int) != 46)), (16, Xv 1 ((!(decide (((((s[i]?).getD 0).toNat : Nat) : Int) ≥ 97) && decide (((((s[i]?).getD 0).toNat : Nat) : Int) ≤ 122))) && !((i : Int) == 0)) X0), (19, Xv 2 (((!(decide (((((s[i]?).getD 0).toNat : Nat) : Int) ≥ 97) && decide (((((s[i]?).getD 0).toNat : Nat) : Int) ≤ 122))) && !((i : Int) == 0)) && ((((((s[i]?).getD 0).toNat : Nat) : Int) != 46) && (((((s[i]?).getD 0).toNat : Nat) : Int) != 45))) (Xb s (i : Int))), (20, Xv 1 (((!(decide (((((s[i]?).getD 0).toNat : Nat) : Int) ≥ 97) && decide (((((s[i]?).getD 0).toNat : Nat) : Int) ≤ 122))) && !((i : Int) == 0)) && ((((((s[i]?).getD 0).toNat : Nat) : Int) != 46) && (((((s[i]?).getD 0).toNat : Nat) : Int) != 45))) X0), (21, Xv 1 (((!(decide (((((s[i]?).getD 0).toNat : Nat) : Int) ≥ 97) && decide (((((s[i]?).getD 0).toNat : Nat) : Int) ≤ 122))) && !((i : Int) == 0)) && ((((((s[i]?).getD 0).toNat : Nat) : Int) != 46) && (((((s[i]?).getD 0).toNat : Nat) : Int) != 45))) X0), (24, Xv 2 ((((!(decide (((((s[i]?).getD 0).toNat : Nat) : Int) ≥ 97) && decide (((((s[i]?).getD 0).toNat : Nat) : Int) ≤ 122))) && !((i : Int) == 0)) && ((((((s[i]?).getD 0).toNat : Nat) : Int) != 46) && (((((s[i]?).getD 0).toNat : Nat) : Int) != 45))) && !(decide (((((s[i]?).getD 0).toNat : Nat) : Int) < 48))) (Xb s (i : Int))), (25, Xv 1 ((((!(decide (((((s[i]?).getD 0).toNat : Nat) : Int) ≥ 97) && decide (((((s[i]?).getD 0).toNat : Nat) : Int) ≤ 122))) && !((i : Int) == 0)) && ((((((s[i]?).getD 0).toNat : Nat) : Int) != 46) && (((((s[i]?).getD 0).toNat : Nat) : Int) != 45))) && !(decide (((((s[i]?).getD 0).toNat : Nat) : Int) < 48))) X0), (26, Xko (((!(decide (((((s[i]?).getD 0).toNat : Nat) : Int) ≥ 97) && decide (((((s[i]?).getD 0).toNat : Nat) : Int) ≤ 122))) && !((i : Int) == 0)) && ((((((s[i]?).getD 0).toNat : Nat) : Int) != 46) && (((((s[i]?).getD 0).toNat : Nat) : Int) != 45))) (decide (((((s[i]?).getD 0).toNat : Nat) : Int) < 48))), (27, Xka ((!(decide (((((s[i]?).getD 0).toNat : Nat) : Int) ≥ 97) && decide (((((s[i]?).getD 0).toNat : Nat) : Int) ≤ 122))) && !((i : Int) == 0)) ((((((s[i]?).getD 0).toNat : Nat) : Int) != 46) && (((((s[i]?).getD 0).toNat : Nat) : Int) != 45))), (28, Xko (!(decide (((((s[i]?).getD 0).toNat : Nat) : Int) ≥ 97) && decide (((((s[i]?).getD 0).toNat : Nat) : Int) ≤ 122))) ((i : Int) == 0)), (29, X (Xk (!(decide (((((s[i]?).getD 0).toNat : Nat) : Int) ≥ 97) && decide (((((s[i]?).getD 0).toNat : Nat) : Int) ≤ 122)))))]] (!(decide (((((s[i]?).getD 0).toNat : Nat) : Int) ≥ 97) && decide (((((s[i]?).getD 0).toNat : Nat) : Int) ≤ 122)) && (((i : Int) == 0) || (((((((s[i]?).getD 0).toNat : Nat) : Int) != 46) && (((((s[i]?).getD 0).toNat : Nat) : Int) != 45)) && (decide (((((s[i]?).getD 0).toNat : Nat) : Int) < 48) || decide (((((s[i]?).getD 0).toNat : Nat) : Int) > 57))))) (fun h5 => ?_) (fun h5 => ?_)
  ·
   (try simp only [decide_eq_true_eq, decide_eq_false_iff_not, Int.not_lt, Int.not_le, gt_iff_lt, ge_iff_le, Bool.not_eq_true', Bool.not_eq_false', Bool.and_eq_true, Bool.and_eq_false_iff, Bool.or_eq_true, Bool.or_eq_false_iff, beq_iff_eq, beq_eq_false_iff_ne, ne_eq, bne_iff_ne, bne_eq_false_iff_eq] at h5)
   have e1 : ((nameRf s) : Bool) = false := by
    simp only [byt0] at h5; unfold nameRf; rw [I2.2, nmR, if_pos (by omega), if_pos (by omega)]; simp
   exact .finE [.r []] [] (fun z0 => (VB z0, [])) (false : Bool) ((nameRf s) : Bool) e1
  ·
   (try simp only [decide_eq_true_eq, decide_eq_false_iff_not, Int.not_lt, Int.not_le, gt_iff_lt, ge_iff_le, Bool.not_eq_true', Bool.not_eq_false', Bool.and_eq_true, Bool.and_eq_false_iff, Bool.or_eq_true, Bool.or_eq_false_iff, beq_iff_eq, beq_eq_false_iff_ne, ne_eq, bne_iff_ne, bne_eq_false_iff_eq] at h5)
   refine .back [.r [(0, X (Xn ((i : Int) + 1)))]] [] (ih2 ((i + 1) : Nat) ?_ ?_)
   ·
    simp only [byt0] at h5; refine ⟨by omega, ?_⟩; rw [I2.2, nmR, if_pos (by omega), if_neg (by omega)]
   ·
    ((try dsimp only); omega)
 ·
  (try simp only [decide_eq_true_eq, decide_eq_false_iff_not, Int.not_lt, Int.not_le] at h2)
  have e2 : ((nameRf s) : Bool) = (decide ((s.size : Int) ≥ 1) && decide ((s.size : Int) ≤ 24)) := by
   unfold nameRf; rw [I2.2, nmR, if_neg (by omega), Bool.eq_iff_iff]; simp; omega
  exact .finE [.r [(5, Xv 1 (decide ((s.size : Int) ≥ 1)) X0), (6, Xv 1 (decide ((s.size : Int) ≥ 1)) X0), (7, X (Xk (decide ((s.size : Int) ≥ 1))))]] [] (fun z0 => (VB z0, [])) ((decide ((s.size : Int) ≥ 1) && decide ((s.size : Int) ≤ 24)) : Bool) ((nameRf s) : Bool) e2

theorem fc_valueR (s : ByteArray) (hs : s.size ≤ 9223372036854775807) : FC Try.prog 80 [VS s] (app emp []) (VB (valRf s)) (app emp []) := by
 refine .go Try.f80 ?_
 refine .loop (α := Nat) [.r [], .r []] 32 (fun i => ([(0, VS s), (5, VI (s.size : Int)), (6, VI (i : Int))], [])) (fun i => i ≤ s.size ∧ vlS s 0 = vlS s i) (fun i => s.size - i) (0 : Nat) ?_ ?_
 ·
  exact ⟨by omega, rfl⟩
 rintro i I2 ih2
 try dsimp only at I2
 refine .br [.r []] (decide ((i : Int) < (s.size : Int))) (fun h2 => ?_) (fun h2 => ?_)
 ·
  (try simp only [decide_eq_true_eq, decide_eq_false_iff_not, Int.not_lt, Int.not_le] at h2)
  refine .br [.r [], .r [(2, X (Xb s (i : Int))), (7, Xv 2 (!(decide (((((s[i]?).getD 0).toNat : Nat) : Int) < 32))) (Xb s (i : Int))), (8, Xv 1 (!(decide (((((s[i]?).getD 0).toNat : Nat) : Int) < 32))) X0), (9, X (Xk' (decide (((((s[i]?).getD 0).toNat : Nat) : Int) < 32))))]] (decide (((((s[i]?).getD 0).toNat : Nat) : Int) < 32) || decide (((((s[i]?).getD 0).toNat : Nat) : Int) > 126)) (fun h4 => ?_) (fun h4 => ?_)
  ·
   (try simp only [decide_eq_true_eq, decide_eq_false_iff_not, Int.not_lt, Int.not_le, gt_iff_lt, Bool.or_eq_true, Bool.or_eq_false_iff] at h4)
   have e1 : ((valRf s) : Bool) = false := by
    simp only [byt0] at h4; unfold valRf; rw [I2.2, vlS, if_pos (by omega), if_pos (by omega)]; simp
   exact .finE [.r []] [] (fun z0 => (VB z0, [])) (false : Bool) ((valRf s) : Bool) e1
  ·
   (try simp only [decide_eq_true_eq, decide_eq_false_iff_not, Int.not_lt, Int.not_le, gt_iff_lt, Bool.or_eq_true, Bool.or_eq_false_iff] at h4)
   refine .back [.r [(0, X (Xn ((i : Int) + 1)))]] [] (ih2 ((i + 1) : Nat) ?_ ?_)
   ·
    simp only [byt0] at h4; refine ⟨by omega, ?_⟩; rw [I2.2, vlS, if_pos (by omega), if_neg (by omega)]
   ·
    ((try dsimp only); omega)
 ·
  (try simp only [decide_eq_true_eq, decide_eq_false_iff_not, Int.not_lt, Int.not_le] at h2)
  have e2 : ((valRf s) : Bool) = (decide ((s.size : Int) ≥ 1) && decide ((s.size : Int) ≤ 200)) := by
   unfold valRf; rw [I2.2, vlS, if_neg (by omega), Bool.eq_iff_iff]; simp; omega
  exact .finE [.r [(5, Xv 1 (decide ((s.size : Int) ≥ 1)) X0), (6, Xv 1 (decide ((s.size : Int) ≥ 1)) X0), (7, X (Xk (decide ((s.size : Int) ≥ 1))))]] [] (fun z0 => (VB z0, [])) ((decide ((s.size : Int) ≥ 1) && decide ((s.size : Int) ≤ 200)) : Bool) ((valRf s) : Bool) e2

def chkA (e : Bool) (l : List Attr) (i : Nat) : Int :=
  if i < l.length then
    if nameGo (l.getD i default).name = false then 9
    else if valGo (l.getD i default).val = false ∧ (e = false ∨ seq (l.getD i default).val { data := #[] } = false) then 23
    else if 0 < i ∧ (slt (l.getD i default).name (l.getD (i - 1) default).name = true ∨ seq (l.getD i default).name (l.getD (i - 1) default).name = true) then 5
    else chkA e l (i + 1)
  else 0
termination_by l.length - i
def Szd (l : List Attr) : Prop := ∀ a ∈ l, a.name.size ≤ 9223372036854775807 ∧ a.val.size ≤ 9223372036854775807
theorem Szd.at {l : List Attr} (h : Szd l) {i : Nat} (hi : i < l.length) : (l.getD i default).name.size ≤ 9223372036854775807 ∧ (l.getD i default).val.size ≤ 9223372036854775807 := by
  rw [show l.getD i default = l[i] by simp [List.getD, List.getElem?_eq_getElem hi]]
  exact h _ (List.getElem_mem hi)

theorem fc_chk (l : List Attr) (e : Bool) : FC Try.prog 127 [VL 2 attrT l, VB e] (app emp []) (VI (chkA e l 0)) (app emp []) := by
 refine .go Try.f127 ?_
 refine .len 0 (fun hl0 => ?_)
 refine .loop (α := Nat) [.r [], .r [(1, X (Xl attrT l))]] 32 (fun i => ([(0, VL 2 attrT l), (1, VB e), (7, VL 2 attrT l), (8, VI (l.length : Int)), (9, VI (i : Int))], [])) (fun i => i ≤ l.length ∧ chkA e l 0 = chkA e l i) (fun i => l.length - i) (0 : Nat) ?_ ?_
 ·
  exact ⟨by omega, rfl⟩
 rintro i I2 ih2
 try dsimp only at I2
 refine .br [.r []] (decide ((i : Int) < (l.length : Int))) (fun h2 => ?_) (fun h2 => ?_)
 ·
  (try simp only [decide_eq_true_eq, decide_eq_false_iff_not, Int.not_lt, Int.not_le] at h2)
  refine .br [.r [(1, X (Xi attrT l (i : Int)))], .r [(2, X (Xc0 (fc_name (((l.getD i default)).name)) X0))]] (!(nameGo (((l.getD i default)).name))) (fun h4 => ?_) (fun h4 => ?_)
  ·
   (try simp only [Bool.not_eq_true', Bool.not_eq_false'] at h4)
   have e1 : ((chkA e l 0) : Int) = 9 := by
    rw [I2.2, chkA, if_pos (by omega), if_pos h4]
   exact .finE [.r []] [] (fun z0 => (VI z0, [])) (9 : Int) ((chkA e l 0) : Int) e1
  ·
   (try simp only [Bool.not_eq_true', Bool.not_eq_false'] at h4)
   refine .br [.r [(2, X (Xc0 (fc_value (((l.getD i default)).val)) X0)), (6, Xv 1 (!(valGo (((l.getD i default)).val))) X0), (8, Xv 1 ((!(valGo (((l.getD i default)).val))) && e) X0), (9, Xv 1 ((!(valGo (((l.getD i default)).val))) && e) X0), (10, Xka (!(valGo (((l.getD i default)).val))) e), (11, Xv 1 (!(valGo (((l.getD i default)).val))) X0), (12, X (Xk (!(valGo (((l.getD i default)).val)))))]] (!(valGo (((l.getD i default)).val)) && !(e && seq (((l.getD i default)).val) ({ data := #[] }))) (fun h6 => ?_) (fun h6 => ?_)
   ·
    (try simp only [Bool.not_eq_true', Bool.not_eq_false', Bool.and_eq_true, Bool.and_eq_false_iff] at h6)
    have e2 : ((chkA e l 0) : Int) = 23 := by
     rw [I2.2, chkA, if_pos (by omega), if_neg (by rw [h4]; decide), if_pos h6]
    exact .finE [.r []] [] (fun z0 => (VI z0, [])) (23 : Int) ((chkA e l 0) : Int) e2
   ·
    (try simp only [Bool.not_eq_true', Bool.not_eq_false', Bool.and_eq_true, Bool.and_eq_false_iff] at h6)
    refine .br [.r [(4, Xv 1 (decide ((i : Int) > 0)) X0), (7, Xv 1 (decide ((i : Int) > 0)) (Xn ((i : Int) - 1))), (8, Xv 2 (decide ((i : Int) > 0)) (Xi' attrT l ((i : Int) - 1) (i - 1))), (9, Xv 1 (decide ((i : Int) > 0)) X0), (10, Xv 1 (decide ((i : Int) > 0)) X0), (11, Xv 2 (decide ((i : Int) > 0)) X0), (12, X (Xk (decide ((i : Int) > 0))))]] (decide ((i : Int) > 0) && (slt (((l.getD i default)).name) (((l.getD (i - 1) default)).name) || seq (((l.getD i default)).name) (((l.getD (i - 1) default)).name))) (fun h8 => ?_) (fun h8 => ?_)
    ·
     (try simp only [decide_eq_true_eq, decide_eq_false_iff_not, Int.not_lt, Int.not_le, gt_iff_lt, Bool.and_eq_true, Bool.and_eq_false_iff, Bool.not_eq_true', Bool.not_eq_false', Bool.or_eq_true, Bool.or_eq_false_iff] at h8)
     have e3 : ((chkA e l 0) : Int) = 5 := by
      rw [I2.2, chkA, if_pos (by omega), if_neg (by rw [h4]; decide), if_neg (by clear ih2; rintro ⟨a, b⟩; simp_all), if_pos ⟨by omega, h8.2⟩]
     exact .finE [.r []] [] (fun z0 => (VI z0, [])) (5 : Int) ((chkA e l 0) : Int) e3
    ·
     (try simp only [decide_eq_true_eq, decide_eq_false_iff_not, Int.not_lt, Int.not_le, gt_iff_lt, Bool.and_eq_true, Bool.and_eq_false_iff, Bool.not_eq_true', Bool.not_eq_false', Bool.or_eq_true, Bool.or_eq_false_iff] at h8)
     refine .back [.r [(0, X (Xn ((i : Int) + 1)))]] [] (ih2 ((i + 1) : Nat) ?_ ?_)
     ·
      refine ⟨by omega, ?_⟩; rw [I2.2, chkA, if_pos (by omega), if_neg (by rw [h4]; decide), if_neg (by clear ih2; rintro ⟨a, b⟩; simp_all), if_neg (by clear ih2; rintro ⟨a, b⟩; rcases h8 with h | ⟨h, h2⟩; omega; rcases b with b | b <;> simp_all)]
     ·
      ((try dsimp only); omega)
 ·
  (try simp only [decide_eq_true_eq, decide_eq_false_iff_not, Int.not_lt, Int.not_le] at h2)
  have e4 : ((chkA e l 0) : Int) = 0 := by
   rw [I2.2, chkA, if_neg (by omega)]
  exact .finE [.r []] [] (fun z0 => (VI z0, [])) (0 : Int) ((chkA e l 0) : Int) e4

theorem fc_acheck (l : List Attr) : FC Try.prog 81 [VL 2 attrT l] (app emp []) (VI (chkA false l 0)) (app emp []) := by
 refine .go Try.f81 ?_
 refine .len 0 (fun hl0 => ?_)
 exact .fin [.r [], .r [(1, X (Xc0 (fc_chk l false) X0))]] []

theorem fc_acheckChange (l : List Attr) : FC Try.prog 82 [VL 2 attrT l] (app emp []) (VI (chkA true l 0)) (app emp []) := by
 refine .go Try.f82 ?_
 refine .len 0 (fun hl0 => ?_)
 exact .fin [.r [], .r [(1, X (Xc0 (fc_chk l true) X0))]] []

def errA (e : Bool) (l : List Attr) (i : Nat) : Int :=
  if i < l.length then
    if nameRf (l.getD i default).name = false then 9
    else if valRf (l.getD i default).val = false ∧ (e = false ∨ seq (l.getD i default).val { data := #[] } = false) then 23
    else if 0 < i ∧ slt (l.getD (i - 1) default).name (l.getD i default).name = false then 5
    else errA e l (i + 1)
  else 0
termination_by l.length - i
theorem slt_or (a b : ByteArray) : (slt a b = true ∨ seq a b = true) ↔ slt b a = false := by
  constructor
  · rintro (h | h)
    · exact slt_asymm h
    · rw [seq_iff] at h; subst h; exact slt_irr _
  · intro h
    cases k : slt a b with
    | true => exact .inl rfl
    | false => exact .inr (seq_iff.2 (slt_tri k h))
theorem errA_eq (e : Bool) (l : List Attr) : ∀ (n i : Nat), l.length - i = n → errA e l i = chkA e l i
  | 0, i, h => by rw [errA, chkA, if_neg (by omega), if_neg (by omega)]
  | n + 1, i, h => by
    have hi : i < l.length := by omega
    rw [errA, chkA, if_pos hi, if_pos hi, errA_eq e l n (i + 1) (by omega)]
    simp only [nameRf_eq, valRf_eq, slt_or]
def sameA (a b : List Attr) (i : Nat) : Bool :=
  if i < a.length then (if (a.getD i default).name = (b.getD i default).name ∧ (a.getD i default).val = (b.getD i default).val then sameA a b (i + 1) else false) else true
termination_by a.length - i
def sameL (a b : List Attr) : Bool := decide (a.length = b.length) && sameA a b 0
def getA (l : List Attr) (n : ByteArray) (i : Nat) : ByteArray :=
  if i < l.length then (if (l.getD i default).name = n then (l.getD i default).val else getA l n (i + 1)) else mt
termination_by l.length - i
theorem drop_at {l : List Attr} {i : Nat} (h : i < l.length) : l.drop i = l.getD i default :: l.drop (i + 1) := by
  rw [List.drop_eq_getElem_cons h]; simp [List.getD, List.getElem?_eq_getElem h]
theorem drop_end {l : List Attr} {i : Nat} (h : ¬ i < l.length) : l.drop i = [] := List.drop_eq_nil_of_le (by omega)
theorem fm_a {g : Attr → Attr → Option Attr} {a b : List Attr} {i j : Nat} (hi : i < a.length) (h : b.length ≤ j ∨ slt (a.getD i default).name (b.getD j default).name = true) :
    fm g (a.drop i) (b.drop j) = (g (a.getD i default) ⟨mt, mt⟩).toList ++ fm g (a.drop (i + 1)) (b.drop j) := by
  unfold fm
  rw [drop_at hi]
  by_cases hj : j < b.length
  · rw [drop_at hj, bothL, if_pos (by rcases h with h | h; omega; exact h), fm_cons]; rfl
  · rw [drop_end hj, bothL, fm_cons]; rfl
theorem fm_b {g : Attr → Attr → Option Attr} {a b : List Attr} {i j : Nat} (hj : j < b.length) (h0 : i < a.length → slt (a.getD i default).name (b.getD j default).name = false) (h : a.length ≤ i ∨ slt (b.getD j default).name (a.getD i default).name = true) :
    fm g (a.drop i) (b.drop j) = (g ⟨mt, mt⟩ (b.getD j default)).toList ++ fm g (a.drop i) (b.drop (j + 1)) := by
  unfold fm
  rw [drop_at hj]
  by_cases hi : i < a.length
  · rw [drop_at hi, bothL, if_neg (by rw [h0 hi]; decide), if_pos (by rcases h with h | h; omega; exact h), fm_cons]; rfl
  · rw [drop_end hi, bothL, fm_cons]; rfl
theorem fm_ab {g : Attr → Attr → Option Attr} {a b : List Attr} {i j : Nat} (hi : i < a.length) (hj : j < b.length) (h0 : slt (a.getD i default).name (b.getD j default).name = false) (h : slt (b.getD j default).name (a.getD i default).name = false) :
    fm g (a.drop i) (b.drop j) = (g (a.getD i default) (b.getD j default)).toList ++ fm g (a.drop (i + 1)) (b.drop (j + 1)) := by
  unfold fm
  rw [drop_at hi, drop_at hj, bothL, if_neg (by rw [h0]; decide), if_neg (by rw [h]; decide), fm_cons]
theorem fm_end {g : Attr → Attr → Option Attr} {a b : List Attr} {i j : Nat} (hi : a.length ≤ i) (hj : b.length ≤ j) : fm g (a.drop i) (b.drop j) = [] := by
  unfold fm
  rw [drop_end (by omega), drop_end (by omega), bothL]; rfl
theorem toList_le {o : Option Attr} : o.toList.length ≤ 1 := by cases o <;> simp
theorem fc_attrsError (l : List Attr) (e : Bool) (hz : Szd l) : FC Try.prog 27 [VL 2 attrT l, VB e] (app emp []) (VI (errA e l 0)) (app emp []) := by
 refine .go Try.f27 ?_
 refine .len 0 (fun hl0 => ?_)
 refine .loop (α := Nat) [.r [], .r [(1, X (Xl attrT l))]] 32 (fun i => ([(0, VL 2 attrT l), (1, VB e), (7, VI (l.length : Int)), (8, VI (i : Int))], [])) (fun i => i ≤ l.length ∧ errA e l 0 = errA e l i) (fun i => l.length - i) (0 : Nat) ?_ ?_
 ·
  exact ⟨by omega, rfl⟩
 rintro i I2 ih2
 try dsimp only at I2
 refine .br [.r []] (decide ((i : Int) < (l.length : Int))) (fun h2 => ?_) (fun h2 => ?_)
 ·
  (try simp only [decide_eq_true_eq, decide_eq_false_iff_not, Int.not_lt, Int.not_le] at h2)
  have hza := hz.at (i := i) (by omega)
  refine .br [.r [], .r [(2, X (Xi attrT l (i : Int))), (5, X (Xc0 (fc_nameR (((l.getD i default)).name) (by (first | omega | with_reducible exact fun h => h | (intro hq; rw [hq]; done) | (intro hq; rw [hq]; rfl) | (simp only [List.length_map]; done) | (simp only [List.length_map]; omega) | (simp; omega) | (simp; done)))) X0))]] (!(nameRf (((l.getD i default)).name))) (fun h4 => ?_) (fun h4 => ?_)
  ·
   (try simp only [Bool.not_eq_true', Bool.not_eq_false'] at h4)
   have e1 : ((errA e l 0) : Int) = 9 := by
    rw [I2.2, errA, if_pos (by omega), if_pos h4]
   exact .finE [.r []] [] (fun z0 => (VI z0, [])) (9 : Int) ((errA e l 0) : Int) e1
  ·
   (try simp only [Bool.not_eq_true', Bool.not_eq_false'] at h4)
   refine .br [.r [(2, X (Xi attrT l (i : Int))), (5, X (Xc0 (fc_valueR (((l.getD i default)).val) (by (first | omega | with_reducible exact fun h => h | (intro hq; rw [hq]; done) | (intro hq; rw [hq]; rfl) | (simp only [List.length_map]; done) | (simp only [List.length_map]; omega) | (simp; omega) | (simp; done)))) X0)), (10, Xv 2 (!(valRf (((l.getD i default)).val))) (Xi attrT l (i : Int))), (11, Xv 1 (!(valRf (((l.getD i default)).val))) X0), (12, Xv 1 (!(valRf (((l.getD i default)).val))) X0), (13, Xv 1 (!(valRf (((l.getD i default)).val))) X0), (14, Xv 1 (!(valRf (((l.getD i default)).val))) X0), (16, Xv 1 ((!(valRf (((l.getD i default)).val))) && !(!(seq (((l.getD i default)).val) ({ data := #[] })))) X0), (17, Xko (!(valRf (((l.getD i default)).val))) (!(seq (((l.getD i default)).val) ({ data := #[] })))), (18, X (Xk (!(valRf (((l.getD i default)).val)))))]] (!(valRf (((l.getD i default)).val)) && (!(seq (((l.getD i default)).val) ({ data := #[] })) || !e)) (fun h6 => ?_) (fun h6 => ?_)
   ·
    (try simp only [Bool.not_eq_true', Bool.not_eq_false', Bool.and_eq_true, Bool.and_eq_false_iff, Bool.or_eq_true, Bool.or_eq_false_iff] at h6)
    have e2 : ((errA e l 0) : Int) = 23 := by
     rw [I2.2, errA, if_pos (by omega), if_neg (by rw [h4]; decide), if_pos ⟨h6.1, h6.2.symm⟩]
    exact .finE [.r []] [] (fun z0 => (VI z0, [])) (23 : Int) ((errA e l 0) : Int) e2
   ·
    (try simp only [Bool.not_eq_true', Bool.not_eq_false', Bool.and_eq_true, Bool.and_eq_false_iff, Bool.or_eq_true, Bool.or_eq_false_iff] at h6)
    refine .br [.r [(5, Xv 1 (decide ((i : Int) > 0)) (Xn ((i : Int) - 1))), (6, Xv 2 (decide ((i : Int) > 0)) (Xi' attrT l ((i : Int) - 1) (i - 1))), (7, Xv 1 (decide ((i : Int) > 0)) X0), (8, Xv 1 (decide ((i : Int) > 0)) X0), (11, Xv 2 (decide ((i : Int) > 0)) (Xi attrT l (i : Int))), (12, Xv 1 (decide ((i : Int) > 0)) X0), (13, Xv 1 (decide ((i : Int) > 0)) X0), (14, Xv 2 (decide ((i : Int) > 0)) X0), (15, X (Xk (decide ((i : Int) > 0))))]] (decide ((i : Int) > 0) && !(slt (((l.getD (i - 1) default)).name) (((l.getD i default)).name))) (fun h8 => ?_) (fun h8 => ?_)
    ·
     (try simp only [decide_eq_true_eq, decide_eq_false_iff_not, Int.not_lt, Int.not_le, gt_iff_lt, Bool.not_eq_true', Bool.not_eq_false', Bool.and_eq_true, Bool.and_eq_false_iff] at h8)
     have e3 : ((errA e l 0) : Int) = 5 := by
      rw [I2.2, errA, if_pos (by omega), if_neg (by rw [h4]; decide), if_neg (by clear ih2; rintro ⟨a, b⟩; simp_all), if_pos ⟨by omega, h8.2⟩]
     exact .finE [.r []] [] (fun z0 => (VI z0, [])) (5 : Int) ((errA e l 0) : Int) e3
    ·
     (try simp only [decide_eq_true_eq, decide_eq_false_iff_not, Int.not_lt, Int.not_le, gt_iff_lt, Bool.not_eq_true', Bool.not_eq_false', Bool.and_eq_true, Bool.and_eq_false_iff] at h8)
     refine .back [.r [(0, X (Xn ((i : Int) + 1)))]] [] (ih2 ((i + 1) : Nat) ?_ ?_)
     ·
      refine ⟨by omega, ?_⟩; rw [I2.2, errA, if_pos (by omega), if_neg (by rw [h4]; decide), if_neg (by clear ih2; rintro ⟨a, b⟩; simp_all), if_neg (by clear ih2; rintro ⟨a, b⟩; rcases h8 with h | h; omega; rw [b] at h; cases h)]
     ·
      ((try dsimp only); omega)
 ·
  (try simp only [decide_eq_true_eq, decide_eq_false_iff_not, Int.not_lt, Int.not_le] at h2)
  have e4 : ((errA e l 0) : Int) = 0 := by
   rw [I2.2, errA, if_neg (by omega)]
  exact .finE [.r []] [] (fun z0 => (VI z0, [])) (0 : Int) ((errA e l 0) : Int) e4

theorem fc_sameAttrs (a b : List Attr) : FC Try.prog 30 [VL 2 attrT a, VL 2 attrT b] (app emp []) (VB (sameL a b)) (app emp []) := by
 refine .go Try.f30 ?_
 refine .len 0 (fun hl0 => ?_)
 refine .len 1 (fun hl1 => ?_)
 refine .br [.r [], .r [(1, X (Xl attrT a)), (3, X (Xl attrT b))]] ((a.length : Int) != (b.length : Int)) (fun h1 => ?_) (fun h1 => ?_)
 ·
  (try simp only [bne_iff_ne, bne_eq_false_iff_eq, ne_eq] at h1)
  have e1 : ((sameL a b) : Bool) = false := by
   unfold sameL; rw [decide_eq_false (by omega)]; rfl
  exact .finE [.r []] [] (fun z0 => (VB z0, [])) (false : Bool) ((sameL a b) : Bool) e1
 ·
  (try simp only [bne_iff_ne, bne_eq_false_iff_eq, ne_eq] at h1)
  refine .loop (α := Nat) [.r [(1, X (Xl attrT a))]] 72 (fun i => ([(0, VL 2 attrT a), (1, VL 2 attrT b), (12, VI (a.length : Int)), (13, VI (i : Int))], [])) (fun i => i ≤ a.length ∧ sameA a b 0 = sameA a b i) (fun i => a.length - i) (0 : Nat) ?_ ?_
  ·
   exact ⟨by omega, rfl⟩
  rintro i I4 ih4
  try dsimp only at I4
  refine .br [.r []] (decide ((i : Int) < (a.length : Int))) (fun h4 => ?_) (fun h4 => ?_)
  ·
   (try simp only [decide_eq_true_eq, decide_eq_false_iff_not, Int.not_lt, Int.not_le] at h4)
   refine .br [.r [], .r [(2, X (Xi attrT a (i : Int))), (6, X (Xi attrT b (i : Int)))]] (!(seq (((a.getD i default)).name) (((b.getD i default)).name) && (seq (((a.getD i default)).val) (((b.getD i default)).val) && true))) (fun h6 => ?_) (fun h6 => ?_)
   ·
    (try simp only [Bool.not_eq_true', Bool.not_eq_false', Bool.and_eq_true, Bool.and_eq_false_iff] at h6)
    have e2 : ((sameL a b) : Bool) = false := by
     unfold sameL; rw [I4.2, sameA, if_pos (by omega), if_neg (by clear ih4; simp only [seq_no, seq_iff] at h6; rintro ⟨x, y⟩; simp_all)]; simp
    exact .finE [.r []] [] (fun z0 => (VB z0, [])) (false : Bool) ((sameL a b) : Bool) e2
   ·
    (try simp only [Bool.not_eq_true', Bool.not_eq_false', Bool.and_eq_true, Bool.and_eq_false_iff] at h6)
    refine .back [.r [(0, X (Xn ((i : Int) + 1)))]] [] (ih4 ((i + 1) : Nat) ?_ ?_)
    ·
     refine ⟨by omega, ?_⟩; rw [I4.2, sameA, if_pos (by omega), if_pos (by clear ih4; simp only [seq_no, seq_iff] at h6; simp_all)]
    ·
     ((try dsimp only); omega)
  ·
   (try simp only [decide_eq_true_eq, decide_eq_false_iff_not, Int.not_lt, Int.not_le] at h4)
   have e3 : ((sameL a b) : Bool) = true := by
    unfold sameL; rw [I4.2, sameA, if_neg (by omega), decide_eq_true (by omega)]; rfl
   exact .finE [.r []] [] (fun z0 => (VB z0, [])) (true : Bool) ((sameL a b) : Bool) e3

end Go.Ch
end
section
set_option linter.unusedVariables false
set_option linter.unusedSimpArgs false
set_option maxRecDepth 100000
set_option maxHeartbeats 4000000
open Go Go.Proofs Go.Ab
namespace Go.Ch
theorem fc_both (f : FuncId) (g : Attr → Attr → Option Attr) (hfc : callable Try.prog f = true) (hf : ∀ (o : List Attr) (x y : Attr), o.length < 1099511627776 → FC Try.prog f [.t (attrT x), .t (attrT y), .ptr 0 0] (app emp [(0, .box [.row 1 o.length]), (1, .row 2 false (List.map attrT o))]) (.tup []) (app emp [(0, .box [.row 1 (o ++ (g x y).toList).length]), (1, .row 2 false (List.map attrT (o ++ (g x y).toList)))])) (a b o : List Attr) (hn : o.length + a.length + b.length < 1099511627776) : FC Try.prog 128 [VL 2 attrT a, VL 2 attrT b, .fn f [.ptr 0 0]] (app emp [(0, .box [.row 1 o.length]), (1, OR 2 attrT o)]) (.tup []) (app emp [(0, .box [.row 1 ((o ++ fm g a b).length)]), (1, OR 2 attrT (o ++ fm g a b))]) := by
 refine .go Try.f128 ?_
 refine .len 0 (fun hl0 => ?_)
 refine .len 1 (fun hl1 => ?_)
 refine .loop (α := Nat × Nat × (List Attr)) [.r []] 18 (fun (i, j, p) => ([(0, VL 2 attrT a), (1, VL 2 attrT b), (2, .fn f [.ptr 0 0]), (6, VI (i : Int)), (7, VI (j : Int))], [(0, .box [.row 1 p.length]), (1, OR 2 attrT p)])) (fun (i, j, p) => i ≤ a.length ∧ j ≤ b.length ∧ p.length ≤ o.length + i + j ∧ o ++ fm g a b = p ++ fm g (a.drop i) (b.drop j)) (fun (i, j, p) => (a.length - i) + (b.length - j)) (0, 0, o) ?_ ?_
 ·
  exact ⟨by omega, by omega, by omega, rfl⟩
 rintro ⟨i, j, p⟩ I1 ih1
 try dsimp only at I1
 refine .br [.r [(2, X (Xl attrT a)), (7, Xv 1 (!(decide ((i : Int) < (a.length : Int)))) (Xl attrT b)), (8, Xv 2 (!(decide ((i : Int) < (a.length : Int)))) X0), (9, X (Xk' (decide ((i : Int) < (a.length : Int)))))]] (decide ((i : Int) < (a.length : Int)) || decide ((j : Int) < (b.length : Int))) (fun h1 => ?_) (fun h1 => ?_)
 ·
  (try simp only [decide_eq_true_eq, decide_eq_false_iff_not, Int.not_lt, Int.not_le, Bool.or_eq_true, Bool.or_eq_false_iff] at h1)
  refine .br [.r [(2, X (Xl attrT b)), (7, Xv 1 (!((j : Int) == (b.length : Int))) (Xl attrT a)), (8, Xv 2 (!((j : Int) == (b.length : Int))) X0), (9, Xv 1 (!((j : Int) == (b.length : Int))) X0), (12, Xv 2 ((!((j : Int) == (b.length : Int))) && (decide ((i : Int) < (a.length : Int)))) (Xi attrT a (i : Int))), (13, Xv 1 ((!((j : Int) == (b.length : Int))) && (decide ((i : Int) < (a.length : Int)))) X0), (14, Xv 1 ((!((j : Int) == (b.length : Int))) && (decide ((i : Int) < (a.length : Int)))) X0), (17, Xv 2 ((!((j : Int) == (b.length : Int))) && (decide ((i : Int) < (a.length : Int)))) (Xi attrT b (j : Int))), (18, Xv 1 ((!((j : Int) == (b.length : Int))) && (decide ((i : Int) < (a.length : Int)))) X0), (19, Xv 1 ((!((j : Int) == (b.length : Int))) && (decide ((i : Int) < (a.length : Int)))) X0), (20, Xv 2 ((!((j : Int) == (b.length : Int))) && (decide ((i : Int) < (a.length : Int)))) X0), (21, Xka (!((j : Int) == (b.length : Int))) (decide ((i : Int) < (a.length : Int)))), (22, X (Xk' ((j : Int) == (b.length : Int))))]] (((j : Int) == (b.length : Int)) || (decide ((i : Int) < (a.length : Int)) && slt (((a.getD i default)).name) (((b.getD j default)).name))) (fun h4 => ?_) (fun h4 => ?_)
  ·
   (try simp only [decide_eq_true_eq, decide_eq_false_iff_not, Int.not_lt, Int.not_le, Bool.and_eq_true, Bool.and_eq_false_iff, Bool.not_eq_true', Bool.not_eq_false', Bool.or_eq_true, Bool.or_eq_false_iff, beq_iff_eq, beq_eq_false_iff_ne, ne_eq] at h4)
   refine .back [.r [(3, X (Xi attrT a (i : Int))), (6, X (Xc3 338 [(0, 0), (1, 1)] (hf p ((a.getD i default)) ({ name := { data := #[] }, val := { data := #[] } } : Attr) (by first | omega | (simp; omega))) X0 (hc := hfc)))], .r [(1, X (Xn ((i : Int) + 1)))]] [(0, 0), (1, 1)] (ih1 ((i + 1), j, (p ++ (g ((a.getD i default)) ({ name := { data := #[] }, val := { data := #[] } } : Attr)).toList)) ?_ ?_)
   ·
    have hi : i < a.length := by omega
    have hg := toList_le (o := g (a.getD i default) ⟨{ data := #[] }, { data := #[] }⟩)
    have e := fm_a (g := g) (a := a) (b := b) (j := j) hi (by rcases h4 with h | h; (left; omega); exact .inr h.2)
    refine ⟨by omega, by omega, by simp only [List.length_append]; omega, ?_⟩
    rw [I1.2.2.2, e, List.append_assoc]
   ·
    ((try dsimp only); omega)
  ·
   (try simp only [decide_eq_true_eq, decide_eq_false_iff_not, Int.not_lt, Int.not_le, Bool.and_eq_true, Bool.and_eq_false_iff, Bool.not_eq_true', Bool.not_eq_false', Bool.or_eq_true, Bool.or_eq_false_iff, beq_iff_eq, beq_eq_false_iff_ne, ne_eq] at h4)
   refine .br [.r [(2, X (Xl attrT a)), (7, Xv 2 (!((i : Int) == (a.length : Int))) (Xi attrT b (j : Int))), (8, Xv 1 (!((i : Int) == (a.length : Int))) X0), (9, Xv 1 (!((i : Int) == (a.length : Int))) X0), (12, Xv 2 (!((i : Int) == (a.length : Int))) (Xi attrT a (i : Int))), (13, Xv 1 (!((i : Int) == (a.length : Int))) X0), (14, Xv 1 (!((i : Int) == (a.length : Int))) X0), (15, Xv 2 (!((i : Int) == (a.length : Int))) X0), (16, X (Xk' ((i : Int) == (a.length : Int))))]] (((i : Int) == (a.length : Int)) || slt (((b.getD j default)).name) (((a.getD i default)).name)) (fun h7 => ?_) (fun h7 => ?_)
   ·
    (try simp only [Bool.or_eq_true, Bool.or_eq_false_iff, beq_iff_eq, beq_eq_false_iff_ne, ne_eq] at h7)
    refine .back [.r [(4, X (Xi attrT b (j : Int))), (6, X (Xc3 482 [(0, 0), (1, 1)] (hf p ({ name := { data := #[] }, val := { data := #[] } } : Attr) ((b.getD j default)) (by first | omega | (simp; omega))) X0 (hc := hfc)))], .r [(1, X (Xn ((j : Int) + 1)))]] [(0, 0), (1, 1)] (ih1 (i, (j + 1), (p ++ (g ({ name := { data := #[] }, val := { data := #[] } } : Attr) ((b.getD j default))).toList)) ?_ ?_)
    ·
     have hj : j < b.length := by omega
     have hg := toList_le (o := g ⟨{ data := #[] }, { data := #[] }⟩ (b.getD j default))
     have e := fm_b (g := g) (a := a) (b := b) (i := i) hj (fun hi => by rcases h4.2 with h | h; omega; exact h) (by rcases h7 with h | h; (left; omega); exact .inr h)
     refine ⟨by omega, by omega, by simp only [List.length_append]; omega, ?_⟩
     rw [I1.2.2.2, e, List.append_assoc]
    ·
     ((try dsimp only); omega)
   ·
    (try simp only [Bool.or_eq_true, Bool.or_eq_false_iff, beq_iff_eq, beq_eq_false_iff_ne, ne_eq] at h7)
    refine .back [.r [(3, X (Xi attrT a (i : Int))), (7, X (Xi attrT b (j : Int))), (9, X (Xc3 506 [(0, 0), (1, 1)] (hf p ((a.getD i default)) ((b.getD j default)) (by first | omega | (simp; omega))) X0 (hc := hfc)))], .r [(1, X (Xn ((i : Int) + 1))), (3, X (Xn ((j : Int) + 1)))]] [(0, 0), (1, 1)] (ih1 ((i + 1), (j + 1), (p ++ (g ((a.getD i default)) ((b.getD j default))).toList)) ?_ ?_)
    ·
     have hi : i < a.length := by omega
     have hj : j < b.length := by omega
     have hg := toList_le (o := g (a.getD i default) (b.getD j default))
     have e := fm_ab (g := g) (a := a) (b := b) hi hj (by rcases h4.2 with h | h; omega; exact h) h7.2
     refine ⟨by omega, by omega, by simp only [List.length_append]; omega, ?_⟩
     rw [I1.2.2.2, e, List.append_assoc]
    ·
     ((try dsimp only); omega)
 ·
  (try simp only [decide_eq_true_eq, decide_eq_false_iff_not, Int.not_lt, Int.not_le, Bool.or_eq_true, Bool.or_eq_false_iff] at h1)
  have e1 : ((o ++ fm g a b).length : Nat) = p.length := by
   rw [I1.2.2.2, fm_end (by omega) (by omega), List.append_nil]
  have e2 : ((o ++ fm g a b) : List Attr) = p := by
   rw [I1.2.2.2, fm_end (by omega) (by omega), List.append_nil]
  exact .finE [] [(0, 0), (1, 1)] (fun (z0, z1) => (.tup [], [(0, .box [.row 1 z0]), (1, OR 2 attrT z1)])) ((p.length : Nat), (p : List Attr)) (((o ++ fm g a b).length : Nat), ((o ++ fm g a b) : List Attr)) (pr e1 e2)

theorem fc_rawG (o : List Attr) (x y : Attr) (hn : o.length < 1099511627776) : FC Try.prog 129 [.t (attrT x), .t (attrT y), .ptr 0 0] (app emp [(0, .box [.row 1 o.length]), (1, OR 2 attrT o)]) (.tup []) (app emp [(0, .box [.row 1 ((o ++ (rawG x y).toList).length)]), (1, OR 2 attrT (o ++ (rawG x y).toList))]) := by
 refine .go Try.f129 ?_
 refine .br [.r [], .r []] (seq y.name ({ data := #[] })) (fun h1 => ?_) (fun h1 => ?_)
 ·
  have e1 : ((o ++ (rawG x y).toList).length : Nat) = (o ++ [x]).length := by
   simp only [seq_iff, seq_no] at *; unfold rawG; (repeat' split) <;> simp_all
  have e2 : ((o ++ (rawG x y).toList) : List Attr) = (o ++ [x]) := by
   simp only [seq_iff, seq_no] at *; unfold rawG; (repeat' split) <;> simp_all
  exact .finE [.r [(3, X (rowC attrT [x] (Xap 2 attrT 1 o [x])))]] [(0, 0), (1, 1)] (fun (z0, z1) => (.tup [], [(0, .box [.row 1 z0]), (1, OR 2 attrT z1)])) (((o ++ [x]).length : Nat), ((o ++ [x]) : List Attr)) (((o ++ (rawG x y).toList).length : Nat), ((o ++ (rawG x y).toList) : List Attr)) (pr e1 e2)
 ·
  refine .br [.r []] (!(seq y.val ({ data := #[] }))) (fun h3 => ?_) (fun h3 => ?_)
  ·
   (try simp only [Bool.not_eq_true', Bool.not_eq_false'] at h3)
   have e3 : ((o ++ (rawG x y).toList).length : Nat) = (o ++ [y]).length := by
    simp only [seq_iff, seq_no] at *; unfold rawG; (repeat' split) <;> simp_all
   have e4 : ((o ++ (rawG x y).toList) : List Attr) = (o ++ [y]) := by
    simp only [seq_iff, seq_no] at *; unfold rawG; (repeat' split) <;> simp_all
   exact .finE [.r [(3, X (rowC attrT [y] (Xap 2 attrT 1 o [y])))]] [(0, 0), (1, 1)] (fun (z0, z1) => (.tup [], [(0, .box [.row 1 z0]), (1, OR 2 attrT z1)])) (((o ++ [y]).length : Nat), ((o ++ [y]) : List Attr)) (((o ++ (rawG x y).toList).length : Nat), ((o ++ (rawG x y).toList) : List Attr)) (pr e3 e4)
  ·
   (try simp only [Bool.not_eq_true', Bool.not_eq_false'] at h3)
   have e5 : ((o ++ (rawG x y).toList).length : Nat) = o.length := by
    simp only [seq_iff, seq_no] at *; unfold rawG; (repeat' split) <;> simp_all
   have e6 : ((o ++ (rawG x y).toList) : List Attr) = o := by
    simp only [seq_iff, seq_no] at *; unfold rawG; (repeat' split) <;> simp_all
   exact .finE [] [(0, 0), (1, 1)] (fun (z0, z1) => (.tup [], [(0, .box [.row 1 z0]), (1, OR 2 attrT z1)])) ((o.length : Nat), (o : List Attr)) (((o ++ (rawG x y).toList).length : Nat), ((o ++ (rawG x y).toList) : List Attr)) (pr e5 e6)

theorem fc_chgG (o : List Attr) (x y : Attr) (hn : o.length < 1099511627776) : FC Try.prog 130 [.t (attrT x), .t (attrT y), .ptr 0 0] (app emp [(0, .box [.row 1 o.length]), (1, OR 2 attrT o)]) (.tup []) (app emp [(0, .box [.row 1 ((o ++ (chgG x y).toList).length)]), (1, OR 2 attrT (o ++ (chgG x y).toList))]) := by
 refine .go Try.f130 ?_
 refine .br [.r [], .r []] (seq y.name ({ data := #[] })) (fun h1 => ?_) (fun h1 => ?_)
 ·
  have e1 : ((o ++ (chgG x y).toList).length : Nat) = (o ++ [({ name := x.name, val := { data := #[] } } : Attr)]).length := by
   simp only [seq_iff, seq_no] at *; unfold chgG; (repeat' split) <;> simp_all
  have e2 : ((o ++ (chgG x y).toList) : List Attr) = (o ++ [({ name := x.name, val := { data := #[] } } : Attr)]) := by
   simp only [seq_iff, seq_no] at *; unfold chgG; (repeat' split) <;> simp_all
  exact .finE [.r [(5, X (rowC attrT [({ name := x.name, val := { data := #[] } } : Attr)] (Xap 2 attrT 1 o [({ name := x.name, val := { data := #[] } } : Attr)])))]] [(0, 0), (1, 1)] (fun (z0, z1) => (.tup [], [(0, .box [.row 1 z0]), (1, OR 2 attrT z1)])) (((o ++ [({ name := x.name, val := { data := #[] } } : Attr)]).length : Nat), ((o ++ [({ name := x.name, val := { data := #[] } } : Attr)]) : List Attr)) (((o ++ (chgG x y).toList).length : Nat), ((o ++ (chgG x y).toList) : List Attr)) (pr e1 e2)
 ·
  refine .br [.r []] (!(seq x.name y.name && (seq x.val y.val && true))) (fun h3 => ?_) (fun h3 => ?_)
  ·
   (try simp only [Bool.not_eq_true', Bool.not_eq_false', Bool.and_eq_true, Bool.and_eq_false_iff] at h3)
   have e3 : ((o ++ (chgG x y).toList).length : Nat) = (o ++ [y]).length := by
    simp only [seq_iff, seq_no] at *; unfold chgG; (repeat' split) <;> simp_all
   have e4 : ((o ++ (chgG x y).toList) : List Attr) = (o ++ [y]) := by
    simp only [seq_iff, seq_no] at *; unfold chgG; (repeat' split) <;> simp_all
   exact .finE [.r [(3, X (rowC attrT [y] (Xap 2 attrT 1 o [y])))]] [(0, 0), (1, 1)] (fun (z0, z1) => (.tup [], [(0, .box [.row 1 z0]), (1, OR 2 attrT z1)])) (((o ++ [y]).length : Nat), ((o ++ [y]) : List Attr)) (((o ++ (chgG x y).toList).length : Nat), ((o ++ (chgG x y).toList) : List Attr)) (pr e3 e4)
  ·
   (try simp only [Bool.not_eq_true', Bool.not_eq_false', Bool.and_eq_true, Bool.and_eq_false_iff] at h3)
   have e5 : ((o ++ (chgG x y).toList).length : Nat) = o.length := by
    simp only [seq_iff, seq_no] at *; unfold chgG; (repeat' split) <;> simp_all
   have e6 : ((o ++ (chgG x y).toList) : List Attr) = o := by
    simp only [seq_iff, seq_no] at *; unfold chgG; (repeat' split) <;> simp_all
   exact .finE [] [(0, 0), (1, 1)] (fun (z0, z1) => (.tup [], [(0, .box [.row 1 z0]), (1, OR 2 attrT z1)])) ((o.length : Nat), (o : List Attr)) (((o ++ (chgG x y).toList).length : Nat), ((o ++ (chgG x y).toList) : List Attr)) (pr e5 e6)

theorem fc_raw (a b : List Attr) (hn : a.length + b.length < 1099511627776) : FC Try.prog 83 [VL 2 attrT a, VL 2 attrT b] (app emp []) (VL 2 attrT (fm rawG a b)) (app emp []) := by
 refine .go Try.f83 ?_
 refine .len 0 (fun hl0 => ?_)
 refine .len 1 (fun hl1 => ?_)
 exact .fin [.r [], .r [], .le (.nB 8 0 2), .r [(3, X (Xc3 41 [(0, 8), (1, 16)] (fc_both 129 rawG (by kernel_rfl) fc_rawG a b [] (by simp; omega)) X0))], .r [], .le (.fr 4 [(((fm rawG a b).length) : Nat) = (List.map attrT (fm rawG a b)).length] ⟨lm, trivial⟩)] []

theorem fc_change (a b : List Attr) (hn : a.length + b.length < 1099511627776) : FC Try.prog 84 [VL 2 attrT a, VL 2 attrT b] (app emp []) (VL 2 attrT (fm chgG a b)) (app emp []) := by
 refine .go Try.f84 ?_
 refine .len 0 (fun hl0 => ?_)
 refine .len 1 (fun hl1 => ?_)
 exact .fin [.r [], .r [], .le (.nB 8 0 2), .r [(3, X (Xc3 41 [(0, 8), (1, 16)] (fc_both 130 chgG (by kernel_rfl) fc_chgG a b [] (by simp; omega)) X0))], .r [], .le (.fr 4 [(((fm chgG a b).length) : Nat) = (List.map attrT (fm chgG a b)).length] ⟨lm, trivial⟩)] []

end Go.Ch
end
section
set_option linter.unusedVariables false
set_option linter.unusedSimpArgs false
set_option maxRecDepth 100000
set_option maxHeartbeats 4000000
open Go Go.Proofs Go.Ab
namespace Go.Ch
def applyL (l c : List Attr) : List Attr := if chkA false l 0 = 0 ∧ chkA true c 0 = 0 then fm rawG l c else []
def applyE (l c : List Attr) : Int := if chkA false l 0 = 0 then chkA true c 0 else chkA false l 0
def undoL (l c : List Attr) : List Attr := if applyE l c = 0 then fm chgG (applyL l c) l else []
def betL (a b : List Attr) : List Attr := if chkA false a 0 = 0 ∧ chkA false b 0 = 0 then fm chgG a b else []
def betE (a b : List Attr) : Int := if chkA false a 0 = 0 then chkA false b 0 else chkA false a 0
def joinL (a b : List Attr) : List Attr := if chkA true a 0 = 0 ∧ chkA true b 0 = 0 then fm botG a b else []
def joinE (a b : List Attr) : Int := if chkA true a 0 = 0 then chkA true b 0 else chkA true a 0
def pairL (a b : List Attr) : List Attr := if chkA true a 0 = 0 ∧ chkA true b 0 = 0 then fm wioG a b else []
def pairR (a b : List Attr) : List Attr := if chkA true a 0 = 0 ∧ chkA true b 0 = 0 then b else []
end Go.Ch
end
section
set_option linter.unusedVariables false
set_option linter.unusedSimpArgs false
namespace Go.Ch
open Go Go.Ab

def NPg (s : ByteArray) : Prop := nameGo s = true
def VPg (s : ByteArray) : Prop := valGo s = true
theorem np_mt : ¬ NPg mt := by
  unfold NPg nameGo
  rw [decide_eq_false (by intro h; have := h.1; simp [ByteArray.size] at this)]
  decide
theorem vp_mt : ¬ VPg mt := by
  unfold VPg valGo
  rw [decide_eq_false (by intro h; have := h.1; simp [ByteArray.size] at this)]
  decide
abbrev VG := V NPg VPg
theorem getD_cons_succ' {a : Attr} {l : List Attr} {k : Nat} : (a :: l).getD (k + 1) default = l.getD k default := by simp [List.getD]
theorem getD_zero' {a : Attr} {l : List Attr} : (a :: l).getD 0 default = a := rfl
theorem sorted_of_adj : ∀ {l : List Attr}, (∀ k, k + 1 < l.length → slt (l.getD k default).name (l.getD (k + 1) default).name = true) → Sorted l
  | [], _ => trivial
  | [a], _ => ⟨fun b hb => (by cases hb), trivial⟩
  | a :: b :: l, h => by
    have ih := sorted_of_adj (l := b :: l) (fun k hk => by have := h (k + 1) (by simp at hk ⊢; omega); simpa using this)
    have h0 := h 0 (by simp)
    simp only [getD_zero', getD_cons_succ'] at h0
    refine ⟨fun c hc => ?_, ih⟩
    rcases List.mem_cons.1 hc with rfl | hc
    · exact h0
    · exact slt_trans h0 (ih.1 c hc)
theorem adj_of_sorted : ∀ {l : List Attr}, Sorted l → ∀ k, k + 1 < l.length → slt (l.getD k default).name (l.getD (k + 1) default).name = true
  | [], _, k, hk => by simp at hk
  | a :: l, h, 0, hk => by
    cases l with
    | nil => simp at hk
    | cons b l => exact h.1 b (by simp)
  | a :: l, h, k + 1, hk => by
    have := adj_of_sorted h.2 k (by simp at hk; omega)
    rw [getD_cons_succ', getD_cons_succ']; exact this
theorem getD_mem {l : List Attr} {k : Nat} (h : k < l.length) : l.getD k default ∈ l := by
  rw [show l.getD k default = l[k] by simp [List.getD, List.getElem?_eq_getElem h]]
  exact List.getElem_mem h
theorem mem_getD {l : List Attr} {a : Attr} (h : a ∈ l) : ∃ k, k < l.length ∧ l.getD k default = a := by
  obtain ⟨k, hk, e⟩ := List.mem_iff_getElem.1 h
  exact ⟨k, hk, by rw [← e]; simp [List.getD, List.getElem?_eq_getElem hk]⟩

theorem chkA_all (e : Bool) (l : List Attr) : ∀ (n i : Nat), l.length - i = n → (chkA e l i = 0 ↔ ∀ k, i ≤ k → k < l.length → Q NPg VPg e (l.getD k default).name (l.getD k default).val ∧ (0 < k → slt (l.getD (k - 1) default).name (l.getD k default).name = true))
  | 0, i, h => by
    rw [chkA, if_neg (by omega)]
    exact ⟨fun _ k h1 h2 => by omega, fun _ => rfl⟩
  | n + 1, i, h => by
    have hi : i < l.length := by omega
    have ih := chkA_all e l n (i + 1) (by omega)
    rw [chkA, if_pos hi]
    have step : (∀ k, i ≤ k → k < l.length → Q NPg VPg e (l.getD k default).name (l.getD k default).val ∧ (0 < k → slt (l.getD (k - 1) default).name (l.getD k default).name = true)) ↔
        (Q NPg VPg e (l.getD i default).name (l.getD i default).val ∧ (0 < i → slt (l.getD (i - 1) default).name (l.getD i default).name = true)) ∧ chkA e l (i + 1) = 0 := by
      rw [ih]
      constructor
      · exact fun h => ⟨h i (Nat.le_refl _) hi, fun k h1 h2 => h k (by omega) h2⟩
      · rintro ⟨h1, h2⟩ k h3 h4
        by_cases e : k = i
        · subst e; exact h1
        · exact h2 k (by omega) h4
    rw [step]
    generalize (l.getD i default) = x
    generalize (l.getD (i - 1) default) = y
    unfold Q NPg VPg
    have hm : seq x.val { data := #[] } = true ↔ x.val = mt := seq_iff
    have hm2 : seq x.val { data := #[] } = false ↔ x.val ≠ mt := seq_no
    simp only [slt_or, hm2]
    cases h1 : nameGo x.name with
    | false => simp
    | true =>
      rw [if_neg (by decide)]
      cases h2 : valGo x.val with
      | false =>
        by_cases h3 : e = false ∨ x.val ≠ mt
        · rw [if_pos ⟨rfl, h3⟩]
          constructor
          · intro h; cases h
          · rintro ⟨⟨⟨_, h | ⟨h, h'⟩⟩, _⟩, _⟩
            · cases h
            · rcases h3 with h3 | h3
              · rw [h3] at h; cases h
              · exact absurd h' h3
        · rw [if_neg (fun h => h3 h.2)]
          have he : e = true := by cases e with | true => rfl | false => exact absurd (.inl rfl) h3
          have hx : x.val = mt := Classical.byContradiction fun h => h3 (.inr h)
          by_cases h4 : 0 < i ∧ slt y.name x.name = false
          · rw [if_pos h4]
            constructor
            · intro h; cases h
            · rintro ⟨⟨_, h⟩, _⟩; rw [h h4.1] at h4; cases h4.2
          · rw [if_neg h4]
            refine ⟨fun h => ⟨⟨⟨rfl, .inr ⟨he, hx⟩⟩, fun h0 => ?_⟩, h⟩, fun h => h.2⟩
            cases h5 : slt y.name x.name with
            | true => rfl
            | false => exact absurd ⟨h0, h5⟩ h4
      | true =>
        rw [if_neg (fun h => by cases h.1)]
        by_cases h4 : 0 < i ∧ slt y.name x.name = false
        · rw [if_pos h4]
          constructor
          · intro h; cases h
          · rintro ⟨⟨_, h⟩, _⟩; rw [h h4.1] at h4; cases h4.2
        · rw [if_neg h4]
          refine ⟨fun h => ⟨⟨⟨rfl, .inl rfl⟩, fun h0 => ?_⟩, h⟩, fun h => h.2⟩
          cases h5 : slt y.name x.name with
          | true => rfl
          | false => exact absurd ⟨h0, h5⟩ h4
theorem chk_iff {e : Bool} {l : List Attr} : chkA e l 0 = 0 ↔ VG e l := by
  rw [chkA_all e l l.length 0 (by omega)]
  constructor
  · intro h
    refine ⟨sorted_of_adj (fun k hk => (h (k + 1) (by omega) hk).2 (by omega)), fun a ha => ?_⟩
    obtain ⟨k, hk, rfl⟩ := mem_getD ha
    exact (h k (by omega) hk).1
  · intro h k _ hk
    refine ⟨h.2 _ (getD_mem hk), fun h0 => ?_⟩
    have := adj_of_sorted h.1 (k - 1) (by omega)
    rw [show k - 1 + 1 = k by omega] at this
    exact this
theorem sameA_self (a : List Attr) : ∀ (n i : Nat), a.length - i = n → sameA a a i = true
  | 0, i, h => by rw [sameA, if_neg (by omega)]
  | n + 1, i, h => by
    have hi : i < a.length := by omega
    rw [sameA, if_pos hi, if_pos ⟨rfl, rfl⟩, sameA_self a n (i + 1) (by omega)]
theorem sameL_self (a : List Attr) : sameL a a = true := by unfold sameL; rw [sameA_self a _ 0 rfl]; simp
end Go.Ch
end
section
set_option linter.unusedVariables false
set_option linter.unusedSimpArgs false
namespace Go.Ch
open Go Go.Ab

structure Elem where
  char : Int
  ref : Int
  attrs : List Attr
instance : Inhabited Elem := ⟨⟨0, 0, []⟩⟩
def elemT (e : Elem) : Tree := .agg [.sc (.int .i64 e.char), .sc (.int .i64 e.ref), .lst 2 (e.attrs.map attrT)]
def CharP (c : Int) : Prop := c = 9 ∨ c = 10 ∨ (32 ≤ c ∧ c < 127) ∨ (160 ≤ c ∧ c < 55296) ∨ (57343 < c ∧ c ≤ 1114111)
instance (c : Int) : Decidable (CharP c) := by unfold CharP; infer_instance
def elemE (x : Elem) : Int :=
  if x.char = 0 ↔ x.ref = 0 then 4
  else if (x.ref = 0 ∧ ¬ CharP x.char) ∨ (x.ref ≠ 0 ∧ (x.ref < 1 ∨ 1073741824 < x.ref)) then 2
  else chkA false x.attrs 0
theorem elemE_4 {x : Elem} (h : x.char = 0 ↔ x.ref = 0) : elemE x = 4 := by unfold elemE; rw [if_pos h]
theorem elemE_2 {x : Elem} (h : ¬ (x.char = 0 ↔ x.ref = 0)) (h2 : (x.ref = 0 ∧ ¬ CharP x.char) ∨ (x.ref ≠ 0 ∧ (x.ref < 1 ∨ 1073741824 < x.ref))) : elemE x = 2 := by unfold elemE; rw [if_neg h, if_pos h2]
theorem elemE_c {x : Elem} (h : ¬ (x.char = 0 ↔ x.ref = 0)) (h3 : ¬ x.ref = 0 ∨ CharP x.char) (h4 : x.ref = 0 ∨ (1 ≤ x.ref ∧ x.ref ≤ 1073741824)) : elemE x = chkA false x.attrs 0 := by
  unfold elemE
  rw [if_neg h, if_neg]
  rintro (⟨a, b⟩ | ⟨a, b⟩)
  · rcases h3 with h3 | h3
    · exact h3 a
    · exact b h3
  · rcases h4 with h4 | h4
    · exact a h4
    · omega
def partE (l : List Elem) (i : Nat) : Int := if i < l.length then (if elemE (l.getD i default) = 0 then partE l (i + 1) else elemE (l.getD i default)) else 0
termination_by l.length - i
def SzE (l : List Elem) : Prop := ∀ x ∈ l, Szd x.attrs
theorem getDE_mem {l : List Elem} {k : Nat} (h : k < l.length) : l.getD k default ∈ l := by
  rw [show l.getD k default = l[k] by simp [List.getD, List.getElem?_eq_getElem h]]
  exact List.getElem_mem h
def sameE (x y : Elem) : Bool := (x.char == y.char && x.ref == y.ref) && sameL x.attrs y.attrs
def sameFi (a b : List Elem) (i : Nat) : Bool := if i < a.length then (if sameE (a.getD i default) (b.getD i default) = true then sameFi a b (i + 1) else false) else true
termination_by a.length - i
def sameF (a b : List Elem) : Bool := decide (a.length = b.length) && sameFi a b 0
theorem sameE_self (x : Elem) : sameE x x = true := by unfold sameE; rw [sameL_self]; simp
theorem sameFi_self (a : List Elem) : ∀ (n i : Nat), a.length - i = n → sameFi a a i = true
  | 0, i, h => by rw [sameFi, if_neg (by omega)]
  | n + 1, i, h => by
    have hi : i < a.length := by omega
    rw [sameFi, if_pos hi, if_pos (sameE_self _), sameFi_self a n (i + 1) (by omega)]
theorem sameF_self (a : List Elem) : sameF a a = true := by unfold sameF; rw [sameFi_self a _ 0 rfl]; simp
theorem sameA_all (a b : List Attr) : ∀ (n i : Nat), a.length - i = n → sameA a b i = true → ∀ k, i ≤ k → k < a.length → a.getD k default = b.getD k default
  | 0, i, h, _ => fun k h1 h2 => by omega
  | n + 1, i, h, hs => by
    have hi : i < a.length := by omega
    rw [sameA, if_pos hi] at hs
    split at hs
    · rename_i he
      intro k h1 h2
      by_cases e : k = i
      · subst e
        generalize a.getD k default = x at *
        generalize b.getD k default = y at *
        cases x; cases y; simp_all
      · exact sameA_all a b n (i + 1) (by omega) hs k (by omega) h2
    · cases hs
theorem sameL_eq {a b : List Attr} : sameL a b = true ↔ a = b := by
  constructor
  · intro h
    unfold sameL at h
    simp only [Bool.and_eq_true, decide_eq_true_eq] at h
    refine List.ext_getElem h.1 (fun k h1 h2 => ?_)
    have := sameA_all a b _ 0 rfl h.2 k (by omega) h1
    simpa [List.getD, List.getElem?_eq_getElem h1, List.getElem?_eq_getElem h2] using this
  · intro h; subst h; exact sameL_self _
theorem partE_all (l : List Elem) : ∀ (n i : Nat), l.length - i = n → (partE l i = 0 ↔ ∀ k, i ≤ k → k < l.length → elemE (l.getD k default) = 0)
  | 0, i, h => by rw [partE, if_neg (by omega)]; exact ⟨fun _ k h1 h2 => by omega, fun _ => rfl⟩
  | n + 1, i, h => by
    have hi : i < l.length := by omega
    have ih := partE_all l n (i + 1) (by omega)
    rw [partE, if_pos hi]
    by_cases e : elemE (l.getD i default) = 0
    · rw [if_pos e, ih]
      constructor
      · intro h k h1 h2
        by_cases ek : k = i
        · subst ek; exact e
        · exact h k (by omega) h2
      · exact fun h k h1 h2 => h k (by omega) h2
    · rw [if_neg e]
      exact ⟨fun h => absurd h e, fun h => h i (Nat.le_refl _) hi⟩
theorem part_iff {l : List Elem} : partE l 0 = 0 ↔ ∀ x ∈ l, elemE x = 0 := by
  rw [partE_all l _ 0 rfl]
  constructor
  · intro h x hx
    obtain ⟨k, hk, e⟩ := List.mem_iff_getElem.1 hx
    have := h k (by omega) hk
    rw [← e]
    simpa [List.getD, List.getElem?_eq_getElem hk] using this
  · exact fun h k _ hk => h _ (getDE_mem hk)
theorem elem_ok {x : Elem} (h : elemE x = 0) : VG false x.attrs := by
  unfold elemE at h
  split at h
  · omega
  · split at h
    · omega
    · exact chk_iff.1 h
end Go.Ch
end
section
set_option linter.unusedVariables false
set_option linter.unusedSimpArgs false
set_option maxRecDepth 100000
set_option maxHeartbeats 4000000
open Go Go.Proofs Go.Ab
namespace Go.Ch
theorem fc_char (c : Int) : FC Try.prog 151 [VI c] (app emp []) (VB (decide (CharP c))) (app emp []) := by
 refine .go Try.f151 ?_
 have e1 : ((decide (CharP c)) : Bool) = (((((c == 9) || (c == 10)) || (decide (c ≥ 32) && decide (c < 127))) || (decide (c ≥ 160) && decide (c < 55296))) || (decide (c > 57343) && decide (c ≤ 1114111))) := by
  rw [Bool.eq_iff_iff, decide_eq_true_iff]; unfold CharP; simp only [Bool.or_eq_true, Bool.and_eq_true, decide_eq_true_eq, beq_iff_eq]; constructor <;> intro hh <;> omega
 exact .finE [.r [], .r [(4, Xv 1 (!(c == 9)) X0), (5, X (Xk' (c == 9))), (8, Xv 1 (!((c == 9) || (c == 10))) X0), (9, Xv 1 (!((c == 9) || (c == 10))) X0), (11, Xv 1 ((!((c == 9) || (c == 10))) && (decide (c ≥ 32))) X0), (12, Xka (!((c == 9) || (c == 10))) (decide (c ≥ 32))), (13, X (Xk' ((c == 9) || (c == 10)))), (16, Xv 1 (!(((c == 9) || (c == 10)) || (decide (c ≥ 32) && decide (c < 127)))) X0), (17, Xv 1 (!(((c == 9) || (c == 10)) || (decide (c ≥ 32) && decide (c < 127)))) X0), (19, Xv 1 ((!(((c == 9) || (c == 10)) || (decide (c ≥ 32) && decide (c < 127)))) && (decide (c ≥ 160))) X0), (20, Xka (!(((c == 9) || (c == 10)) || (decide (c ≥ 32) && decide (c < 127)))) (decide (c ≥ 160))), (21, X (Xk' (((c == 9) || (c == 10)) || (decide (c ≥ 32) && decide (c < 127))))), (24, Xv 1 (!((((c == 9) || (c == 10)) || (decide (c ≥ 32) && decide (c < 127))) || (decide (c ≥ 160) && decide (c < 55296)))) X0), (25, Xv 1 (!((((c == 9) || (c == 10)) || (decide (c ≥ 32) && decide (c < 127))) || (decide (c ≥ 160) && decide (c < 55296)))) X0), (27, Xv 1 ((!((((c == 9) || (c == 10)) || (decide (c ≥ 32) && decide (c < 127))) || (decide (c ≥ 160) && decide (c < 55296)))) && (decide (c > 57343))) X0), (28, Xka (!((((c == 9) || (c == 10)) || (decide (c ≥ 32) && decide (c < 127))) || (decide (c ≥ 160) && decide (c < 55296)))) (decide (c > 57343))), (29, X (Xk' ((((c == 9) || (c == 10)) || (decide (c ≥ 32) && decide (c < 127))) || (decide (c ≥ 160) && decide (c < 55296)))))]] [] (fun z0 => (VB z0, [])) ((((((c == 9) || (c == 10)) || (decide (c ≥ 32) && decide (c < 127))) || (decide (c ≥ 160) && decide (c < 55296))) || (decide (c > 57343) && decide (c ≤ 1114111))) : Bool) ((decide (CharP c)) : Bool) e1

theorem fc_in (x a b : Int) : FC Try.prog 57 [VI x, VI a, VI b] (app emp []) (VB (decide (a ≤ x ∧ x ≤ b))) (app emp []) := by
 refine .go Try.f57 ?_
 have e1 : ((decide (a ≤ x ∧ x ≤ b)) : Bool) = (decide (x ≥ a) && decide (x ≤ b)) := by
  rw [Bool.eq_iff_iff]; simp; try omega
 exact .finE [.r [], .r [(6, Xv 2 (decide (x ≥ a)) X0), (7, X (Xk (decide (x ≥ a))))]] [] (fun z0 => (VB z0, [])) ((decide (x ≥ a) && decide (x ≤ b)) : Bool) ((decide (a ≤ x ∧ x ≤ b)) : Bool) e1

theorem fc_charR (c : Int) : FC Try.prog 134 [VI c] (app emp []) (VB (decide (CharP c))) (app emp []) := by
 refine .go Try.f134 ?_
 have e1 : ((decide (CharP c)) : Bool) = (((((c == 9) || (c == 10)) || (decide (32 ≤ c ∧ c ≤ 126))) || (decide (160 ≤ c ∧ c ≤ 55295))) || (decide (57344 ≤ c ∧ c ≤ 1114111))) := by
  rw [Bool.eq_iff_iff, decide_eq_true_iff]; unfold CharP; simp only [Bool.or_eq_true, Bool.and_eq_true, decide_eq_true_eq, beq_iff_eq]; constructor <;> intro hh <;> omega
 exact .finE [.r [], .r [(4, Xv 1 (!(c == 9)) X0), (5, X (Xk' (c == 9))), (8, Xv 1 (!((c == 9) || (c == 10))) (Xc0 (fc_in c 32 126) X0)), (9, X (Xk' ((c == 9) || (c == 10)))), (12, Xv 1 (!(((c == 9) || (c == 10)) || (decide (32 ≤ c ∧ c ≤ 126)))) (Xc0 (fc_in c 160 55295) X0)), (13, X (Xk' (((c == 9) || (c == 10)) || (decide (32 ≤ c ∧ c ≤ 126))))), (16, Xv 1 (!((((c == 9) || (c == 10)) || (decide (32 ≤ c ∧ c ≤ 126))) || (decide (160 ≤ c ∧ c ≤ 55295)))) (Xc0 (fc_in c 57344 1114111) X0)), (17, X (Xk' ((((c == 9) || (c == 10)) || (decide (32 ≤ c ∧ c ≤ 126))) || (decide (160 ≤ c ∧ c ≤ 55295)))))]] [] (fun z0 => (VB z0, [])) ((((((c == 9) || (c == 10)) || (decide (32 ≤ c ∧ c ≤ 126))) || (decide (160 ≤ c ∧ c ≤ 55295))) || (decide (57344 ≤ c ∧ c ≤ 1114111))) : Bool) ((decide (CharP c)) : Bool) e1

theorem nz_iff {a b : Int} : ((a != 0) = (b != 0)) ↔ (a = 0 ↔ b = 0) := by
  rw [Bool.eq_iff_iff]; simp; omega

theorem fc_elem (x : Elem) : FC Try.prog 138 [.t (elemT x)] (app emp []) (VI (elemE x)) (app emp []) := by
 refine .go Try.f138 ?_
 refine .br [.r [], .r []] ((x.char != 0) == (x.ref != 0)) (fun h1 => ?_) (fun h1 => ?_)
 ·
  (try simp only [beq_iff_eq, beq_eq_false_iff_ne, ne_eq, bne_iff_ne, bne_eq_false_iff_eq] at h1)
  have e1 : ((elemE x) : Int) = 4 := by
   first | exact elemE_4 (nz_iff.1 h1) | exact elemE_2 (fun h => h1 (nz_iff.2 h)) (.inl h3) | exact elemE_2 (fun h => h1 (nz_iff.2 h)) (.inr h4) | exact elemE_c (fun h => h1 (nz_iff.2 h)) h3 h4 | (exfalso; simp_all; done)
  exact .finE [.r []] [] (fun z0 => (VI z0, [])) (4 : Int) ((elemE x) : Int) e1
 ·
  (try simp only [beq_iff_eq, beq_eq_false_iff_ne, ne_eq, bne_iff_ne, bne_eq_false_iff_eq] at h1)
  refine .br [.r [(5, Xv 1 (x.ref == 0) X0), (6, Xv 1 (x.ref == 0) (Xc0 (fc_char x.char) X0)), (7, Xv 1 (x.ref == 0) X0), (8, X (Xk (x.ref == 0)))]] ((x.ref == 0) && !(decide (CharP x.char))) (fun h3 => ?_) (fun h3 => ?_)
  ·
   (try simp only [decide_eq_true_eq, decide_eq_false_iff_not, Int.not_lt, Int.not_le, Bool.not_eq_true', Bool.not_eq_false', Bool.and_eq_true, Bool.and_eq_false_iff, beq_iff_eq, beq_eq_false_iff_ne, ne_eq] at h3)
   refine .br [] ((x.ref == 0) && !(decide (CharP x.char))) (fun h3 => ?_) (fun h3 => ?_)
   ·
    (try simp only [decide_eq_true_eq, decide_eq_false_iff_not, Int.not_lt, Int.not_le, Bool.not_eq_true', Bool.not_eq_false', Bool.and_eq_true, Bool.and_eq_false_iff, beq_iff_eq, beq_eq_false_iff_ne, ne_eq] at h3)
    have e2 : ((elemE x) : Int) = 2 := by
     first | exact elemE_4 (nz_iff.1 h1) | exact elemE_2 (fun h => h1 (nz_iff.2 h)) (.inl h3) | exact elemE_2 (fun h => h1 (nz_iff.2 h)) (.inr h4) | exact elemE_c (fun h => h1 (nz_iff.2 h)) h3 h4 | (exfalso; simp_all; done)
    exact .finE [.r []] [] (fun z0 => (VI z0, [])) (2 : Int) ((elemE x) : Int) e2
   ·
    (try simp only [decide_eq_true_eq, decide_eq_false_iff_not, Int.not_lt, Int.not_le, Bool.not_eq_true', Bool.not_eq_false', Bool.and_eq_true, Bool.and_eq_false_iff, beq_iff_eq, beq_eq_false_iff_ne, ne_eq] at h3)
    have e3 : ((elemE x) : Int) = (chkA false x.attrs 0) := by
     first | exact elemE_4 (nz_iff.1 h1) | exact elemE_2 (fun h => h1 (nz_iff.2 h)) (.inl h3) | exact elemE_2 (fun h => h1 (nz_iff.2 h)) (.inr h4) | exact elemE_c (fun h => h1 (nz_iff.2 h)) h3 h4 | (exfalso; simp_all; done)
    exact .finE [.r [(2, X (Xc0 (fc_acheck x.attrs) X0))]] [] (fun z0 => (VI z0, [])) ((chkA false x.attrs 0) : Int) ((elemE x) : Int) e3
  ·
   (try simp only [decide_eq_true_eq, decide_eq_false_iff_not, Int.not_lt, Int.not_le, Bool.not_eq_true', Bool.not_eq_false', Bool.and_eq_true, Bool.and_eq_false_iff, beq_iff_eq, beq_eq_false_iff_ne, ne_eq] at h3)
   refine .br [.r [(5, Xv 1 (x.ref != 0) X0), (6, Xv 1 (x.ref != 0) X0), (7, Xv 1 (x.ref != 0) X0), (9, Xv 1 ((x.ref != 0) && !(decide (x.ref < 1))) X0), (10, Xv 1 ((x.ref != 0) && !(decide (x.ref < 1))) X0), (11, Xko (x.ref != 0) (decide (x.ref < 1))), (12, X (Xk (x.ref != 0)))]] ((x.ref != 0) && (decide (x.ref < 1) || decide (x.ref > 1073741824))) (fun h4 => ?_) (fun h4 => ?_)
   ·
    (try simp only [decide_eq_true_eq, decide_eq_false_iff_not, Int.not_lt, Int.not_le, gt_iff_lt, Bool.and_eq_true, Bool.and_eq_false_iff, Bool.not_eq_true', Bool.not_eq_false', Bool.or_eq_true, Bool.or_eq_false_iff, bne_iff_ne, bne_eq_false_iff_eq, ne_eq] at h4)
    have e4 : ((elemE x) : Int) = 2 := by
     first | exact elemE_4 (nz_iff.1 h1) | exact elemE_2 (fun h => h1 (nz_iff.2 h)) (.inl h3) | exact elemE_2 (fun h => h1 (nz_iff.2 h)) (.inr h4) | exact elemE_c (fun h => h1 (nz_iff.2 h)) h3 h4 | (exfalso; simp_all; done)
    exact .finE [.r []] [] (fun z0 => (VI z0, [])) (2 : Int) ((elemE x) : Int) e4
   ·
    (try simp only [decide_eq_true_eq, decide_eq_false_iff_not, Int.not_lt, Int.not_le, gt_iff_lt, Bool.and_eq_true, Bool.and_eq_false_iff, Bool.not_eq_true', Bool.not_eq_false', Bool.or_eq_true, Bool.or_eq_false_iff, bne_iff_ne, bne_eq_false_iff_eq, ne_eq] at h4)
    have e5 : ((elemE x) : Int) = (chkA false x.attrs 0) := by
     first | exact elemE_4 (nz_iff.1 h1) | exact elemE_2 (fun h => h1 (nz_iff.2 h)) (.inl h3) | exact elemE_2 (fun h => h1 (nz_iff.2 h)) (.inr h4) | exact elemE_c (fun h => h1 (nz_iff.2 h)) h3 h4 | (exfalso; simp_all; done)
    exact .finE [.r [(2, X (Xc0 (fc_acheck x.attrs) X0))]] [] (fun z0 => (VI z0, [])) ((chkA false x.attrs 0) : Int) ((elemE x) : Int) e5

theorem fc_checkPart (l : List Elem) : FC Try.prog 115 [VL 3 elemT l] (app emp []) (VI (partE l 0)) (app emp []) := by
 refine .go Try.f115 ?_
 refine .len 0 (fun hl0 => ?_)
 refine .loop (α := Nat) [.r [], .r [(1, X (Xl elemT l))]] 32 (fun i => ([(6, VL 3 elemT l), (7, VI (l.length : Int)), (8, VI (i : Int))], [])) (fun i => i ≤ l.length ∧ partE l 0 = partE l i) (fun i => l.length - i) (0 : Nat) ?_ ?_
 ·
  exact ⟨by omega, rfl⟩
 rintro i I2 ih2
 try dsimp only at I2
 refine .br [.r []] (decide ((i : Int) < (l.length : Int))) (fun h2 => ?_) (fun h2 => ?_)
 ·
  (try simp only [decide_eq_true_eq, decide_eq_false_iff_not, Int.not_lt, Int.not_le] at h2)
  refine .br [.r [(0, X (Xi elemT l (i : Int)))], .r [(1, X (Xc0 (fc_elem ((l.getD i default))) X0))], .r []] ((elemE ((l.getD i default))) != 0) (fun h5 => ?_) (fun h5 => ?_)
  ·
   (try simp only [bne_iff_ne, bne_eq_false_iff_eq, ne_eq] at h5)
   have e1 : ((partE l 0) : Int) = (elemE ((l.getD i default))) := by
    rw [I2.2, partE]; ((repeat' split) <;> first | rfl | omega | (simp_all; done) | (simp_all; omega))
   exact .finE [.r []] [] (fun z0 => (VI z0, [])) ((elemE ((l.getD i default))) : Int) ((partE l 0) : Int) e1
  ·
   (try simp only [bne_iff_ne, bne_eq_false_iff_eq, ne_eq] at h5)
   refine .back [.r [(0, X (Xn ((i : Int) + 1)))]] [] (ih2 ((i + 1) : Nat) ?_ ?_)
   ·
    refine ⟨by omega, ?_⟩; rw [I2.2, partE, if_pos (by omega), if_pos (by omega)]
   ·
    ((try dsimp only); omega)
 ·
  (try simp only [decide_eq_true_eq, decide_eq_false_iff_not, Int.not_lt, Int.not_le] at h2)
  have e2 : ((partE l 0) : Int) = 0 := by
   rw [I2.2, partE]; ((repeat' split) <;> first | rfl | omega | (simp_all; done) | (simp_all; omega))
  exact .finE [.r []] [] (fun z0 => (VI z0, [])) (0 : Int) ((partE l 0) : Int) e2

theorem fc_attrSame (a b : List Attr) : FC Try.prog 136 [VL 2 attrT a, VL 2 attrT b] (app emp []) (VB (sameL a b)) (app emp []) := by
 refine .go Try.f136 ?_
 refine .len 0 (fun hl0 => ?_)
 refine .len 1 (fun hl1 => ?_)
 refine .br [.r [], .r [(1, X (Xl attrT a)), (3, X (Xl attrT b))]] ((a.length : Int) != (b.length : Int)) (fun h1 => ?_) (fun h1 => ?_)
 ·
  (try simp only [bne_iff_ne, bne_eq_false_iff_eq, ne_eq] at h1)
  have e1 : ((sameL a b) : Bool) = false := by
   unfold sameL; rw [decide_eq_false (by omega)]; rfl
  exact .finE [.r []] [] (fun z0 => (VB z0, [])) (false : Bool) ((sameL a b) : Bool) e1
 ·
  (try simp only [bne_iff_ne, bne_eq_false_iff_eq, ne_eq] at h1)
  refine .loop (α := Nat) [.r [(1, X (Xl attrT a))]] 72 (fun i => ([(0, VL 2 attrT a), (1, VL 2 attrT b), (12, VI (a.length : Int)), (13, VI (i : Int))], [])) (fun i => i ≤ a.length ∧ sameA a b 0 = sameA a b i) (fun i => a.length - i) (0 : Nat) ?_ ?_
  ·
   exact ⟨by omega, rfl⟩
  rintro i I4 ih4
  try dsimp only at I4
  refine .br [.r []] (decide ((i : Int) < (a.length : Int))) (fun h4 => ?_) (fun h4 => ?_)
  ·
   (try simp only [decide_eq_true_eq, decide_eq_false_iff_not, Int.not_lt, Int.not_le] at h4)
   refine .br [.r [], .r [(2, X (Xi attrT a (i : Int))), (6, X (Xi attrT b (i : Int)))]] (!(seq (((a.getD i default)).name) (((b.getD i default)).name) && (seq (((a.getD i default)).val) (((b.getD i default)).val) && true))) (fun h6 => ?_) (fun h6 => ?_)
   ·
    (try simp only [Bool.not_eq_true', Bool.not_eq_false', Bool.and_eq_true, Bool.and_eq_false_iff] at h6)
    have e2 : ((sameL a b) : Bool) = false := by
     unfold sameL; rw [I4.2, sameA, if_pos (by omega), if_neg (by clear ih4; simp only [seq_no, seq_iff] at h6; rintro ⟨x, y⟩; simp_all)]; simp
    exact .finE [.r []] [] (fun z0 => (VB z0, [])) (false : Bool) ((sameL a b) : Bool) e2
   ·
    (try simp only [Bool.not_eq_true', Bool.not_eq_false', Bool.and_eq_true, Bool.and_eq_false_iff] at h6)
    refine .back [.r [(0, X (Xn ((i : Int) + 1)))]] [] (ih4 ((i + 1) : Nat) ?_ ?_)
    ·
     refine ⟨by omega, ?_⟩; rw [I4.2, sameA, if_pos (by omega), if_pos (by clear ih4; simp only [seq_no, seq_iff] at h6; simp_all)]
    ·
     ((try dsimp only); omega)
  ·
   (try simp only [decide_eq_true_eq, decide_eq_false_iff_not, Int.not_lt, Int.not_le] at h4)
   have e3 : ((sameL a b) : Bool) = true := by
    unfold sameL; rw [I4.2, sameA, if_neg (by omega), decide_eq_true (by omega)]; rfl
   exact .finE [.r []] [] (fun z0 => (VB z0, [])) (true : Bool) ((sameL a b) : Bool) e3

theorem fc_elemError (x : Elem) (hz : Szd x.attrs) : FC Try.prog 99 [.t (elemT x)] (app emp []) (VI (elemE x)) (app emp []) := by
 refine .go Try.f99 ?_
 refine .br [.r [], .r [(5, Xv 1 (x.char == 0) X0), (6, Xv 1 (x.char == 0) X0), (7, X (Xk (x.char == 0))), (10, Xv 1 (!((x.char == 0) && (x.ref == 0))) X0), (11, Xv 1 (!((x.char == 0) && (x.ref == 0))) X0), (12, Xv 1 (!((x.char == 0) && (x.ref == 0))) X0), (14, Xv 1 ((!((x.char == 0) && (x.ref == 0))) && (x.char != 0)) X0), (15, Xv 1 ((!((x.char == 0) && (x.ref == 0))) && (x.char != 0)) X0), (16, Xka (!((x.char == 0) && (x.ref == 0))) (x.char != 0)), (17, X (Xk' ((x.char == 0) && (x.ref == 0))))]] (((x.char == 0) && (x.ref == 0)) || ((x.char != 0) && (x.ref != 0))) (fun h1 => ?_) (fun h1 => ?_)
 ·
  (try simp only [Bool.and_eq_true, Bool.and_eq_false_iff, Bool.not_eq_true', Bool.not_eq_false', Bool.or_eq_true, Bool.or_eq_false_iff, beq_iff_eq, beq_eq_false_iff_ne, ne_eq, bne_iff_ne, bne_eq_false_iff_eq] at h1)
  have e1 : ((elemE x) : Int) = 4 := by
   exact elemE_4 (by omega)
  exact .finE [.r []] [] (fun z0 => (VI z0, [])) (4 : Int) ((elemE x) : Int) e1
 ·
  (try simp only [Bool.and_eq_true, Bool.and_eq_false_iff, Bool.not_eq_true', Bool.not_eq_false', Bool.or_eq_true, Bool.or_eq_false_iff, beq_iff_eq, beq_eq_false_iff_ne, ne_eq, bne_iff_ne, bne_eq_false_iff_eq] at h1)
  refine .br [.r [(5, Xv 1 (x.char != 0) X0), (6, Xv 1 (x.char != 0) (Xc0 (fc_charR x.char) X0)), (7, Xv 1 (x.char != 0) X0), (8, X (Xk (x.char != 0))), (11, Xv 1 (!((x.char != 0) && !(decide (CharP x.char)))) X0), (12, Xv 1 (!((x.char != 0) && !(decide (CharP x.char)))) X0), (13, Xv 1 (!((x.char != 0) && !(decide (CharP x.char)))) X0), (15, Xv 1 ((!((x.char != 0) && !(decide (CharP x.char)))) && (x.ref != 0)) X0), (16, Xv 1 ((!((x.char != 0) && !(decide (CharP x.char)))) && (x.ref != 0)) (Xc0 (fc_in x.ref 1 1073741824) X0)), (17, Xv 1 ((!((x.char != 0) && !(decide (CharP x.char)))) && (x.ref != 0)) X0), (18, Xka (!((x.char != 0) && !(decide (CharP x.char)))) (x.ref != 0)), (19, X (Xk' ((x.char != 0) && !(decide (CharP x.char)))))]] (((x.char != 0) && !(decide (CharP x.char))) || ((x.ref != 0) && !(decide (1 ≤ x.ref ∧ x.ref ≤ 1073741824)))) (fun h3 => ?_) (fun h3 => ?_)
  ·
   (try simp only [decide_eq_true_eq, decide_eq_false_iff_not, Int.not_lt, Int.not_le, Bool.not_eq_true', Bool.not_eq_false', Bool.and_eq_true, Bool.and_eq_false_iff, Bool.or_eq_true, Bool.or_eq_false_iff, bne_iff_ne, bne_eq_false_iff_eq, ne_eq] at h3)
   have e2 : ((elemE x) : Int) = 2 := by
    refine elemE_2 (by omega) ?_
    rcases h3 with ⟨q, r⟩ | ⟨q, r⟩
    · exact .inl ⟨by omega, r⟩
    · exact .inr ⟨q, by omega⟩
   exact .finE [.r []] [] (fun z0 => (VI z0, [])) (2 : Int) ((elemE x) : Int) e2
  ·
   (try simp only [decide_eq_true_eq, decide_eq_false_iff_not, Int.not_lt, Int.not_le, Bool.not_eq_true', Bool.not_eq_false', Bool.and_eq_true, Bool.and_eq_false_iff, Bool.or_eq_true, Bool.or_eq_false_iff, bne_iff_ne, bne_eq_false_iff_eq, ne_eq] at h3)
   have e3 : ((elemE x) : Int) = (errA false x.attrs 0) := by
    rw [errA_eq false x.attrs _ 0 rfl]
    obtain ⟨h3a, h3b⟩ := h3
    exact elemE_c (by omega) (by rcases h3a with q | q; (left; omega); exact .inr q) (by rcases h3b with q | q; exact .inl q; exact .inr q)
   exact .finE [.r [(2, X (Xc0 (fc_attrsError x.attrs false (by assumption)) X0))]] [] (fun z0 => (VI z0, [])) ((errA false x.attrs 0) : Int) ((elemE x) : Int) e3

theorem fc_partError (l : List Elem) (hz : SzE l) : FC Try.prog 47 [VL 3 elemT l] (app emp []) (VI (partE l 0)) (app emp []) := by
 refine .go Try.f47 ?_
 refine .len 0 (fun hl0 => ?_)
 refine .loop (α := Nat) [.r [], .r [(1, X (Xl elemT l))]] 32 (fun i => ([(0, VL 3 elemT l), (6, VI (l.length : Int)), (7, VI (i : Int))], [])) (fun i => i ≤ l.length ∧ partE l 0 = partE l i) (fun i => l.length - i) (0 : Nat) ?_ ?_
 ·
  exact ⟨by omega, rfl⟩
 rintro i I2 ih2
 try dsimp only at I2
 refine .br [.r []] (decide ((i : Int) < (l.length : Int))) (fun h2 => ?_) (fun h2 => ?_)
 ·
  (try simp only [decide_eq_true_eq, decide_eq_false_iff_not, Int.not_lt, Int.not_le] at h2)
  have hx := hz _ (getDE_mem (l := l) (k := i) (by omega))
  refine .br [.r [], .r [(2, X (Xi elemT l (i : Int))), (4, X (Xc0 (fc_elemError ((l.getD i default)) (by assumption)) X0))], .r []] ((elemE ((l.getD i default))) != 0) (fun h5 => ?_) (fun h5 => ?_)
  ·
   (try simp only [bne_iff_ne, bne_eq_false_iff_eq, ne_eq] at h5)
   have e1 : ((partE l 0) : Int) = (elemE ((l.getD i default))) := by
    rw [I2.2, partE]; ((repeat' split) <;> first | rfl | omega | (simp_all; done) | (simp_all; omega))
   exact .finE [.r []] [] (fun z0 => (VI z0, [])) ((elemE ((l.getD i default))) : Int) ((partE l 0) : Int) e1
  ·
   (try simp only [bne_iff_ne, bne_eq_false_iff_eq, ne_eq] at h5)
   refine .back [.r [(0, X (Xn ((i : Int) + 1)))]] [] (ih2 ((i + 1) : Nat) ?_ ?_)
   ·
    refine ⟨by omega, ?_⟩; rw [I2.2, partE, if_pos (by omega), if_pos (by omega)]
   ·
    ((try dsimp only); omega)
 ·
  (try simp only [decide_eq_true_eq, decide_eq_false_iff_not, Int.not_lt, Int.not_le] at h2)
  have e2 : ((partE l 0) : Int) = 0 := by
   rw [I2.2, partE]; ((repeat' split) <;> first | rfl | omega | (simp_all; done) | (simp_all; omega))
  exact .finE [.r []] [] (fun z0 => (VI z0, [])) (0 : Int) ((partE l 0) : Int) e2

theorem fc_sameElem (x y : Elem) : FC Try.prog 73 [.t (elemT x), .t (elemT y)] (app emp []) (VB (sameE x y)) (app emp []) := by
 refine .go Try.f73 ?_
 have e1 : ((sameE x y) : Bool) = (((x.char == y.char) && (x.ref == y.ref)) && (sameL x.attrs y.attrs)) := by
  rfl
 exact .finE [.r [], .r [(7, Xv 1 (x.char == y.char) X0), (9, Xv 1 (x.char == y.char) X0), (10, Xv 2 (x.char == y.char) X0), (11, X (Xk (x.char == y.char))), (14, Xv 1 ((x.char == y.char) && (x.ref == y.ref)) X0), (16, Xv 1 ((x.char == y.char) && (x.ref == y.ref)) X0), (17, Xv 2 ((x.char == y.char) && (x.ref == y.ref)) (Xc0 (fc_sameAttrs x.attrs y.attrs) X0)), (18, X (Xk ((x.char == y.char) && (x.ref == y.ref))))]] [] (fun z0 => (VB z0, [])) ((((x.char == y.char) && (x.ref == y.ref)) && (sameL x.attrs y.attrs)) : Bool) ((sameE x y) : Bool) e1

theorem fc_sameFlow (a b : List Elem) : FC Try.prog 55 [VL 3 elemT a, VL 3 elemT b] (app emp []) (VB (sameF a b)) (app emp []) := by
 refine .go Try.f55 ?_
 refine .len 0 (fun hl0 => ?_)
 refine .len 1 (fun hl1 => ?_)
 refine .br [.r [], .r [(1, X (Xl elemT a)), (3, X (Xl elemT b))]] ((a.length : Int) != (b.length : Int)) (fun h1 => ?_) (fun h1 => ?_)
 ·
  (try simp only [bne_iff_ne, bne_eq_false_iff_eq, ne_eq] at h1)
  have e1 : ((sameF a b) : Bool) = false := by
   unfold sameF; rw [decide_eq_false (by omega)]; rfl
  exact .finE [.r []] [] (fun z0 => (VB z0, [])) (false : Bool) ((sameF a b) : Bool) e1
 ·
  (try simp only [bne_iff_ne, bne_eq_false_iff_eq, ne_eq] at h1)
  refine .loop (α := Nat) [.r [(1, X (Xl elemT a))]] 72 (fun i => ([(0, VL 3 elemT a), (1, VL 3 elemT b), (12, VI (a.length : Int)), (13, VI (i : Int))], [])) (fun i => i ≤ a.length ∧ sameFi a b 0 = sameFi a b i) (fun i => a.length - i) (0 : Nat) ?_ ?_
  ·
   exact ⟨by omega, rfl⟩
  rintro i I4 ih4
  try dsimp only at I4
  refine .br [.r []] (decide ((i : Int) < (a.length : Int))) (fun h4 => ?_) (fun h4 => ?_)
  ·
   (try simp only [decide_eq_true_eq, decide_eq_false_iff_not, Int.not_lt, Int.not_le] at h4)
   refine .br [.r [], .r [(2, X (Xi elemT a (i : Int))), (6, X (Xi elemT b (i : Int))), (8, X (Xc0 (fc_sameElem ((a.getD i default)) ((b.getD i default))) X0))]] (!(sameE ((a.getD i default)) ((b.getD i default)))) (fun h6 => ?_) (fun h6 => ?_)
   ·
    (try simp only [Bool.not_eq_true', Bool.not_eq_false'] at h6)
    have e2 : ((sameF a b) : Bool) = false := by
     unfold sameF; rw [I4.2, sameFi, if_pos (by omega), if_neg (by rw [h6]; decide)]; simp
    exact .finE [.r []] [] (fun z0 => (VB z0, [])) (false : Bool) ((sameF a b) : Bool) e2
   ·
    (try simp only [Bool.not_eq_true', Bool.not_eq_false'] at h6)
    refine .back [.r [(0, X (Xn ((i : Int) + 1)))]] [] (ih4 ((i + 1) : Nat) ?_ ?_)
    ·
     refine ⟨by omega, ?_⟩; rw [I4.2, sameFi, if_pos (by omega), if_pos h6]
    ·
     ((try dsimp only); omega)
  ·
   (try simp only [decide_eq_true_eq, decide_eq_false_iff_not, Int.not_lt, Int.not_le] at h4)
   have e3 : ((sameF a b) : Bool) = true := by
    unfold sameF; rw [I4.2, sameFi, if_neg (by omega), decide_eq_true (by omega)]; rfl
   exact .finE [.r []] [] (fun z0 => (VB z0, [])) (true : Bool) ((sameF a b) : Bool) e3
end Go.Ch
end
