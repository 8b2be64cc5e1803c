/- Documents: the walk through the tree. -/
import Derived.Test.YtfhidobmbgmjfaaGreatDoorM1
import Derived.Test.YtfhidobmbgmjfaaGreatDoorM2
import Derived.Test.YtfhidobmbgmjfaaGreatDoorM3
import Derived.Test.YtfhidobmbgmjfaaGreatDoorM4
import Derived.Test.YtfhidobmbgmjfaaGreatDoorM5
import Derived.Test.YtfhidobmbgmjfaaGreatDoorM6
import Derived.Test.YtfhidobmbgmjfaaGreatDoorM7
import Derived.Test.YtfhidobmbgmjfaaGreatDoorM8
import Derived.Test.YtfhidobmbgmjfaaGreatDoorM9
import Derived.Test.YtfhidobmbgmjfaaGreatDoorRows
import Derived.Shelf.Unicode.DecodeAny
import Derived.Test.YtfhidobmbgmjfaaGreatDoorProg
section
set_option linter.unusedVariables false
namespace Go.Ch
open Go Go.Ab

/-! ### Rectangles that hold a place -/
def inQ (q : Rect) (r c : Int) : Bool := decide (q.row ≤ r ∧ r - q.row < q.h ∧ q.col ≤ c ∧ c - q.col < q.w)
def covQ (l : List Rect) (r c : Int) (i : Nat) : Rect := if i < l.length then (if inQ (l.getD i default) r c = true then l.getD i default else covQ l r c (i + 1)) else ⟨r, c, 1, 1⟩
termination_by l.length - i
theorem merg_all {l : List Rect} {m n : Int} : ∀ (k i : Nat), l.length - i = k → mergE l m n i = 0 → ∀ j, i ≤ j → j < l.length → insB (l.getD j default) m n = true
  | 0, i, h, _ => fun j h1 h2 => by omega
  | k + 1, i, h, he => by
    have hi : i < l.length := by omega
    rw [mergE, if_pos hi] at he
    split at he
    · cases he
    rename_i h1
    split at he
    · cases he
    split at he
    · cases he
    split at he
    · cases he
    intro j q1 q2
    by_cases q : j = i
    · subst q; simpa using h1
    · exact merg_all k (i + 1) (by omega) he j (by omega) q2
theorem cells_all {l : List Cell} {m n : Int} {o : Bool} : ∀ (k i : Nat), l.length - i = k → cellsE l m n o i = 0 → ∀ j, i ≤ j → j < l.length → (0 ≤ (l.getD j default).row ∧ (l.getD j default).row < m) ∧ 0 ≤ (l.getD j default).col ∧ (l.getD j default).col < n
  | 0, i, h, _ => fun j h1 h2 => by omega
  | k + 1, i, h, he => by
    have hi : i < l.length := by omega
    rw [cellsE, if_pos hi] at he
    split at he
    · rename_i q; exact absurd he q
    rename_i h1
    split at he
    · cases he
    intro j q1 q2
    by_cases q : j = i
    · subst q
      have h2 : cellE (l.getD j default) m n o = 0 := Classical.byContradiction h1
      unfold cellE at h2
      split at h2
      · cases h2
      · omega
    · exact cells_all k (i + 1) (by omega) he j (by omega) q2
/-- Numbers in the grid of a valid node. -/
theorem grid_of {n : Node} (h : nodeE n = 0) : AllRB n.grid.merges ∧ ∀ c ∈ n.grid.cells, (0 ≤ c.row ∧ c.row ≤ 2147483647) ∧ 0 ≤ c.col ∧ c.col ≤ 2147483647 := by
  have key : gridE n.grid = 0 → AllRB n.grid.merges ∧ ∀ c ∈ n.grid.cells, (0 ≤ c.row ∧ c.row ≤ 2147483647) ∧ 0 ≤ c.col ∧ c.col ≤ 2147483647 := by
    intro hg
    unfold gridE at hg
    split at hg
    · cases hg
    rename_i h1
    split at hg
    · rename_i q; exact absurd hg q
    rename_i h2
    refine ⟨fun q hq => ?_, fun c hc => ?_⟩
    · obtain ⟨k, hk, rfl⟩ := List.mem_iff_getElem.1 hq
      have := merg_all _ 0 rfl hg k (Nat.zero_le _) hk
      rw [List.getD_eq_getElem?_getD, List.getElem?_eq_getElem hk] at this
      exact RB_ins this (by omega) (by omega)
    · obtain ⟨k, hk, rfl⟩ := List.mem_iff_getElem.1 hc
      have := cells_all _ 0 rfl (Classical.byContradiction h2) k (Nat.zero_le _) hk
      rw [List.getD_eq_getElem?_getD, List.getElem?_eq_getElem hk] at this
      simp only [Option.getD_some] at this
      omega
  unfold nodeE at h
  split at h
  · cases h
  split at h
  · cases h
  split at h
  · rename_i q; exact absurd h q
  split at h
  · cases h
  rename_i q1
  have hz : hasG n.kind = false → AllRB n.grid.merges ∧ ∀ c ∈ n.grid.cells, (0 ≤ c.row ∧ c.row ≤ 2147483647) ∧ 0 ≤ c.col ∧ c.col ≤ 2147483647 := by
    intro hg
    have z : zeroG n.grid = true := by
      cases hq : zeroG n.grid
      · exact absurd (.inr (.inl ⟨hq, hg⟩)) q1
      · rfl
    unfold zeroG at z
    simp only [Bool.and_eq_true, beq_iff_eq] at z
    have e1 : n.grid.cells = [] := List.eq_nil_of_length_eq_zero (by omega)
    have e2 : n.grid.merges = [] := List.eq_nil_of_length_eq_zero (by omega)
    rw [e1, e2]
    exact ⟨fun q hq => (by cases hq), fun c hc => (by cases hc)⟩
  split at h
  · rename_i q2
    refine hz ?_
    cases hg : hasG n.kind
    · rfl
    · exfalso
      unfold hasG at hg
      unfold hasT hasL at q2
      simp only [Bool.or_eq_true, beq_iff_eq] at hg q2
      omega
  split at h
  · rename_i q2
    split at h
    · rename_i q; exact absurd h q
    · rename_i q; exact key (Classical.byContradiction q)
  · rename_i q2
    exact hz (by simpa using q2)

/-! ### Valid documents -/
structure DocV (d : Doc) : Prop where
  b : DocB d
  e : docE d = 0
theorem DocV.nodes {d : Doc} (h : DocV d) : nodesE d.nodes 0 = 0 ∧ allRefsE d.nodes 0 = 0 ∧ d.nodes.length ≠ 0 := by
  have := h.e
  unfold docE at this
  split at this
  · cases this
  · rename_i h1
    split at this
    · rename_i q; exact absurd this q
    · rename_i q; exact ⟨Classical.byContradiction q, this, h1⟩
theorem DocV.srt {d : Doc} (h : DocV d) : SortN d.nodes := sort_of h.nodes.1
theorem DocV.node {d : Doc} (h : DocV d) {n : Node} (hn : n ∈ d.nodes) : nodeE n = 0 := by
  obtain ⟨k, hk, rfl⟩ := List.mem_iff_getElem.1 hn
  have := (nodesE_all _ 0 rfl h.nodes.1).1 k (Nat.zero_le _) hk
  rwa [List.getD_eq_getElem?_getD, List.getElem?_eq_getElem hk] at this
def nodeOf (l : List Node) (k : Int) : Node := l.getD (lobN l k) default
theorem nodeOf_mem {l : List Node} {k : Int} (h : hasN l k = true) : nodeOf l k ∈ l ∧ (nodeOf l k).id = k := ⟨getDX_mem (hasN_iff.1 h).1, (hasN_iff.1 h).2⟩
theorem refsE_all {l : List Node} {k : Int} {rs : List Int} (hs : SortN l) : ∀ (n i : Nat), rs.length - i = n → refsE l k rs i = 0 → ∀ j, i ≤ j → j < rs.length → hasN l (rs.getD j default) = true
  | 0, i, h, _ => fun j h1 h2 => by omega
  | n + 1, i, h, he => by
    have hi : i < rs.length := by omega
    rw [refsE, if_pos hi] at he
    split at he
    · cases he
    rename_i h1
    split at he
    · cases he
    intro j q1 q2
    by_cases q : j = i
    · subst q
      cases hh : hasN l (rs.getD j default)
      · exact absurd (find_no hs hh) h1
      · rfl
    · exact refsE_all hs n (i + 1) (by omega) he j (by omega) q2
theorem allR_all {l : List Node} : ∀ (n i : Nat), l.length - i = n → allRefsE l i = 0 → ∀ j, i ≤ j → j < l.length → refsE l (l.getD j default).kind (refsN (l.getD j default)) 0 = 0
  | 0, i, h, _ => fun j h1 h2 => by omega
  | n + 1, i, h, he => by
    have hi : i < l.length := by omega
    rw [allRefsE, if_pos hi] at he
    split at he
    · rename_i q; exact absurd he q
    rename_i h1
    intro j q1 q2
    by_cases q : j = i
    · subst q; exact Classical.byContradiction h1
    · exact allR_all n (i + 1) (by omega) he j (by omega) q2
theorem DocV.ref {d : Doc} (h : DocV d) {n : Node} (hn : n ∈ d.nodes) {r : Int} (hr : r ∈ refsN n) : hasN d.nodes r = true := by
  obtain ⟨k, hk, rfl⟩ := List.mem_iff_getElem.1 hn
  have h1 := allR_all _ 0 rfl h.nodes.2.1 k (Nat.zero_le _) hk
  rw [List.getD_eq_getElem?_getD, List.getElem?_eq_getElem hk] at h1
  simp only [Option.getD_some] at h1
  obtain ⟨j, hj, rfl⟩ := List.mem_iff_getElem.1 hr
  have := refsE_all h.srt _ 0 rfl h1 j (Nat.zero_le _) hj
  rwa [List.getD_eq_getElem?_getD, List.getElem?_eq_getElem hj] at this
theorem items_has {l : List Node} {n : Node} {r : Int} (h : r ∈ itemsD l n) : hasN l r = true := by
  unfold itemsD at h
  obtain ⟨x, _, hx⟩ := List.mem_filterMap.1 h
  unfold itemD at hx
  obtain ⟨v, _, hv⟩ := Option.bind_eq_some_iff.1 hx
  split at hv
  · rename_i q; cases hv; exact q.1
  · cases hv
theorem DocV.one {d : Doc} (h : DocV d) : hasN d.nodes 1 = true := by
  have h1 := (nodesE_all _ 0 rfl h.nodes.1).2 0 (Nat.zero_le _) (by have := h.nodes.2.2; omega)
  have h2 := h1.1 rfl
  have h3 := lobN_ge (l := d.nodes) (k := 1) (m := 0) (by omega)
  exact hasN_iff.2 ⟨by have := h.nodes.2.2; omega, by rw [show lobN d.nodes 1 = 0 by omega]; exact h2⟩

/-! ### Visits -/
structure Vis where
  id : Int
  parent : Int
  vis : Bool
instance : Inhabited Vis := ⟨⟨0, 0, false⟩⟩
def visT (v : Vis) : Tree := .agg [TI v.id, TI v.parent, TB v.vis]
def enc1 (v : Vis) : List Tree := [visT v]
def kidR (v : Vis) (k : Int) : Vis := ⟨k, v.id, v.vis⟩
def visC (g : Grid) (b : Bool) (c : Cell) : Bool := (b && (covQ g.merges c.row c.col 0).row == c.row) && (covQ g.merges c.row c.col 0).col == c.col
def kidC (g : Grid) (v : Vis) (c : Cell) : List Vis := if c.ref ≠ 0 then [⟨c.ref, v.id, visC g v.vis c⟩] else []
def kidsV (l : List Node) (v : Vis) : List Vis := (refsF (nodeOf l v.id).flow).map (kidR v) ++ (nodeOf l v.id).grid.cells.flatMap (kidC (nodeOf l v.id).grid v) ++ (itemsD l (nodeOf l v.id)).map (kidR v)
def idsV9 (l : List Vis) : List Int := l.map Vis.id
def walkL (f : List Int → Vis → List Vis) : List Int → List Vis → List Vis
  | _, [] => []
  | S, k :: ks => f S k ++ walkL f (S ++ idsV9 (f S k)) ks
/-- The visits that a call makes, where S are the nodes that were met. -/
def walkV (l : List Node) : Nat → List Int → Vis → List Vis
  | 0, _, _ => []
  | n + 1, S, v => if v.id ∈ S then [] else v :: walkL (walkV l n) (S ++ [v.id]) (kidsV l v)
theorem idsV9_app (a b : List Vis) : idsV9 (a ++ b) = idsV9 a ++ idsV9 b := List.map_append
theorem walkL_app (f : List Int → Vis → List Vis) : ∀ (S : List Int) (a b : List Vis), walkL f S (a ++ b) = walkL f S a ++ walkL f (S ++ idsV9 (walkL f S a)) b
  | S, [], b => by simp [walkL, idsV9]
  | S, k :: a, b => by rw [List.cons_append, walkL, walkL, walkL_app f _ a b, idsV9_app, List.append_assoc, List.append_assoc]
theorem walkL_one (f : List Int → Vis → List Vis) (S : List Int) (k : Vis) : walkL f S [k] = f S k := by simp [walkL]

/-! ### With a function that may stop -/
/-- The calls that are made of those that are meant. -/
def stopY (g : List (List Tree) → Bool) : List (List Tree) → List Vis → List Vis
  | _, [] => []
  | pre, x :: l => x :: (if g (pre ++ [enc1 x]) = true then stopY g (pre ++ [enc1 x]) l else [])
/-- Whether it goes on to the end. -/
def contY (g : List (List Tree) → Bool) : List (List Tree) → List Vis → Bool
  | _, [] => true
  | pre, x :: l => if g (pre ++ [enc1 x]) = true then contY g (pre ++ [enc1 x]) l else false
/-- What is called with may be called with. -/
def AdmY (Y : YSpec) : List (List Tree) → List Vis → Prop
  | _, [] => True
  | pre, x :: l => Y.adm pre (enc1 x) ∧ (Y.goes (pre ++ [enc1 x]) = true → AdmY Y (pre ++ [enc1 x]) l)
theorem snoc_map (pre : List (List Tree)) (x : Vis) (a : List Vis) : pre ++ [enc1 x] ++ a.map enc1 = pre ++ (x :: a).map enc1 := by simp
theorem stop_go {g : List (List Tree) → Bool} : ∀ {pre : List (List Tree)} {a b : List Vis}, contY g pre a = true → stopY g pre (a ++ b) = a ++ stopY g (pre ++ a.map enc1) b ∧ contY g pre (a ++ b) = contY g (pre ++ a.map enc1) b
  | pre, [], b, _ => by simp
  | pre, x :: a, b, h => by
    rw [contY] at h
    split at h
    · rename_i hg
      obtain ⟨h1, h2⟩ := stop_go (b := b) h
      rw [snoc_map] at h1 h2
      rw [List.cons_append, stopY, contY, if_pos hg, if_pos hg, h1, h2]
      exact ⟨rfl, rfl⟩
    · cases h
theorem stop_end {g : List (List Tree) → Bool} : ∀ {pre : List (List Tree)} {a b : List Vis}, contY g pre a = false → stopY g pre (a ++ b) = stopY g pre a ∧ contY g pre (a ++ b) = false
  | pre, [], b, h => by simp [contY] at h
  | pre, x :: a, b, h => by
    rw [contY] at h
    split at h
    · rename_i hg
      obtain ⟨h1, h2⟩ := stop_end (b := b) h
      rw [List.cons_append, stopY, stopY, contY, if_pos hg, if_pos hg, if_pos hg, h1, h2]
      exact ⟨rfl, rfl⟩
    · rename_i hg
      rw [List.cons_append, stopY, stopY, contY, if_neg hg, if_neg hg, if_neg hg]
      exact ⟨rfl, rfl⟩
theorem stop_all {g : List (List Tree) → Bool} {pre : List (List Tree)} {a : List Vis} (h : contY g pre a = true) : stopY g pre a = a := by
  have := (stop_go (b := []) h).1
  simpa [stopY] using this
theorem adm_app {Y : YSpec} : ∀ {pre : List (List Tree)} {a b : List Vis}, AdmY Y pre (a ++ b) → AdmY Y pre a ∧ (contY Y.goes pre a = true → AdmY Y (pre ++ a.map enc1) b)
  | pre, [], b, h => ⟨trivial, fun _ => by simpa using h⟩
  | pre, x :: a, b, h => by
    obtain ⟨h1, h2⟩ := h
    refine ⟨⟨h1, fun hg => (adm_app (h2 hg)).1⟩, fun hc => ?_⟩
    rw [contY] at hc
    split at hc
    · rename_i hg
      have := (adm_app (h2 hg)).2 hc
      rwa [snoc_map] at this
    · cases hc

/-! ### The number of nodes that were not met -/
def muS (l : List Node) (S : List Int) : Nat := (l.filter fun n => decide (n.id ∉ S)).length
theorem muS_le {l : List Node} {S S' : List Int} (h : ∀ k ∈ S, k ∈ S') : muS l S' ≤ muS l S := by
  unfold muS
  induction l with
  | nil => exact Nat.le_refl _
  | cons n l ih =>
    rw [List.filter_cons, List.filter_cons]
    by_cases q : n.id ∈ S
    · rw [if_neg (by simp [h _ q]), if_neg (by simp [q])]; exact ih
    · rw [if_pos (show decide (n.id ∉ S) = true by simp [q])]
      split
      · simp only [List.length_cons]; omega
      · simp only [List.length_cons]; omega
theorem muS_lt {l : List Node} {S : List Int} {k : Int} (hk : hasN l k = true) (h : k ∉ S) : muS l (S ++ [k]) < muS l S := by
  obtain ⟨hm, hid⟩ := nodeOf_mem hk
  generalize nodeOf l k = m at *
  unfold muS
  induction l with
  | nil => cases hm
  | cons n l ih =>
    have hle : (l.filter fun n => decide (n.id ∉ S ++ [k])).length ≤ (l.filter fun n => decide (n.id ∉ S)).length := muS_le (l := l) (S := S) (S' := S ++ [k]) (fun x hx => List.mem_append_left _ hx)
    rw [List.filter_cons, List.filter_cons]
    by_cases q : n.id = k
    · rw [if_neg (by simp [q]), if_pos (by simp [q, h])]
      simp only [List.length_cons]; omega
    · have hm' : m ∈ l := by
        rcases List.mem_cons.1 hm with rfl | hm
        · exact absurd hid q
        · exact hm
      have hi : (l.filter fun n => decide (n.id ∉ S ++ [k])).length < (l.filter fun n => decide (n.id ∉ S)).length := by
        clear ih hm q hk
        induction l with
        | nil => cases hm'
        | cons n' l ih2 =>
          have hle2 : (l.filter fun n => decide (n.id ∉ S ++ [k])).length ≤ (l.filter fun n => decide (n.id ∉ S)).length := muS_le (l := l) (S := S) (S' := S ++ [k]) (fun x hx => List.mem_append_left _ hx)
          rw [List.filter_cons, List.filter_cons]
          by_cases q : n'.id = k
          · rw [if_neg (by simp [q]), if_pos (by simp [q, h])]
            simp only [List.length_cons]; omega
          · have hm2 : m ∈ l := by
              rcases List.mem_cons.1 hm' with rfl | hm'
              · exact absurd hid q
              · exact hm'
            have := ih2 hle2 hm2
            by_cases q2 : n'.id ∈ S
            · rw [if_neg (by simp [q2]), if_neg (by simp [q2])]; exact this
            · rw [if_pos (by simp [q, q2]), if_pos (by simp [q2])]
              simp only [List.length_cons]; omega
      by_cases q2 : n.id ∈ S
      · rw [if_neg (by simp [q2]), if_neg (by simp [q2])]; exact hi
      · rw [if_pos (by simp [q, q2]), if_pos (by simp [q2])]
        simp only [List.length_cons]; omega
end Go.Ch
end
section
set_option linter.unusedVariables false
namespace Go.Ch
open Go Go.Ab

def endS (g : List (List Tree) → Bool) (S : List Int) (pre : List (List Tree)) (W : List Vis) : List Int := S ++ idsV9 (stopY g pre W)
def endP (g : List (List Tree) → Bool) (pre : List (List Tree)) (W : List Vis) : List (List Tree) := pre ++ (stopY g pre W).map enc1
structure WOk (d : Doc) (Y : YSpec) (n : Nat) (S : List Int) (pre : List (List Tree)) (v : Vis) : Prop where
  has : hasN d.nodes v.id = true
  mu : muS d.nodes S < n
  adm : AdmY Y pre (walkV d.nodes n S v)
variable {d : Doc} {Y : YSpec} {n : Nat} {S0 S : List Int} {pre0 pre : List (List Tree)} {v : Vis} {X R : List Vis} {k : Vis}
/-- What was done for the kids X of v. -/
structure KI (d : Doc) (Y : YSpec) (n : Nat) (S0 : List Int) (pre0 : List (List Tree)) (v : Vis) (X : List Vis) (S : List Int) (pre : List (List Tree)) : Prop where
  s : S = S0 ++ idsV9 (v :: walkL (walkV d.nodes n) (S0 ++ [v.id]) X)
  p : pre = pre0 ++ (v :: walkL (walkV d.nodes n) (S0 ++ [v.id]) X).map enc1
  go : contY Y.goes pre0 (v :: walkL (walkV d.nodes n) (S0 ++ [v.id]) X) = true
theorem walkV_in (h : v.id ∈ S0) : walkV d.nodes (n + 1) S0 v = [] := by rw [walkV, if_pos h]
theorem walkV_new (h : v.id ∉ S0) : walkV d.nodes (n + 1) S0 v = v :: walkL (walkV d.nodes n) (S0 ++ [v.id]) (kidsV d.nodes v) := by rw [walkV, if_neg h]
theorem WOk.adm0 (h : WOk d Y (n + 1) S0 pre0 v) (hv : v.id ∉ S0) : Y.adm pre0 [visT v] := by
  have := h.adm
  rw [walkV_new hv] at this
  exact this.1
theorem KI.start (hg : Y.goes (pre0 ++ [[visT v]]) = true) : KI d Y n S0 pre0 v [] (S0 ++ [v.id]) (pre0 ++ [[visT v]]) :=
  ⟨by simp [walkL, idsV9], by simp [walkL, enc1], by rw [walkL, contY, if_pos (show Y.goes (pre0 ++ [enc1 v]) = true from hg)]; rfl⟩
theorem walkL_kid (S : List Int) (X R : List Vis) (k : Vis) : walkL (walkV d.nodes n) S (X ++ k :: R) = walkL (walkV d.nodes n) S X ++ (walkV d.nodes n (S ++ idsV9 (walkL (walkV d.nodes n) S X)) k ++ walkL (walkV d.nodes n) (S ++ idsV9 (walkL (walkV d.nodes n) S X) ++ idsV9 (walkV d.nodes n (S ++ idsV9 (walkL (walkV d.nodes n) S X)) k)) R) := by
  rw [walkL_app, walkL]
theorem KI.sEq (h : KI d Y n S0 pre0 v X S pre) : S = S0 ++ [v.id] ++ idsV9 (walkL (walkV d.nodes n) (S0 ++ [v.id]) X) := by rw [h.s]; simp [idsV9]
theorem KI.call (h : KI d Y n S0 pre0 v X S pre) (hw : WOk d Y (n + 1) S0 pre0 v) (hv : v.id ∉ S0) (hk : kidsV d.nodes v = X ++ k :: R) (hh : hasN d.nodes k.id = true) : WOk d Y n S pre k := by
  refine ⟨hh, ?_, ?_⟩
  · have h1 := muS_lt hw.has hv
    have h2 : muS d.nodes S ≤ muS d.nodes (S0 ++ [v.id]) := muS_le (fun x hx => by rw [h.sEq]; exact List.mem_append_left _ hx)
    have := hw.mu
    omega
  · have ha := hw.adm
    rw [walkV_new hv, hk, walkL_kid, ← h.sEq, ← List.cons_append] at ha
    have h1 := (adm_app ha).2 h.go
    rw [← h.p] at h1
    exact (adm_app h1).1
theorem KI.next (h : KI d Y n S0 pre0 v X S pre) (hc : contY Y.goes pre (walkV d.nodes n S k) = true) : KI d Y n S0 pre0 v (X ++ [k]) (endS Y.goes S pre (walkV d.nodes n S k)) (endP Y.goes pre (walkV d.nodes n S k)) := by
  have e : walkL (walkV d.nodes n) (S0 ++ [v.id]) (X ++ [k]) = walkL (walkV d.nodes n) (S0 ++ [v.id]) X ++ walkV d.nodes n S k := by
    rw [walkL_app, walkL_one, ← h.sEq]
  refine ⟨?_, ?_, ?_⟩
  · unfold endS
    rw [stop_all hc, e, ← List.cons_append, idsV9_app, ← List.append_assoc, ← h.s]
  · unfold endP
    rw [stop_all hc, e, ← List.cons_append, List.map_append, ← List.append_assoc, ← h.p]
  · rw [e, ← List.cons_append, (stop_go h.go).2, ← h.p]; exact hc
theorem KI.stop (h : KI d Y n S0 pre0 v X S pre) (hv : v.id ∉ S0) (hk : kidsV d.nodes v = X ++ k :: R) (hc : contY Y.goes pre (walkV d.nodes n S k) = false) :
    contY Y.goes pre0 (walkV d.nodes (n + 1) S0 v) = false ∧ endS Y.goes S0 pre0 (walkV d.nodes (n + 1) S0 v) = endS Y.goes S pre (walkV d.nodes n S k) ∧ endP Y.goes pre0 (walkV d.nodes (n + 1) S0 v) = endP Y.goes pre (walkV d.nodes n S k) := by
  rw [walkV_new hv, hk, walkL_kid, ← h.sEq, ← List.cons_append]
  unfold endS endP
  obtain ⟨h1, h2⟩ := stop_go (b := walkV d.nodes n S k ++ walkL (walkV d.nodes n) (S ++ idsV9 (walkV d.nodes n S k)) R) h.go
  rw [← h.p] at h1 h2
  obtain ⟨h3, h4⟩ := stop_end (b := walkL (walkV d.nodes n) (S ++ idsV9 (walkV d.nodes n S k)) R) hc
  refine ⟨h2.trans h4, ?_, ?_⟩
  · rw [h1, h3, idsV9_app, ← List.append_assoc, ← h.s]
  · rw [h1, h3, List.map_append, ← List.append_assoc, ← h.p]
theorem KI.done (h : KI d Y n S0 pre0 v X S pre) (hv : v.id ∉ S0) (hk : kidsV d.nodes v = X) :
    contY Y.goes pre0 (walkV d.nodes (n + 1) S0 v) = true ∧ endS Y.goes S0 pre0 (walkV d.nodes (n + 1) S0 v) = S ∧ endP Y.goes pre0 (walkV d.nodes (n + 1) S0 v) = pre := by
  rw [walkV_new hv, hk]
  unfold endS endP
  rw [stop_all h.go]
  exact ⟨h.go, h.s.symm, h.p.symm⟩
theorem stop_first (hv : v.id ∉ S0) (hg : Y.goes (pre0 ++ [[visT v]]) = false) :
    contY Y.goes pre0 (walkV d.nodes (n + 1) S0 v) = false ∧ endS Y.goes S0 pre0 (walkV d.nodes (n + 1) S0 v) = S0 ++ [v.id] ∧ endP Y.goes pre0 (walkV d.nodes (n + 1) S0 v) = pre0 ++ [[visT v]] := by
  rw [walkV_new hv]
  unfold endS endP
  have hg' : ¬ Y.goes (pre0 ++ [enc1 v]) = true := by rw [show enc1 v = [visT v] from rfl, hg]; decide
  rw [contY, stopY, if_neg hg', if_neg hg']
  exact ⟨rfl, rfl, rfl⟩
theorem end_in (hv : v.id ∈ S0) : contY Y.goes pre0 (walkV d.nodes (n + 1) S0 v) = true ∧ endS Y.goes S0 pre0 (walkV d.nodes (n + 1) S0 v) = S0 ∧ endP Y.goes pre0 (walkV d.nodes (n + 1) S0 v) = pre0 := by
  rw [walkV_in hv]
  unfold endS endP
  simp [stopY, contY, idsV9]
theorem putS_new {S : List Int} {k : Int} (h : k ∉ S) : putE (S.map onM) k (.im (TB true)) = (S ++ [k]).map onM := by
  rw [putS]
  congr 1
  induction S with
  | nil => rfl
  | cons x S ih =>
    rw [putK, if_neg (fun e => h (by rw [show k = x from e]; exact List.mem_cons_self)), ih (fun q => h (List.mem_cons_of_mem _ q))]
    rfl

/-! ### The kids of a node, one by one -/
theorem kids_has (hV : DocV d) (hk : hasN d.nodes v.id = true) {x : Vis} (hx : x ∈ kidsV d.nodes v) : hasN d.nodes x.id = true := by
  obtain ⟨hm, hid⟩ := nodeOf_mem hk
  unfold kidsV at hx
  rcases List.mem_append.1 hx with hx | hx
  · rcases List.mem_append.1 hx with hx | hx
    · obtain ⟨r, hr, rfl⟩ := List.mem_map.1 hx
      exact hV.ref hm (List.mem_append_left _ hr)
    · obtain ⟨c, hc, hx⟩ := List.mem_flatMap.1 hx
      unfold kidC at hx
      split at hx
      · rename_i q
        rw [List.mem_singleton.1 hx]
        exact hV.ref hm (List.mem_append_right _ (List.mem_filterMap.2 ⟨c, hc, if_pos q⟩))
      · cases hx
  · obtain ⟨r, hr, rfl⟩ := List.mem_map.1 hx
    exact items_has hr
theorem split_at {α : Type} [Inhabited α] {l : List α} {i : Nat} (h : i < l.length) : l = l.take i ++ l.getD i default :: l.drop (i + 1) := by
  have e : l.getD i default = l[i] := by rw [List.getD_eq_getElem?_getD, List.getElem?_eq_getElem h]; rfl
  rw [e, ← List.drop_eq_getElem_cons h, List.take_append_drop]
theorem takeD {α : Type} [Inhabited α] {l : List α} {i : Nat} (h : i < l.length) : l.take (i + 1) = l.take i ++ [l.getD i default] := by
  have e : l.getD i default = l[i] := by rw [List.getD_eq_getElem?_getD, List.getElem?_eq_getElem h]; rfl
  rw [List.take_succ_eq_append_getElem h, e]
def kidA (d : Doc) (v : Vis) (i : Nat) : List Vis := ((refsF (d.nodes.getD (lobN d.nodes v.id) default).flow).take i).map (kidR v)
def kidB (d : Doc) (v : Vis) (j : Nat) : List Vis := (refsF (d.nodes.getD (lobN d.nodes v.id) default).flow).map (kidR v) ++ ((d.nodes.getD (lobN d.nodes v.id) default).grid.cells.take j).flatMap (kidC (d.nodes.getD (lobN d.nodes v.id) default).grid v)
def kidI (d : Doc) (v : Vis) (i : Nat) : List Vis := (refsF (d.nodes.getD (lobN d.nodes v.id) default).flow).map (kidR v) ++ (d.nodes.getD (lobN d.nodes v.id) default).grid.cells.flatMap (kidC (d.nodes.getD (lobN d.nodes v.id) default).grid v) ++ ((itemsD d.nodes (d.nodes.getD (lobN d.nodes v.id) default)).take i).map (kidR v)
theorem kidA_at {i : Nat} (h : i < (refsF (d.nodes.getD (lobN d.nodes v.id) default).flow).length) : (∃ R, kidsV d.nodes v = kidA d v i ++ kidR v ((refsF (d.nodes.getD (lobN d.nodes v.id) default).flow).getD i default) :: R) ∧ kidA d v (i + 1) = kidA d v i ++ [kidR v ((refsF (d.nodes.getD (lobN d.nodes v.id) default).flow).getD i default)] := by
  refine ⟨⟨((refsF (d.nodes.getD (lobN d.nodes v.id) default).flow).drop (i + 1)).map (kidR v) ++ ((d.nodes.getD (lobN d.nodes v.id) default).grid.cells.flatMap (kidC (d.nodes.getD (lobN d.nodes v.id) default).grid v) ++ (itemsD d.nodes (d.nodes.getD (lobN d.nodes v.id) default)).map (kidR v)), ?_⟩, ?_⟩
  · have := split_at h
    unfold kidsV kidA
    conv => lhs; arg 1; arg 1; arg 2; rw [show nodeOf d.nodes v.id = (d.nodes.getD (lobN d.nodes v.id) default) from rfl, this]
    simp [nodeOf]
  · unfold kidA; rw [takeD h, List.map_append]; rfl
theorem kidB_zero : kidB d v 0 = kidA d v (refsF (d.nodes.getD (lobN d.nodes v.id) default).flow).length := by unfold kidA kidB; simp
theorem kidB_at {j : Nat} (h : j < (d.nodes.getD (lobN d.nodes v.id) default).grid.cells.length) : kidB d v (j + 1) = kidB d v j ++ kidC (d.nodes.getD (lobN d.nodes v.id) default).grid v ((d.nodes.getD (lobN d.nodes v.id) default).grid.cells.getD j default) ∧ ∃ R, kidsV d.nodes v = kidB d v j ++ kidC (d.nodes.getD (lobN d.nodes v.id) default).grid v ((d.nodes.getD (lobN d.nodes v.id) default).grid.cells.getD j default) ++ R := by
  refine ⟨by unfold kidB; rw [takeD h, List.flatMap_append]; simp, ⟨((d.nodes.getD (lobN d.nodes v.id) default).grid.cells.drop (j + 1)).flatMap (kidC (d.nodes.getD (lobN d.nodes v.id) default).grid v) ++ (itemsD d.nodes (d.nodes.getD (lobN d.nodes v.id) default)).map (kidR v), ?_⟩⟩
  have := split_at h
  unfold kidsV kidB
  conv => lhs; arg 1; arg 2; rw [show nodeOf d.nodes v.id = (d.nodes.getD (lobN d.nodes v.id) default) from rfl, this]
  simp [nodeOf]
theorem kidI_zero : kidI d v 0 = kidB d v (d.nodes.getD (lobN d.nodes v.id) default).grid.cells.length := by unfold kidI kidB; simp
theorem kidI_at {i : Nat} (h : i < (itemsD d.nodes (d.nodes.getD (lobN d.nodes v.id) default)).length) : (∃ R, kidsV d.nodes v = kidI d v i ++ kidR v ((itemsD d.nodes (d.nodes.getD (lobN d.nodes v.id) default)).getD i default) :: R) ∧ kidI d v (i + 1) = kidI d v i ++ [kidR v ((itemsD d.nodes (d.nodes.getD (lobN d.nodes v.id) default)).getD i default)] := by
  refine ⟨⟨((itemsD d.nodes (d.nodes.getD (lobN d.nodes v.id) default)).drop (i + 1)).map (kidR v), ?_⟩, ?_⟩
  · have := split_at h
    unfold kidsV kidI
    conv => lhs; arg 2; arg 2; rw [show nodeOf d.nodes v.id = (d.nodes.getD (lobN d.nodes v.id) default) from rfl, this]
    simp [nodeOf]
  · unfold kidI; rw [takeD h, List.map_append, ← List.append_assoc]; rfl
theorem kidI_end : kidsV d.nodes v = kidI d v (itemsD d.nodes (d.nodes.getD (lobN d.nodes v.id) default)).length := by unfold kidI kidsV; simp [nodeOf]
end Go.Ch
end
section
set_option linter.unusedVariables false
set_option linter.unusedSimpArgs false
set_option maxRecDepth 100000
set_option maxHeartbeats 4000000
open Go Go.Proofs Go.Ab
namespace Go.Ch
theorem fc_cover (x : Grid) (m n : Int) (hb : -1000000000000 ≤ m ∧ m ≤ 1000000000000 ∧ -1000000000000 ≤ n ∧ n ≤ 1000000000000) (hl : x.merges.length ≤ 100000000000) (hr : AllRB x.merges) : FC Tryz.prog 78 [.t (gridT x), VI m, VI n] (app emp []) (.t (rectT (covQ x.merges m n 0))) (app emp []) := by
 refine .go Tryz.f78 ?_
 refine .loop (α := Nat) [.r [], .r [], .r [(2, X (Xl rectT x.merges))]] 88 (fun i => ([(1, VI m), (2, VI n), (6, .ptr 8 0), (7, .ptr 40 0), (14, VL 4 rectT x.merges), (15, VI (x.merges.length : Int)), (16, VI (i : Int))], [(8, .box [VI 0, VI 0, VI 0, VI 0]), (40, .box [VI m, VI n, VI 1, VI 1])])) (fun i => i ≤ x.merges.length ∧ covQ x.merges m n 0 = covQ x.merges m n i) (fun i => x.merges.length - i) (0 : Nat) ?_ ?_
 ·
  exact ⟨by omega, rfl⟩
 rintro i I3 ih3
 try dsimp only at I3
 refine .br [.r []] (decide ((i : Int) < (x.merges.length : Int))) (fun h3 => ?_) (fun h3 => ?_)
 ·
  (try simp only [decide_eq_true_eq, decide_eq_false_iff_not, Int.not_lt, Int.not_le] at h3)
  have hm := hr _ (getDX_mem (l := x.merges) (i := i) (by omega))
  unfold RB at hm
  refine .br [.r [(0, X (Xi rectT x.merges (i : Int)))], .r [(7, Xv 1 (decide (m ≥ (((x.merges.getD i default)).row))) X0), (8, Xv 2 (decide (m ≥ (((x.merges.getD i default)).row))) (Xn (m - (((x.merges.getD i default)).row)))), (10, Xv 1 (decide (m ≥ (((x.merges.getD i default)).row))) X0), (11, Xv 2 (decide (m ≥ (((x.merges.getD i default)).row))) X0), (12, X (Xk (decide (m ≥ (((x.merges.getD i default)).row))))), (16, Xv 1 (decide (m ≥ (((x.merges.getD i default)).row)) && decide ((m - (((x.merges.getD i default)).row)) < (((x.merges.getD i default)).h))) X0), (17, Xv 2 (decide (m ≥ (((x.merges.getD i default)).row)) && decide ((m - (((x.merges.getD i default)).row)) < (((x.merges.getD i default)).h))) X0), (18, X (Xk (decide (m ≥ (((x.merges.getD i default)).row)) && decide ((m - (((x.merges.getD i default)).row)) < (((x.merges.getD i default)).h))))), (22, Xv 1 ((decide (m ≥ (((x.merges.getD i default)).row)) && decide ((m - (((x.merges.getD i default)).row)) < (((x.merges.getD i default)).h))) && decide (n ≥ (((x.merges.getD i default)).col))) X0), (23, Xv 2 ((decide (m ≥ (((x.merges.getD i default)).row)) && decide ((m - (((x.merges.getD i default)).row)) < (((x.merges.getD i default)).h))) && decide (n ≥ (((x.merges.getD i default)).col))) (Xn (n - (((x.merges.getD i default)).col)))), (25, Xv 1 ((decide (m ≥ (((x.merges.getD i default)).row)) && decide ((m - (((x.merges.getD i default)).row)) < (((x.merges.getD i default)).h))) && decide (n ≥ (((x.merges.getD i default)).col))) X0), (26, Xv 2 ((decide (m ≥ (((x.merges.getD i default)).row)) && decide ((m - (((x.merges.getD i default)).row)) < (((x.merges.getD i default)).h))) && decide (n ≥ (((x.merges.getD i default)).col))) X0), (27, X (Xk ((decide (m ≥ (((x.merges.getD i default)).row)) && decide ((m - (((x.merges.getD i default)).row)) < (((x.merges.getD i default)).h))) && decide (n ≥ (((x.merges.getD i default)).col)))))]] (((decide (m ≥ (((x.merges.getD i default)).row)) && decide ((m - (((x.merges.getD i default)).row)) < (((x.merges.getD i default)).h))) && decide (n ≥ (((x.merges.getD i default)).col))) && decide ((n - (((x.merges.getD i default)).col)) < (((x.merges.getD i default)).w))) (fun h5 => ?_) (fun h5 => ?_)
  ·
   (try simp only [decide_eq_true_eq, decide_eq_false_iff_not, Int.not_lt, Int.not_le, ge_iff_le, Bool.and_eq_true, Bool.and_eq_false_iff, Bool.not_eq_true', Bool.not_eq_false'] at h5)
   have e1 : ((covQ x.merges m n 0) : Rect) = ((x.merges.getD i default)) := by
    rw [I3.2, covQ, if_pos (by omega), if_pos (by (unfold inQ; rw [decide_eq_true_eq]; omega))]
   exact .finVE [.r []] [] [] (fun z0 => (.t (rectT z0), [])) (((x.merges.getD i default)) : Rect) ((covQ x.merges m n 0) : Rect) e1
  ·
   (try simp only [decide_eq_true_eq, decide_eq_false_iff_not, Int.not_lt, Int.not_le, ge_iff_le, Bool.and_eq_true, Bool.and_eq_false_iff, Bool.not_eq_true', Bool.not_eq_false'] at h5)
   refine .back [.r [(0, X (Xn ((i : Int) + 1)))]] [(8, 8), (40, 40)] (ih3 ((i + 1) : Nat) ?_ ?_)
   ·
    refine ⟨by omega, ?_⟩
    rw [I3.2, covQ, if_pos (by omega), if_neg (by (unfold inQ; rw [decide_eq_true_eq]; omega))]
   ·
    ((try dsimp only); omega)
 ·
  (try simp only [decide_eq_true_eq, decide_eq_false_iff_not, Int.not_lt, Int.not_le] at h3)
  have e2 : ((covQ x.merges m n 0) : Rect) = ({ row := m, col := n, h := 1, w := 1 } : Rect) := by
   rw [I3.2, covQ, if_neg (by omega)]
  exact .finVE [.r []] [] [] (fun z0 => (.t (rectT z0), [])) (({ row := m, col := n, h := 1, w := 1 } : Rect) : Rect) ((covQ x.merges m n 0) : Rect) e2

theorem fc_from1 (d : Doc) (Y : YSpec) (hY : YCalls Tryz.prog Y) (hV : DocV d) (n : Nat) (ih : ∀ (v : Vis) (S : List Int) (p : List (List Tree)), WOk d Y n S p v → FC Tryz.prog 75 [.t (visT v), .ptr 0 0, .ptr 1 0, .ptr 2 0, .ptr 3 0] (app emp [(0, .box [.hdl 4]), (1, .box [.yl 5]), (2, .box [VL 9 nodeT d.nodes]), (3, .box [.fn 75 [.ptr 0 0, .ptr 1 0, .ptr 2 0, .ptr 3 0]]), (4, .mp (List.map onM S) none), (5, .ext Y p)]) (VB (contY Y.goes p (walkV d.nodes n S v))) (app emp [(0, .box [.hdl 4]), (1, .box [.yl 5]), (2, .box [VL 9 nodeT d.nodes]), (3, .box [.fn 75 [.ptr 0 0, .ptr 1 0, .ptr 2 0, .ptr 3 0]]), (4, .mp (List.map onM (endS Y.goes S p (walkV d.nodes n S v))) none), (5, .ext Y (endP Y.goes p (walkV d.nodes n S v)))])) (v : Vis) (S : List Int) (p : List (List Tree)) (hw : WOk d Y (n + 1) S p v) : FC Tryz.prog 75 [.t (visT v), .ptr 0 0, .ptr 1 0, .ptr 2 0, .ptr 3 0] (app emp [(0, .box [.hdl 4]), (1, .box [.yl 5]), (2, .box [VL 9 nodeT d.nodes]), (3, .box [.fn 75 [.ptr 0 0, .ptr 1 0, .ptr 2 0, .ptr 3 0]]), (4, .mp (List.map onM S) none), (5, .ext Y p)]) (VB (contY Y.goes p (walkV d.nodes (n + 1) S v))) (app emp [(0, .box [.hdl 4]), (1, .box [.yl 5]), (2, .box [VL 9 nodeT d.nodes]), (3, .box [.fn 75 [.ptr 0 0, .ptr 1 0, .ptr 2 0, .ptr 3 0]]), (4, .mp (List.map onM (endS Y.goes S p (walkV d.nodes (n + 1) S v))) none), (5, .ext Y (endP Y.goes p (walkV d.nodes (n + 1) S v)))]) := by
 refine .go Tryz.f75 ?_
 have hs := hV.srt
 have hl := hV.b.len
 obtain ⟨hlt, hid⟩ := hasN_iff.1 hw.has
 have hmem := (nodeOf_mem hw.has).1
 have hnb := hV.b.all _ hmem
 have hne := hV.node hmem
 obtain ⟨hrb, hcb⟩ := grid_of hne
 unfold nodeOf at hmem hnb hne hrb hcb
 have c1 := hnb.fl2
 have c2 := hnb.ce2
 have c3 := hnb.me
 have c4 : (refsF (d.nodes.getD (lobN d.nodes v.id) default).flow).length ≤ (d.nodes.getD (lobN d.nodes v.id) default).flow.length := List.length_filterMap_le _ _
 have c5 := items_len (l := d.nodes) hnb hne
 refine .br [.r [], .r [(3, X (Xmt (List.map onM S) v.id (TB false) (TB (decide (v.id ∈ S)))) lookS)]] (decide (v.id ∈ S)) (fun h1 => ?_) (fun h1 => ?_)
 ·
  (try simp only [decide_eq_true_eq, decide_eq_false_iff_not, Int.not_lt, Int.not_le] at h1)
  have e1 : ((endS Y.goes S p (walkV d.nodes (n + 1) S v)) : List Int) = S := by
   first | exact (end_in h1).1 | exact (end_in h1).2.1 | exact (end_in h1).2.2 | exact (end_in h1).1.symm | exact (end_in h1).2.1.symm | exact (end_in h1).2.2.symm
  have e2 : ((endP Y.goes p (walkV d.nodes (n + 1) S v)) : List (List Tree)) = p := by
   first | exact (end_in h1).1 | exact (end_in h1).2.1 | exact (end_in h1).2.2 | exact (end_in h1).1.symm | exact (end_in h1).2.1.symm | exact (end_in h1).2.2.symm
  have e3 : ((contY Y.goes p (walkV d.nodes (n + 1) S v)) : Bool) = true := by
   first | exact (end_in h1).1 | exact (end_in h1).2.1 | exact (end_in h1).2.2 | exact (end_in h1).1.symm | exact (end_in h1).2.1.symm | exact (end_in h1).2.2.symm
  exact .finE [.r []] [(0, 0), (1, 1), (2, 2), (3, 3), (4, 4), (5, 5)] (fun (z0, z1, z2) => (VB z2, [(0, .box [.hdl 4]), (1, .box [.yl 5]), (2, .box [VL 9 nodeT d.nodes]), (3, .box [.fn 75 [.ptr 0 0, .ptr 1 0, .ptr 2 0, .ptr 3 0]]), (4, .mp (List.map onM z0) none), (5, .ext Y z1)])) ((S : List Int), (p : List (List Tree)), (true : Bool)) (((endS Y.goes S p (walkV d.nodes (n + 1) S v)) : List Int), ((endP Y.goes p (walkV d.nodes (n + 1) S v)) : List (List Tree)), ((contY Y.goes p (walkV d.nodes (n + 1) S v)) : Bool)) (pr e1 (pr e2 e3))
 ·
  (try simp only [decide_eq_true_eq, decide_eq_false_iff_not, Int.not_lt, Int.not_le] at h1)
  refine .br [.r [(3, X (Xmu onM S (S ++ [v.id]) v.id 4 (.im (TB true))) (putS_new h1))], .r [(2, X (Xy Tryz.prog Y p [visT v]) (⟨hY, hw.adm0 h1⟩))]] (!(Y.goes (p ++ [[visT v]]))) (fun h4 => ?_) (fun h4 => ?_)
  ·
   (try simp only [Bool.not_eq_true', Bool.not_eq_false'] at h4)
   have e4 : ((endS Y.goes S p (walkV d.nodes (n + 1) S v)) : List Int) = (S ++ [v.id]) := by
    first | exact (stop_first h1 h4).1 | exact (stop_first h1 h4).2.1 | exact (stop_first h1 h4).2.2 | exact (stop_first h1 h4).1.symm | exact (stop_first h1 h4).2.1.symm | exact (stop_first h1 h4).2.2.symm
   have e5 : ((endP Y.goes p (walkV d.nodes (n + 1) S v)) : List (List Tree)) = (p ++ [[visT v]]) := by
    first | exact (stop_first h1 h4).1 | exact (stop_first h1 h4).2.1 | exact (stop_first h1 h4).2.2 | exact (stop_first h1 h4).1.symm | exact (stop_first h1 h4).2.1.symm | exact (stop_first h1 h4).2.2.symm
   have e6 : ((contY Y.goes p (walkV d.nodes (n + 1) S v)) : Bool) = false := by
    first | exact (stop_first h1 h4).1 | exact (stop_first h1 h4).2.1 | exact (stop_first h1 h4).2.2 | exact (stop_first h1 h4).1.symm | exact (stop_first h1 h4).2.1.symm | exact (stop_first h1 h4).2.2.symm
   exact .finE [.r []] [(0, 0), (1, 1), (2, 2), (3, 3), (4, 4), (5, 5)] (fun (z0, z1, z2) => (VB z2, [(0, .box [.hdl 4]), (1, .box [.yl 5]), (2, .box [VL 9 nodeT d.nodes]), (3, .box [.fn 75 [.ptr 0 0, .ptr 1 0, .ptr 2 0, .ptr 3 0]]), (4, .mp (List.map onM z0) none), (5, .ext Y z1)])) (((S ++ [v.id]) : List Int), ((p ++ [[visT v]]) : List (List Tree)), (false : Bool)) (((endS Y.goes S p (walkV d.nodes (n + 1) S v)) : List Int), ((endP Y.goes p (walkV d.nodes (n + 1) S v)) : List (List Tree)), ((contY Y.goes p (walkV d.nodes (n + 1) S v)) : Bool)) (pr e4 (pr e5 e6))
  ·
   (try simp only [Bool.not_eq_true', Bool.not_eq_false'] at h4)
   refine .loop (α := Nat × List Int × List (List Tree)) [.r [(3, X (Xc0 (fc_findN d v.id (by assumption) (by assumption)) X0))], .r [(3, X (Xi nodeT d.nodes (lobN (d).nodes v.id : Int)))], .r [(2, X (Xc1 262 (fc_refsFl (((d.nodes.getD (lobN (d).nodes v.id) default)).flow) (by omega)) X0))]] 286 (fun (i, S2, p2) => ([(3, .ptr 2 0), (4, .ptr 3 0), (5, .ptr 6 0), (9, .ptr 230 0), (42, .row 262 ((refsF (((d.nodes.getD (lobN (d).nodes v.id) default)).flow)).length)), (43, VI ((refsF (((d.nodes.getD (lobN (d).nodes v.id) default)).flow)).length : Int)), (44, VI (i : Int))], [(0, .box [.hdl 4]), (1, .box [.yl 5]), (2, .box [VL 9 nodeT d.nodes]), (3, .box [.fn 75 [.ptr 0 0, .ptr 1 0, .ptr 2 0, .ptr 3 0]]), (4, .mp (List.map onM S2) none), (5, .ext Y p2), (6, .box [VI v.id, VI v.parent, VB v.vis]), (230, .box [VI (((d.nodes.getD (lobN (d).nodes v.id) default)).id), VI (((d.nodes.getD (lobN (d).nodes v.id) default)).kind), VL 2 attrT (((d.nodes.getD (lobN (d).nodes v.id) default)).attrs), VL 3 elemT (((d.nodes.getD (lobN (d).nodes v.id) default)).flow), VI ((((d.nodes.getD (lobN (d).nodes v.id) default)).grid).rows), VI ((((d.nodes.getD (lobN (d).nodes v.id) default)).grid).cols), VL 5 cellT ((((d.nodes.getD (lobN (d).nodes v.id) default)).grid).cells), VL 4 rectT ((((d.nodes.getD (lobN (d).nodes v.id) default)).grid).merges), VL 8 dopT (((d.nodes.getD (lobN (d).nodes v.id) default)).draw)]), (262, OR 1 intT (refsF (((d.nodes.getD (lobN (d).nodes v.id) default)).flow)))])) (fun (i, S2, p2) => i ≤ (refsF (d.nodes.getD (lobN d.nodes v.id) default).flow).length ∧ KI d Y n S p v (kidA d v i) S2 p2) (fun (i, S2, p2) => (refsF (d.nodes.getD (lobN d.nodes v.id) default).flow).length - i) (0, (S ++ [v.id]), (p ++ [[visT v]])) ?_ ?_
   ·
    exact ⟨Nat.zero_le _, KI.start h4⟩
   rintro ⟨i, S2, p2⟩ I9 ih9
   try dsimp only at I9
   refine .br [.r []] (decide ((i : Int) < ((refsF (((d.nodes.getD (lobN (d).nodes v.id) default)).flow)).length : Int))) (fun h9 => ?_) (fun h9 => ?_)
   ·
    (try simp only [decide_eq_true_eq, decide_eq_false_iff_not, Int.not_lt, Int.not_le] at h9)
    obtain ⟨⟨R, hR⟩, hnx⟩ := kidA_at (d := d) (v := v) (i := i) (by omega)
    have hcall : WOk d Y n S2 p2 ({ id := ((refsF (d.nodes.getD (lobN d.nodes v.id) default).flow).getD i default), parent := v.id, vis := v.vis } : Vis) := KI.call I9.2 hw h1 hR (kids_has hV hw.has (by rw [hR]; exact List.mem_append_right _ List.mem_cons_self))
    refine .br [.r [(0, X (Xp intT (refsF (((d.nodes.getD (lobN (d).nodes v.id) default)).flow)) (i : Int))), (1, X (Xe intT (refsF (((d.nodes.getD (lobN (d).nodes v.id) default)).flow)) i))], .r [(7, X (Xc3 374 [(0, 0), (1, 1), (2, 2), (3, 3), (4, 4), (5, 5)] (ih ({ id := ((refsF (((d.nodes.getD (lobN (d).nodes v.id) default)).flow)).getD i default), parent := v.id, vis := v.vis } : Vis) S2 p2 (by assumption)) X0))]] (!(contY Y.goes p2 (walkV d.nodes n S2 ({ id := ((refsF (((d.nodes.getD (lobN (d).nodes v.id) default)).flow)).getD i default), parent := v.id, vis := v.vis } : Vis)))) (fun h11 => ?_) (fun h11 => ?_)
    ·
     (try simp only [Bool.not_eq_true', Bool.not_eq_false'] at h11)
     have e7 : ((endS Y.goes S p (walkV d.nodes (n + 1) S v)) : List Int) = (endS Y.goes S2 p2 (walkV d.nodes n S2 ({ id := ((refsF (((d.nodes.getD (lobN (d).nodes v.id) default)).flow)).getD i default), parent := v.id, vis := v.vis } : Vis))) := by
      first | exact (KI.stop I9.2 h1 hR h11).1 | exact (KI.stop I9.2 h1 hR h11).2.1 | exact (KI.stop I9.2 h1 hR h11).2.2 | exact (KI.stop I9.2 h1 hR h11).1.symm | exact (KI.stop I9.2 h1 hR h11).2.1.symm | exact (KI.stop I9.2 h1 hR h11).2.2.symm
     have e8 : ((endP Y.goes p (walkV d.nodes (n + 1) S v)) : List (List Tree)) = (endP Y.goes p2 (walkV d.nodes n S2 ({ id := ((refsF (((d.nodes.getD (lobN (d).nodes v.id) default)).flow)).getD i default), parent := v.id, vis := v.vis } : Vis))) := by
      first | exact (KI.stop I9.2 h1 hR h11).1 | exact (KI.stop I9.2 h1 hR h11).2.1 | exact (KI.stop I9.2 h1 hR h11).2.2 | exact (KI.stop I9.2 h1 hR h11).1.symm | exact (KI.stop I9.2 h1 hR h11).2.1.symm | exact (KI.stop I9.2 h1 hR h11).2.2.symm
     have e9 : ((contY Y.goes p (walkV d.nodes (n + 1) S v)) : Bool) = false := by
      first | exact (KI.stop I9.2 h1 hR h11).1 | exact (KI.stop I9.2 h1 hR h11).2.1 | exact (KI.stop I9.2 h1 hR h11).2.2 | exact (KI.stop I9.2 h1 hR h11).1.symm | exact (KI.stop I9.2 h1 hR h11).2.1.symm | exact (KI.stop I9.2 h1 hR h11).2.2.symm
     exact .finE [.r []] [(0, 0), (1, 1), (2, 2), (3, 3), (4, 4), (5, 5)] (fun (z0, z1, z2) => (VB z2, [(0, .box [.hdl 4]), (1, .box [.yl 5]), (2, .box [VL 9 nodeT d.nodes]), (3, .box [.fn 75 [.ptr 0 0, .ptr 1 0, .ptr 2 0, .ptr 3 0]]), (4, .mp (List.map onM z0) none), (5, .ext Y z1)])) (((endS Y.goes S2 p2 (walkV d.nodes n S2 ({ id := ((refsF (((d.nodes.getD (lobN (d).nodes v.id) default)).flow)).getD i default), parent := v.id, vis := v.vis } : Vis))) : List Int), ((endP Y.goes p2 (walkV d.nodes n S2 ({ id := ((refsF (((d.nodes.getD (lobN (d).nodes v.id) default)).flow)).getD i default), parent := v.id, vis := v.vis } : Vis))) : List (List Tree)), (false : Bool)) (((endS Y.goes S p (walkV d.nodes (n + 1) S v)) : List Int), ((endP Y.goes p (walkV d.nodes (n + 1) S v)) : List (List Tree)), ((contY Y.goes p (walkV d.nodes (n + 1) S v)) : Bool)) (pr e7 (pr e8 e9))
    ·
     (try simp only [Bool.not_eq_true', Bool.not_eq_false'] at h11)
     refine .back [.r [(0, X (Xn ((i : Int) + 1)))]] [(0, 0), (1, 1), (2, 2), (3, 3), (4, 4), (5, 5), (6, 6), (230, 230), (262, 262)] (ih9 ((i + 1), (endS Y.goes S2 p2 (walkV d.nodes n S2 ({ id := ((refsF (((d.nodes.getD (lobN (d).nodes v.id) default)).flow)).getD i default), parent := v.id, vis := v.vis } : Vis))), (endP Y.goes p2 (walkV d.nodes n S2 ({ id := ((refsF (((d.nodes.getD (lobN (d).nodes v.id) default)).flow)).getD i default), parent := v.id, vis := v.vis } : Vis)))) ?_ ?_)
     ·
      refine ⟨by omega, ?_⟩
      rw [hnx]; exact I9.2.next h11
     ·
      ((try dsimp only); omega)
   ·
    (try simp only [decide_eq_true_eq, decide_eq_false_iff_not, Int.not_lt, Int.not_le] at h9)
    refine .loop (α := Nat × List Int × List (List Tree)) [.r [(3, X (Xl cellT ((((d.nodes.getD (lobN (d).nodes v.id) default)).grid).cells)))]] 334 (fun (j, S3, p3) => ([(3, .ptr 2 0), (4, .ptr 3 0), (5, .ptr 6 0), (9, .ptr 230 0), (60, VL 5 cellT ((((d.nodes.getD (lobN (d).nodes v.id) default)).grid).cells)), (61, VI (((((d.nodes.getD (lobN (d).nodes v.id) default)).grid).cells).length : Int)), (62, VI (j : Int))], [(0, .box [.hdl 4]), (1, .box [.yl 5]), (2, .box [VL 9 nodeT d.nodes]), (3, .box [.fn 75 [.ptr 0 0, .ptr 1 0, .ptr 2 0, .ptr 3 0]]), (4, .mp (List.map onM S3) none), (5, .ext Y p3), (6, .box [VI v.id, VI v.parent, VB v.vis]), (230, .box [VI (((d.nodes.getD (lobN (d).nodes v.id) default)).id), VI (((d.nodes.getD (lobN (d).nodes v.id) default)).kind), VL 2 attrT (((d.nodes.getD (lobN (d).nodes v.id) default)).attrs), VL 3 elemT (((d.nodes.getD (lobN (d).nodes v.id) default)).flow), VI ((((d.nodes.getD (lobN (d).nodes v.id) default)).grid).rows), VI ((((d.nodes.getD (lobN (d).nodes v.id) default)).grid).cols), VL 5 cellT ((((d.nodes.getD (lobN (d).nodes v.id) default)).grid).cells), VL 4 rectT ((((d.nodes.getD (lobN (d).nodes v.id) default)).grid).merges), VL 8 dopT (((d.nodes.getD (lobN (d).nodes v.id) default)).draw)])])) (fun (j, S3, p3) => j ≤ (d.nodes.getD (lobN d.nodes v.id) default).grid.cells.length ∧ KI d Y n S p v (kidB d v j) S3 p3) (fun (j, S3, p3) => (d.nodes.getD (lobN d.nodes v.id) default).grid.cells.length - j) (0, S2, p2) ?_ ?_
    ·
     exact ⟨Nat.zero_le _, by rw [kidB_zero, show (refsF (d.nodes.getD (lobN d.nodes v.id) default).flow).length = i by omega]; exact I9.2⟩
    rintro ⟨j, S3, p3⟩ I15 ih15
    try dsimp only at I15
    refine .br [.r []] (decide ((j : Int) < (((((d.nodes.getD (lobN (d).nodes v.id) default)).grid).cells).length : Int))) (fun h15 => ?_) (fun h15 => ?_)
    ·
     (try simp only [decide_eq_true_eq, decide_eq_false_iff_not, Int.not_lt, Int.not_le] at h15)
     have hcc := hcb _ (getDX_mem (l := (d.nodes.getD (lobN d.nodes v.id) default).grid.cells) (i := j) (by omega))
     refine .mid [.r [(0, X (Xi cellT ((((d.nodes.getD (lobN (d).nodes v.id) default)).grid).cells) (j : Int)))], .r [(6, X (Xc0 (fc_cover (((d.nodes.getD (lobN (d).nodes v.id) default)).grid) (((((((d.nodes.getD (lobN (d).nodes v.id) default)).grid).cells).getD j default)).row) (((((((d.nodes.getD (lobN (d).nodes v.id) default)).grid).cells).getD j default)).col) (by omega) (by omega) (by assumption)) X0))]] ?_
     obtain ⟨hnx, R, hR⟩ := kidB_at (d := d) (v := v) (j := j) (by omega)
     by_cases hr : ((d.nodes.getD (lobN d.nodes v.id) default).grid.cells.getD j default).ref = 0
     ·
      refine .br [.r [(2, X (Xbv ((((((((d.nodes.getD (lobN (d).nodes v.id) default)).grid).cells).getD j default)).ref) != 0) false) (by rw [hr]; rfl)), (4, X (Xskip false (.junk)) rfl), (5, X (Xskip false (.junk)) rfl), (6, X (Xskip false (.junk)) rfl), (7, X (Xskip false (.junk)) rfl), (8, X (Xskip false (.junk)) rfl), (9, X (Xskip false (.junk)) rfl), (10, X (Xskip false (VB false)) rfl), (11, X (Xskip false (VB false)) rfl), (12, X (Xskip (false && false) (.junk)) rfl), (13, X (Xskip (false && false) (.junk)) rfl), (14, X (Xskip (false && false) (.junk)) rfl), (15, X (Xskip (false && false) (.junk)) rfl), (16, X (Xskip (false && false) (VB false)) rfl), (17, X (Xskip false (VB false)) rfl), (18, X (Xskip false (VB false)) rfl), (19, X (Xskip (false && false) (.junk)) rfl), (20, X (Xskip (false && false) (.junk)) rfl), (21, X (Xskip (false && false) (.junk)) rfl), (22, X (Xskip (false && false) (.junk)) rfl), (23, X (Xskip (false && false) (VB false)) rfl), (24, X (Xskip false (VB false)) rfl), (25, X (Xskip false (.junk)) rfl), (26, X (Xskip false (.junk)) rfl), (27, X (Xskip false (VB false)) rfl), (28, X (Xk false))]] (false && false) (fun h18 => ?_) (fun h18 => ?_)
      ·
       (try simp only [Bool.and_eq_true, Bool.and_eq_false_iff, Bool.not_eq_true', Bool.not_eq_false'] at h18)
       exfalso
       simp at h18
      ·
       (try simp only [Bool.and_eq_true, Bool.and_eq_false_iff, Bool.not_eq_true', Bool.not_eq_false'] at h18)
       refine .back [.r [(0, X (Xn ((j : Int) + 1)))]] [(0, 0), (1, 1), (2, 2), (3, 3), (4, 4), (5, 5), (6, 6), (230, 230)] (ih15 ((j + 1), S3, p3) ?_ ?_)
       ·
        refine ⟨by omega, ?_⟩
        rw [hnx, kidC, if_neg (fun q => q hr), List.append_nil]; exact I15.2
       ·
        ((try dsimp only); omega)
     ·
      rw [show kidC (d.nodes.getD (lobN d.nodes v.id) default).grid v ((d.nodes.getD (lobN d.nodes v.id) default).grid.cells.getD j default) = [({ id := ((d.nodes.getD (lobN d.nodes v.id) default).grid.cells.getD j default).ref, parent := v.id, vis := visC (d.nodes.getD (lobN d.nodes v.id) default).grid v.vis ((d.nodes.getD (lobN d.nodes v.id) default).grid.cells.getD j default) } : Vis)] from if_pos hr] at hnx hR
      rw [List.append_assoc, List.singleton_append] at hR
      have hcall : WOk d Y n S3 p3 ({ id := ((d.nodes.getD (lobN d.nodes v.id) default).grid.cells.getD j default).ref, parent := v.id, vis := visC (d.nodes.getD (lobN d.nodes v.id) default).grid v.vis ((d.nodes.getD (lobN d.nodes v.id) default).grid.cells.getD j default) } : Vis) := KI.call I15.2 hw h1 hR (kids_has hV hw.has (by rw [hR]; exact List.mem_append_right _ List.mem_cons_self))
      refine .br [.r [(2, X (Xbv ((((((((d.nodes.getD (lobN (d).nodes v.id) default)).grid).cells).getD j default)).ref) != 0) true) (by simpa using hr)), (6, Xv 1 true X0), (8, Xv 1 true X0), (10, Xv 1 true X0), (11, Xv 1 true X0), (13, Xv 1 (true && v.vis) X0), (15, Xv 1 (true && v.vis) X0), (16, Xv 2 (true && v.vis) X0), (17, Xka true v.vis), (18, Xv 1 true X0), (20, Xv 1 (true && (v.vis && ((((covQ ((((d.nodes.getD (lobN (d).nodes v.id) default)).grid)).merges (((((((d.nodes.getD (lobN (d).nodes v.id) default)).grid).cells).getD j default)).row) (((((((d.nodes.getD (lobN (d).nodes v.id) default)).grid).cells).getD j default)).col) 0)).row) == (((((((d.nodes.getD (lobN (d).nodes v.id) default)).grid).cells).getD j default)).row)))) X0), (22, Xv 1 (true && (v.vis && ((((covQ ((((d.nodes.getD (lobN (d).nodes v.id) default)).grid)).merges (((((((d.nodes.getD (lobN (d).nodes v.id) default)).grid).cells).getD j default)).row) (((((((d.nodes.getD (lobN (d).nodes v.id) default)).grid).cells).getD j default)).col) 0)).row) == (((((((d.nodes.getD (lobN (d).nodes v.id) default)).grid).cells).getD j default)).row)))) X0), (23, Xv 2 (true && (v.vis && ((((covQ ((((d.nodes.getD (lobN (d).nodes v.id) default)).grid)).merges (((((((d.nodes.getD (lobN (d).nodes v.id) default)).grid).cells).getD j default)).row) (((((((d.nodes.getD (lobN (d).nodes v.id) default)).grid).cells).getD j default)).col) 0)).row) == (((((((d.nodes.getD (lobN (d).nodes v.id) default)).grid).cells).getD j default)).row)))) X0), (24, Xka true (v.vis && ((((covQ ((((d.nodes.getD (lobN (d).nodes v.id) default)).grid)).merges (((((((d.nodes.getD (lobN (d).nodes v.id) default)).grid).cells).getD j default)).row) (((((((d.nodes.getD (lobN (d).nodes v.id) default)).grid).cells).getD j default)).col) 0)).row) == (((((((d.nodes.getD (lobN (d).nodes v.id) default)).grid).cells).getD j default)).row)))), (25, Xv 3 true X0), (26, Xw true (Xq true (Xq true (Xc3 654 [(0, 0), (1, 1), (2, 2), (3, 3), (4, 4), (5, 5)] (ih ({ id := ((((((d.nodes.getD (lobN (d).nodes v.id) default)).grid).cells).getD j default)).ref, parent := v.id, vis := ((v.vis && ((((covQ ((((d.nodes.getD (lobN (d).nodes v.id) default)).grid)).merges (((((((d.nodes.getD (lobN (d).nodes v.id) default)).grid).cells).getD j default)).row) (((((((d.nodes.getD (lobN (d).nodes v.id) default)).grid).cells).getD j default)).col) 0)).row) == (((((((d.nodes.getD (lobN (d).nodes v.id) default)).grid).cells).getD j default)).row))) && ((((covQ ((((d.nodes.getD (lobN (d).nodes v.id) default)).grid)).merges (((((((d.nodes.getD (lobN (d).nodes v.id) default)).grid).cells).getD j default)).row) (((((((d.nodes.getD (lobN (d).nodes v.id) default)).grid).cells).getD j default)).col) 0)).col) == (((((((d.nodes.getD (lobN (d).nodes v.id) default)).grid).cells).getD j default)).col))) } : Vis) S3 p3 (by assumption)) X0))) (rfl) (by first | omega | (simp; omega) | (simp; done) | assumption)), (27, Xv 1 true X0), (28, X (Xk true))]] (true && !(contY Y.goes p3 (walkV d.nodes n S3 ({ id := ((((((d.nodes.getD (lobN (d).nodes v.id) default)).grid).cells).getD j default)).ref, parent := v.id, vis := ((v.vis && ((((covQ ((((d.nodes.getD (lobN (d).nodes v.id) default)).grid)).merges (((((((d.nodes.getD (lobN (d).nodes v.id) default)).grid).cells).getD j default)).row) (((((((d.nodes.getD (lobN (d).nodes v.id) default)).grid).cells).getD j default)).col) 0)).row) == (((((((d.nodes.getD (lobN (d).nodes v.id) default)).grid).cells).getD j default)).row))) && ((((covQ ((((d.nodes.getD (lobN (d).nodes v.id) default)).grid)).merges (((((((d.nodes.getD (lobN (d).nodes v.id) default)).grid).cells).getD j default)).row) (((((((d.nodes.getD (lobN (d).nodes v.id) default)).grid).cells).getD j default)).col) 0)).col) == (((((((d.nodes.getD (lobN (d).nodes v.id) default)).grid).cells).getD j default)).col))) } : Vis)))) (fun h18 => ?_) (fun h18 => ?_)
      ·
       (try simp only [Bool.not_eq_true', Bool.not_eq_false', Bool.and_eq_true, Bool.and_eq_false_iff, beq_iff_eq, beq_eq_false_iff_ne, ne_eq] at h18)
       have e10 : ((endS Y.goes S p (walkV d.nodes (n + 1) S v)) : List Int) = (endS Y.goes S3 p3 (walkV d.nodes n S3 ({ id := ((((((d.nodes.getD (lobN (d).nodes v.id) default)).grid).cells).getD j default)).ref, parent := v.id, vis := ((v.vis && ((((covQ ((((d.nodes.getD (lobN (d).nodes v.id) default)).grid)).merges (((((((d.nodes.getD (lobN (d).nodes v.id) default)).grid).cells).getD j default)).row) (((((((d.nodes.getD (lobN (d).nodes v.id) default)).grid).cells).getD j default)).col) 0)).row) == (((((((d.nodes.getD (lobN (d).nodes v.id) default)).grid).cells).getD j default)).row))) && ((((covQ ((((d.nodes.getD (lobN (d).nodes v.id) default)).grid)).merges (((((((d.nodes.getD (lobN (d).nodes v.id) default)).grid).cells).getD j default)).row) (((((((d.nodes.getD (lobN (d).nodes v.id) default)).grid).cells).getD j default)).col) 0)).col) == (((((((d.nodes.getD (lobN (d).nodes v.id) default)).grid).cells).getD j default)).col))) } : Vis))) := by
        first | exact (KI.stop I15.2 h1 hR h18.2).1 | exact (KI.stop I15.2 h1 hR h18.2).2.1 | exact (KI.stop I15.2 h1 hR h18.2).2.2 | exact (KI.stop I15.2 h1 hR h18.2).1.symm | exact (KI.stop I15.2 h1 hR h18.2).2.1.symm | exact (KI.stop I15.2 h1 hR h18.2).2.2.symm
       have e11 : ((endP Y.goes p (walkV d.nodes (n + 1) S v)) : List (List Tree)) = (endP Y.goes p3 (walkV d.nodes n S3 ({ id := ((((((d.nodes.getD (lobN (d).nodes v.id) default)).grid).cells).getD j default)).ref, parent := v.id, vis := ((v.vis && ((((covQ ((((d.nodes.getD (lobN (d).nodes v.id) default)).grid)).merges (((((((d.nodes.getD (lobN (d).nodes v.id) default)).grid).cells).getD j default)).row) (((((((d.nodes.getD (lobN (d).nodes v.id) default)).grid).cells).getD j default)).col) 0)).row) == (((((((d.nodes.getD (lobN (d).nodes v.id) default)).grid).cells).getD j default)).row))) && ((((covQ ((((d.nodes.getD (lobN (d).nodes v.id) default)).grid)).merges (((((((d.nodes.getD (lobN (d).nodes v.id) default)).grid).cells).getD j default)).row) (((((((d.nodes.getD (lobN (d).nodes v.id) default)).grid).cells).getD j default)).col) 0)).col) == (((((((d.nodes.getD (lobN (d).nodes v.id) default)).grid).cells).getD j default)).col))) } : Vis))) := by
        first | exact (KI.stop I15.2 h1 hR h18.2).1 | exact (KI.stop I15.2 h1 hR h18.2).2.1 | exact (KI.stop I15.2 h1 hR h18.2).2.2 | exact (KI.stop I15.2 h1 hR h18.2).1.symm | exact (KI.stop I15.2 h1 hR h18.2).2.1.symm | exact (KI.stop I15.2 h1 hR h18.2).2.2.symm
       have e12 : ((contY Y.goes p (walkV d.nodes (n + 1) S v)) : Bool) = false := by
        first | exact (KI.stop I15.2 h1 hR h18.2).1 | exact (KI.stop I15.2 h1 hR h18.2).2.1 | exact (KI.stop I15.2 h1 hR h18.2).2.2 | exact (KI.stop I15.2 h1 hR h18.2).1.symm | exact (KI.stop I15.2 h1 hR h18.2).2.1.symm | exact (KI.stop I15.2 h1 hR h18.2).2.2.symm
       exact .finE [.r []] [(0, 0), (1, 1), (2, 2), (3, 3), (4, 4), (5, 5)] (fun (z0, z1, z2) => (VB z2, [(0, .box [.hdl 4]), (1, .box [.yl 5]), (2, .box [VL 9 nodeT d.nodes]), (3, .box [.fn 75 [.ptr 0 0, .ptr 1 0, .ptr 2 0, .ptr 3 0]]), (4, .mp (List.map onM z0) none), (5, .ext Y z1)])) (((endS Y.goes S3 p3 (walkV d.nodes n S3 ({ id := ((((((d.nodes.getD (lobN (d).nodes v.id) default)).grid).cells).getD j default)).ref, parent := v.id, vis := ((v.vis && ((((covQ ((((d.nodes.getD (lobN (d).nodes v.id) default)).grid)).merges (((((((d.nodes.getD (lobN (d).nodes v.id) default)).grid).cells).getD j default)).row) (((((((d.nodes.getD (lobN (d).nodes v.id) default)).grid).cells).getD j default)).col) 0)).row) == (((((((d.nodes.getD (lobN (d).nodes v.id) default)).grid).cells).getD j default)).row))) && ((((covQ ((((d.nodes.getD (lobN (d).nodes v.id) default)).grid)).merges (((((((d.nodes.getD (lobN (d).nodes v.id) default)).grid).cells).getD j default)).row) (((((((d.nodes.getD (lobN (d).nodes v.id) default)).grid).cells).getD j default)).col) 0)).col) == (((((((d.nodes.getD (lobN (d).nodes v.id) default)).grid).cells).getD j default)).col))) } : Vis))) : List Int), ((endP Y.goes p3 (walkV d.nodes n S3 ({ id := ((((((d.nodes.getD (lobN (d).nodes v.id) default)).grid).cells).getD j default)).ref, parent := v.id, vis := ((v.vis && ((((covQ ((((d.nodes.getD (lobN (d).nodes v.id) default)).grid)).merges (((((((d.nodes.getD (lobN (d).nodes v.id) default)).grid).cells).getD j default)).row) (((((((d.nodes.getD (lobN (d).nodes v.id) default)).grid).cells).getD j default)).col) 0)).row) == (((((((d.nodes.getD (lobN (d).nodes v.id) default)).grid).cells).getD j default)).row))) && ((((covQ ((((d.nodes.getD (lobN (d).nodes v.id) default)).grid)).merges (((((((d.nodes.getD (lobN (d).nodes v.id) default)).grid).cells).getD j default)).row) (((((((d.nodes.getD (lobN (d).nodes v.id) default)).grid).cells).getD j default)).col) 0)).col) == (((((((d.nodes.getD (lobN (d).nodes v.id) default)).grid).cells).getD j default)).col))) } : Vis))) : List (List Tree)), (false : Bool)) (((endS Y.goes S p (walkV d.nodes (n + 1) S v)) : List Int), ((endP Y.goes p (walkV d.nodes (n + 1) S v)) : List (List Tree)), ((contY Y.goes p (walkV d.nodes (n + 1) S v)) : Bool)) (pr e10 (pr e11 e12))
      ·
       (try simp only [Bool.not_eq_true', Bool.not_eq_false', Bool.and_eq_true, Bool.and_eq_false_iff, beq_iff_eq, beq_eq_false_iff_ne, ne_eq] at h18)
       refine .back [.r [(0, X (Xn ((j : Int) + 1)))]] [(0, 0), (1, 1), (2, 2), (3, 3), (4, 4), (5, 5), (6, 6), (230, 230)] (ih15 ((j + 1), (endS Y.goes S3 p3 (walkV d.nodes n S3 ({ id := ((((((d.nodes.getD (lobN (d).nodes v.id) default)).grid).cells).getD j default)).ref, parent := v.id, vis := ((v.vis && ((((covQ ((((d.nodes.getD (lobN (d).nodes v.id) default)).grid)).merges (((((((d.nodes.getD (lobN (d).nodes v.id) default)).grid).cells).getD j default)).row) (((((((d.nodes.getD (lobN (d).nodes v.id) default)).grid).cells).getD j default)).col) 0)).row) == (((((((d.nodes.getD (lobN (d).nodes v.id) default)).grid).cells).getD j default)).row))) && ((((covQ ((((d.nodes.getD (lobN (d).nodes v.id) default)).grid)).merges (((((((d.nodes.getD (lobN (d).nodes v.id) default)).grid).cells).getD j default)).row) (((((((d.nodes.getD (lobN (d).nodes v.id) default)).grid).cells).getD j default)).col) 0)).col) == (((((((d.nodes.getD (lobN (d).nodes v.id) default)).grid).cells).getD j default)).col))) } : Vis))), (endP Y.goes p3 (walkV d.nodes n S3 ({ id := ((((((d.nodes.getD (lobN (d).nodes v.id) default)).grid).cells).getD j default)).ref, parent := v.id, vis := ((v.vis && ((((covQ ((((d.nodes.getD (lobN (d).nodes v.id) default)).grid)).merges (((((((d.nodes.getD (lobN (d).nodes v.id) default)).grid).cells).getD j default)).row) (((((((d.nodes.getD (lobN (d).nodes v.id) default)).grid).cells).getD j default)).col) 0)).row) == (((((((d.nodes.getD (lobN (d).nodes v.id) default)).grid).cells).getD j default)).row))) && ((((covQ ((((d.nodes.getD (lobN (d).nodes v.id) default)).grid)).merges (((((((d.nodes.getD (lobN (d).nodes v.id) default)).grid).cells).getD j default)).row) (((((((d.nodes.getD (lobN (d).nodes v.id) default)).grid).cells).getD j default)).col) 0)).col) == (((((((d.nodes.getD (lobN (d).nodes v.id) default)).grid).cells).getD j default)).col))) } : Vis)))) ?_ ?_)
       ·
        refine ⟨by omega, ?_⟩
        rw [hnx]; exact I15.2.next (h18.resolve_left (by decide))
       ·
        ((try dsimp only); omega)
    ·
     (try simp only [decide_eq_true_eq, decide_eq_false_iff_not, Int.not_lt, Int.not_le] at h15)
     refine .loop (α := Nat × List Int × List (List Tree)) [.r [(2, X (Xc1 358 (fc_itemsD d ({ id := ((d.nodes.getD (lobN (d).nodes v.id) default)).id, kind := ((d.nodes.getD (lobN (d).nodes v.id) default)).kind, attrs := ((d.nodes.getD (lobN (d).nodes v.id) default)).attrs, flow := ((d.nodes.getD (lobN (d).nodes v.id) default)).flow, grid := (((d.nodes.getD (lobN (d).nodes v.id) default)).grid), draw := ((d.nodes.getD (lobN (d).nodes v.id) default)).draw } : Node) (by assumption) (by assumption) (by assumption) (by assumption)) X0)), (3, X (Xl intT (itemsD (d).nodes ({ id := ((d.nodes.getD (lobN (d).nodes v.id) default)).id, kind := ((d.nodes.getD (lobN (d).nodes v.id) default)).kind, attrs := ((d.nodes.getD (lobN (d).nodes v.id) default)).attrs, flow := ((d.nodes.getD (lobN (d).nodes v.id) default)).flow, grid := (((d.nodes.getD (lobN (d).nodes v.id) default)).grid), draw := ((d.nodes.getD (lobN (d).nodes v.id) default)).draw } : Node))))]] 382 (fun (q, S4, p4) => ([(4, .ptr 3 0), (5, .ptr 6 0), (105, VL 1 intT (itemsD (d).nodes ({ id := ((d.nodes.getD (lobN (d).nodes v.id) default)).id, kind := ((d.nodes.getD (lobN (d).nodes v.id) default)).kind, attrs := ((d.nodes.getD (lobN (d).nodes v.id) default)).attrs, flow := ((d.nodes.getD (lobN (d).nodes v.id) default)).flow, grid := (((d.nodes.getD (lobN (d).nodes v.id) default)).grid), draw := ((d.nodes.getD (lobN (d).nodes v.id) default)).draw } : Node))), (106, VI ((itemsD (d).nodes ({ id := ((d.nodes.getD (lobN (d).nodes v.id) default)).id, kind := ((d.nodes.getD (lobN (d).nodes v.id) default)).kind, attrs := ((d.nodes.getD (lobN (d).nodes v.id) default)).attrs, flow := ((d.nodes.getD (lobN (d).nodes v.id) default)).flow, grid := (((d.nodes.getD (lobN (d).nodes v.id) default)).grid), draw := ((d.nodes.getD (lobN (d).nodes v.id) default)).draw } : Node)).length : Int)), (107, VI (q : Int))], [(0, .box [.hdl 4]), (1, .box [.yl 5]), (2, .box [VL 9 nodeT d.nodes]), (3, .box [.fn 75 [.ptr 0 0, .ptr 1 0, .ptr 2 0, .ptr 3 0]]), (4, .mp (List.map onM S4) none), (5, .ext Y p4), (6, .box [VI v.id, VI v.parent, VB v.vis])])) (fun (q, S4, p4) => q ≤ (itemsD d.nodes (d.nodes.getD (lobN d.nodes v.id) default)).length ∧ KI d Y n S p v (kidI d v q) S4 p4) (fun (q, S4, p4) => (itemsD d.nodes (d.nodes.getD (lobN d.nodes v.id) default)).length - q) (0, S3, p3) ?_ ?_
     ·
      exact ⟨Nat.zero_le _, by rw [kidI_zero, show (d.nodes.getD (lobN d.nodes v.id) default).grid.cells.length = j by omega]; exact I15.2⟩
     rintro ⟨q, S4, p4⟩ I22 ih22
     try dsimp only at I22
     refine .br [.r []] (decide ((q : Int) < ((itemsD (d).nodes ({ id := ((d.nodes.getD (lobN (d).nodes v.id) default)).id, kind := ((d.nodes.getD (lobN (d).nodes v.id) default)).kind, attrs := ((d.nodes.getD (lobN (d).nodes v.id) default)).attrs, flow := ((d.nodes.getD (lobN (d).nodes v.id) default)).flow, grid := (((d.nodes.getD (lobN (d).nodes v.id) default)).grid), draw := ((d.nodes.getD (lobN (d).nodes v.id) default)).draw } : Node)).length : Int))) (fun h22 => ?_) (fun h22 => ?_)
     ·
      (try simp only [decide_eq_true_eq, decide_eq_false_iff_not, Int.not_lt, Int.not_le] at h22)
      obtain ⟨⟨R, hR⟩, hnx⟩ := kidI_at (d := d) (v := v) (i := q) (by omega)
      have hcall : WOk d Y n S4 p4 ({ id := ((itemsD d.nodes (d.nodes.getD (lobN d.nodes v.id) default)).getD q default), parent := v.id, vis := v.vis } : Vis) := KI.call I22.2 hw h1 hR (kids_has hV hw.has (by rw [hR]; exact List.mem_append_right _ List.mem_cons_self))
      refine .br [.r [(0, X (Xi intT (itemsD (d).nodes ({ id := ((d.nodes.getD (lobN (d).nodes v.id) default)).id, kind := ((d.nodes.getD (lobN (d).nodes v.id) default)).kind, attrs := ((d.nodes.getD (lobN (d).nodes v.id) default)).attrs, flow := ((d.nodes.getD (lobN (d).nodes v.id) default)).flow, grid := (((d.nodes.getD (lobN (d).nodes v.id) default)).grid), draw := ((d.nodes.getD (lobN (d).nodes v.id) default)).draw } : Node)) (q : Int)))], .r [(7, X (Xc3 470 [(0, 0), (1, 1), (2, 2), (3, 3), (4, 4), (5, 5)] (ih ({ id := ((itemsD (d).nodes ({ id := ((d.nodes.getD (lobN (d).nodes v.id) default)).id, kind := ((d.nodes.getD (lobN (d).nodes v.id) default)).kind, attrs := ((d.nodes.getD (lobN (d).nodes v.id) default)).attrs, flow := ((d.nodes.getD (lobN (d).nodes v.id) default)).flow, grid := (((d.nodes.getD (lobN (d).nodes v.id) default)).grid), draw := ((d.nodes.getD (lobN (d).nodes v.id) default)).draw } : Node)).getD q default), parent := v.id, vis := v.vis } : Vis) S4 p4 (by assumption)) X0))]] (!(contY Y.goes p4 (walkV d.nodes n S4 ({ id := ((itemsD (d).nodes ({ id := ((d.nodes.getD (lobN (d).nodes v.id) default)).id, kind := ((d.nodes.getD (lobN (d).nodes v.id) default)).kind, attrs := ((d.nodes.getD (lobN (d).nodes v.id) default)).attrs, flow := ((d.nodes.getD (lobN (d).nodes v.id) default)).flow, grid := (((d.nodes.getD (lobN (d).nodes v.id) default)).grid), draw := ((d.nodes.getD (lobN (d).nodes v.id) default)).draw } : Node)).getD q default), parent := v.id, vis := v.vis } : Vis)))) (fun h24 => ?_) (fun h24 => ?_)
      ·
       (try simp only [Bool.not_eq_true', Bool.not_eq_false'] at h24)
       have e13 : ((endS Y.goes S p (walkV d.nodes (n + 1) S v)) : List Int) = (endS Y.goes S4 p4 (walkV d.nodes n S4 ({ id := ((itemsD (d).nodes ({ id := ((d.nodes.getD (lobN (d).nodes v.id) default)).id, kind := ((d.nodes.getD (lobN (d).nodes v.id) default)).kind, attrs := ((d.nodes.getD (lobN (d).nodes v.id) default)).attrs, flow := ((d.nodes.getD (lobN (d).nodes v.id) default)).flow, grid := (((d.nodes.getD (lobN (d).nodes v.id) default)).grid), draw := ((d.nodes.getD (lobN (d).nodes v.id) default)).draw } : Node)).getD q default), parent := v.id, vis := v.vis } : Vis))) := by
        first | exact (KI.stop I22.2 h1 hR h24).1 | exact (KI.stop I22.2 h1 hR h24).2.1 | exact (KI.stop I22.2 h1 hR h24).2.2 | exact (KI.stop I22.2 h1 hR h24).1.symm | exact (KI.stop I22.2 h1 hR h24).2.1.symm | exact (KI.stop I22.2 h1 hR h24).2.2.symm
       have e14 : ((endP Y.goes p (walkV d.nodes (n + 1) S v)) : List (List Tree)) = (endP Y.goes p4 (walkV d.nodes n S4 ({ id := ((itemsD (d).nodes ({ id := ((d.nodes.getD (lobN (d).nodes v.id) default)).id, kind := ((d.nodes.getD (lobN (d).nodes v.id) default)).kind, attrs := ((d.nodes.getD (lobN (d).nodes v.id) default)).attrs, flow := ((d.nodes.getD (lobN (d).nodes v.id) default)).flow, grid := (((d.nodes.getD (lobN (d).nodes v.id) default)).grid), draw := ((d.nodes.getD (lobN (d).nodes v.id) default)).draw } : Node)).getD q default), parent := v.id, vis := v.vis } : Vis))) := by
        first | exact (KI.stop I22.2 h1 hR h24).1 | exact (KI.stop I22.2 h1 hR h24).2.1 | exact (KI.stop I22.2 h1 hR h24).2.2 | exact (KI.stop I22.2 h1 hR h24).1.symm | exact (KI.stop I22.2 h1 hR h24).2.1.symm | exact (KI.stop I22.2 h1 hR h24).2.2.symm
       have e15 : ((contY Y.goes p (walkV d.nodes (n + 1) S v)) : Bool) = false := by
        first | exact (KI.stop I22.2 h1 hR h24).1 | exact (KI.stop I22.2 h1 hR h24).2.1 | exact (KI.stop I22.2 h1 hR h24).2.2 | exact (KI.stop I22.2 h1 hR h24).1.symm | exact (KI.stop I22.2 h1 hR h24).2.1.symm | exact (KI.stop I22.2 h1 hR h24).2.2.symm
       exact .finE [.r []] [(0, 0), (1, 1), (2, 2), (3, 3), (4, 4), (5, 5)] (fun (z0, z1, z2) => (VB z2, [(0, .box [.hdl 4]), (1, .box [.yl 5]), (2, .box [VL 9 nodeT d.nodes]), (3, .box [.fn 75 [.ptr 0 0, .ptr 1 0, .ptr 2 0, .ptr 3 0]]), (4, .mp (List.map onM z0) none), (5, .ext Y z1)])) (((endS Y.goes S4 p4 (walkV d.nodes n S4 ({ id := ((itemsD (d).nodes ({ id := ((d.nodes.getD (lobN (d).nodes v.id) default)).id, kind := ((d.nodes.getD (lobN (d).nodes v.id) default)).kind, attrs := ((d.nodes.getD (lobN (d).nodes v.id) default)).attrs, flow := ((d.nodes.getD (lobN (d).nodes v.id) default)).flow, grid := (((d.nodes.getD (lobN (d).nodes v.id) default)).grid), draw := ((d.nodes.getD (lobN (d).nodes v.id) default)).draw } : Node)).getD q default), parent := v.id, vis := v.vis } : Vis))) : List Int), ((endP Y.goes p4 (walkV d.nodes n S4 ({ id := ((itemsD (d).nodes ({ id := ((d.nodes.getD (lobN (d).nodes v.id) default)).id, kind := ((d.nodes.getD (lobN (d).nodes v.id) default)).kind, attrs := ((d.nodes.getD (lobN (d).nodes v.id) default)).attrs, flow := ((d.nodes.getD (lobN (d).nodes v.id) default)).flow, grid := (((d.nodes.getD (lobN (d).nodes v.id) default)).grid), draw := ((d.nodes.getD (lobN (d).nodes v.id) default)).draw } : Node)).getD q default), parent := v.id, vis := v.vis } : Vis))) : List (List Tree)), (false : Bool)) (((endS Y.goes S p (walkV d.nodes (n + 1) S v)) : List Int), ((endP Y.goes p (walkV d.nodes (n + 1) S v)) : List (List Tree)), ((contY Y.goes p (walkV d.nodes (n + 1) S v)) : Bool)) (pr e13 (pr e14 e15))
      ·
       (try simp only [Bool.not_eq_true', Bool.not_eq_false'] at h24)
       refine .back [.r [(0, X (Xn ((q : Int) + 1)))]] [(0, 0), (1, 1), (2, 2), (3, 3), (4, 4), (5, 5), (6, 6)] (ih22 ((q + 1), (endS Y.goes S4 p4 (walkV d.nodes n S4 ({ id := ((itemsD (d).nodes ({ id := ((d.nodes.getD (lobN (d).nodes v.id) default)).id, kind := ((d.nodes.getD (lobN (d).nodes v.id) default)).kind, attrs := ((d.nodes.getD (lobN (d).nodes v.id) default)).attrs, flow := ((d.nodes.getD (lobN (d).nodes v.id) default)).flow, grid := (((d.nodes.getD (lobN (d).nodes v.id) default)).grid), draw := ((d.nodes.getD (lobN (d).nodes v.id) default)).draw } : Node)).getD q default), parent := v.id, vis := v.vis } : Vis))), (endP Y.goes p4 (walkV d.nodes n S4 ({ id := ((itemsD (d).nodes ({ id := ((d.nodes.getD (lobN (d).nodes v.id) default)).id, kind := ((d.nodes.getD (lobN (d).nodes v.id) default)).kind, attrs := ((d.nodes.getD (lobN (d).nodes v.id) default)).attrs, flow := ((d.nodes.getD (lobN (d).nodes v.id) default)).flow, grid := (((d.nodes.getD (lobN (d).nodes v.id) default)).grid), draw := ((d.nodes.getD (lobN (d).nodes v.id) default)).draw } : Node)).getD q default), parent := v.id, vis := v.vis } : Vis)))) ?_ ?_)
       ·
        refine ⟨by omega, ?_⟩
        rw [hnx]; exact I22.2.next h24
       ·
        ((try dsimp only); omega)
     ·
      (try simp only [decide_eq_true_eq, decide_eq_false_iff_not, Int.not_lt, Int.not_le] at h22)
      have e16 : ((endS Y.goes S p (walkV d.nodes (n + 1) S v)) : List Int) = S4 := by
       first | exact (KI.done I22.2 h1 (kidI_end.trans (by rw [show (itemsD d.nodes (d.nodes.getD (lobN d.nodes v.id) default)).length = q by omega]))).1 | exact (KI.done I22.2 h1 (kidI_end.trans (by rw [show (itemsD d.nodes (d.nodes.getD (lobN d.nodes v.id) default)).length = q by omega]))).2.1 | exact (KI.done I22.2 h1 (kidI_end.trans (by rw [show (itemsD d.nodes (d.nodes.getD (lobN d.nodes v.id) default)).length = q by omega]))).2.2 | exact (KI.done I22.2 h1 (kidI_end.trans (by rw [show (itemsD d.nodes (d.nodes.getD (lobN d.nodes v.id) default)).length = q by omega]))).1.symm | exact (KI.done I22.2 h1 (kidI_end.trans (by rw [show (itemsD d.nodes (d.nodes.getD (lobN d.nodes v.id) default)).length = q by omega]))).2.1.symm | exact (KI.done I22.2 h1 (kidI_end.trans (by rw [show (itemsD d.nodes (d.nodes.getD (lobN d.nodes v.id) default)).length = q by omega]))).2.2.symm
      have e17 : ((endP Y.goes p (walkV d.nodes (n + 1) S v)) : List (List Tree)) = p4 := by
       first | exact (KI.done I22.2 h1 (kidI_end.trans (by rw [show (itemsD d.nodes (d.nodes.getD (lobN d.nodes v.id) default)).length = q by omega]))).1 | exact (KI.done I22.2 h1 (kidI_end.trans (by rw [show (itemsD d.nodes (d.nodes.getD (lobN d.nodes v.id) default)).length = q by omega]))).2.1 | exact (KI.done I22.2 h1 (kidI_end.trans (by rw [show (itemsD d.nodes (d.nodes.getD (lobN d.nodes v.id) default)).length = q by omega]))).2.2 | exact (KI.done I22.2 h1 (kidI_end.trans (by rw [show (itemsD d.nodes (d.nodes.getD (lobN d.nodes v.id) default)).length = q by omega]))).1.symm | exact (KI.done I22.2 h1 (kidI_end.trans (by rw [show (itemsD d.nodes (d.nodes.getD (lobN d.nodes v.id) default)).length = q by omega]))).2.1.symm | exact (KI.done I22.2 h1 (kidI_end.trans (by rw [show (itemsD d.nodes (d.nodes.getD (lobN d.nodes v.id) default)).length = q by omega]))).2.2.symm
      have e18 : ((contY Y.goes p (walkV d.nodes (n + 1) S v)) : Bool) = true := by
       first | exact (KI.done I22.2 h1 (kidI_end.trans (by rw [show (itemsD d.nodes (d.nodes.getD (lobN d.nodes v.id) default)).length = q by omega]))).1 | exact (KI.done I22.2 h1 (kidI_end.trans (by rw [show (itemsD d.nodes (d.nodes.getD (lobN d.nodes v.id) default)).length = q by omega]))).2.1 | exact (KI.done I22.2 h1 (kidI_end.trans (by rw [show (itemsD d.nodes (d.nodes.getD (lobN d.nodes v.id) default)).length = q by omega]))).2.2 | exact (KI.done I22.2 h1 (kidI_end.trans (by rw [show (itemsD d.nodes (d.nodes.getD (lobN d.nodes v.id) default)).length = q by omega]))).1.symm | exact (KI.done I22.2 h1 (kidI_end.trans (by rw [show (itemsD d.nodes (d.nodes.getD (lobN d.nodes v.id) default)).length = q by omega]))).2.1.symm | exact (KI.done I22.2 h1 (kidI_end.trans (by rw [show (itemsD d.nodes (d.nodes.getD (lobN d.nodes v.id) default)).length = q by omega]))).2.2.symm
      exact .finE [.r []] [(0, 0), (1, 1), (2, 2), (3, 3), (4, 4), (5, 5)] (fun (z0, z1, z2) => (VB z2, [(0, .box [.hdl 4]), (1, .box [.yl 5]), (2, .box [VL 9 nodeT d.nodes]), (3, .box [.fn 75 [.ptr 0 0, .ptr 1 0, .ptr 2 0, .ptr 3 0]]), (4, .mp (List.map onM z0) none), (5, .ext Y z1)])) ((S4 : List Int), (p4 : List (List Tree)), (true : Bool)) (((endS Y.goes S p (walkV d.nodes (n + 1) S v)) : List Int), ((endP Y.goes p (walkV d.nodes (n + 1) S v)) : List (List Tree)), ((contY Y.goes p (walkV d.nodes (n + 1) S v)) : Bool)) (pr e16 (pr e17 e18))
end Go.Ch
end
section
set_option linter.unusedVariables false
namespace Go.Ch
open Go Go.Ab

def root9 : Vis := ⟨1, 0, true⟩
def treeV (d : Doc) : List Vis := walkV d.nodes (d.nodes.length + 1) [] root9
theorem WOk.root {d : Doc} {Y : YSpec} {pre : List (List Tree)} (hV : DocV d) (ha : AdmY Y pre (treeV d)) : WOk d Y (d.nodes.length + 1) [] pre root9 :=
  ⟨hV.one, by have := List.length_filter_le (fun n : Node => decide (n.id ∉ ([] : List Int))) d.nodes; unfold muS; omega, ha⟩

/-! ### The two numbers of a visit -/
def encP (v : Vis) : List Tree := [TI v.id, TI v.parent]
def idP : List Tree → List Tree
  | [.agg (a :: b :: _)] => [a, b]
  | _ => []
theorem idP_enc (v : Vis) : idP (enc1 v) = encP v := rfl
def stopP (g : List (List Tree) → Bool) : List (List Tree) → List Vis → List Vis
  | _, [] => []
  | pre, x :: l => x :: (if g (pre ++ [encP x]) = true then stopP g (pre ++ [encP x]) l else [])
def AdmP (Y : YSpec) : List (List Tree) → List Vis → Prop
  | _, [] => True
  | pre, x :: l => Y.adm pre (encP x) ∧ (Y.goes (pre ++ [encP x]) = true → AdmP Y (pre ++ [encP x]) l)
theorem map_idP (p0 pre : List (List Tree)) (x : Vis) : p0 ++ (pre ++ [enc1 x]).map idP = p0 ++ pre.map idP ++ [encP x] := by simp [idP_enc]
theorem stop_conv {g : List (List Tree) → Bool} {p0 : List (List Tree)} : ∀ {l : List Vis} {pre : List (List Tree)}, stopY (fun p => g (p0 ++ p.map idP)) pre l = stopP g (p0 ++ pre.map idP) l
  | [], pre => rfl
  | x :: l, pre => by
    rw [stopY, stopP, map_idP, stop_conv, map_idP]
theorem adm_conv {Y Y2 : YSpec} {p0 : List (List Tree)} (hg : Y2.goes = fun p => Y.goes (p0 ++ p.map idP)) (ha : Y2.adm = fun p xs => ∃ v, xs = enc1 v ∧ Y.adm (p0 ++ p.map idP) (encP v)) : ∀ {l : List Vis} {pre : List (List Tree)}, AdmP Y (p0 ++ pre.map idP) l → AdmY Y2 pre l
  | [], pre, _ => trivial
  | x :: l, pre, h => by
    refine ⟨by rw [ha]; exact ⟨x, rfl, h.1⟩, fun q => ?_⟩
    rw [hg] at q
    have q' : Y.goes (p0 ++ pre.map idP ++ [encP x]) = true := by rw [← map_idP]; exact q
    have := h.2 q'
    rw [← map_idP] at this
    exact adm_conv hg ha this
theorem end_conv {g : List (List Tree) → Bool} {p0 : List (List Tree)} {l : List Vis} : p0 ++ (endP (fun p => g (p0 ++ p.map idP)) [] l).map idP = p0 ++ (stopP g p0 l).map encP := by
  unfold endP
  have := stop_conv (g := g) (p0 := p0) (l := l) (pre := [])
  rw [List.map_nil, List.append_nil] at this
  rw [this, List.nil_append, List.map_map]
  rfl

/-! ### As a loop meets it -/
theorem stop_take {J : Nat → Option Code} : ∀ {l : List Vis} {pre : List (List Tree)} {m : Nat}, m ≤ l.length → (∀ k, 0 < k → k < m → J (pre.length + k) = none) → (m = l.length ∨ (0 < m ∧ J (pre.length + m) ≠ none)) →
    stopP (fun p => (J p.length).isNone) pre l = l.take m
  | [], pre, m, h, _, _ => by simp [stopP]
  | x :: l, pre, 0, h, _, hm => by rcases hm with h | h; (simp at h); (omega)
  | x :: l, pre, m + 1, h, hj, hm => by
    rw [stopP, List.take_succ_cons]
    congr 1
    have e : (pre ++ [encP x]).length = pre.length + 1 := by simp
    by_cases hn : J (pre.length + 1) = none
    · rw [if_pos (by rw [e, hn]; rfl)]
      refine stop_take (by simpa using h) (fun k k1 k2 => ?_) ?_
      · rw [e, show pre.length + 1 + k = pre.length + (k + 1) by omega]; exact hj (k + 1) (by omega) (by omega)
      · rcases hm with hm | ⟨_, hm⟩
        · left; simpa using hm
        · by_cases q : m = 0
          · subst q; exact absurd hn hm
          · right; exact ⟨by omega, by rw [e, show pre.length + 1 + m = pre.length + (m + 1) by omega]; exact hm⟩
    · have q : m = 0 := Classical.byContradiction fun q => hn (hj 1 (by omega) (by omega))
      subst q
      rw [if_neg (by rw [e]; cases hh : J (pre.length + 1) with | none => exact absurd hh hn | some c => simp)]
      simp
theorem admP_loop {Y : YSpec} {J : Nat → Option Code} (hg : Y.goes = fun p => (J p.length).isNone) {vl : List Vis} (ha : ∀ k, k < vl.length → J k = none → Y.adm ((vl.take k).map encP) (encP (vl.getD k default))) (h0 : J 0 = none) : AdmP Y [] vl := by
  have key : ∀ (n k : Nat), vl.length - k = n → k ≤ vl.length → J k = none → AdmP Y ((vl.take k).map encP) (vl.drop k) := by
    intro n
    induction n with
    | zero => intro k h hk _; rw [List.drop_eq_nil_of_le (by omega)]; trivial
    | succ n ih =>
      intro k h hk hj
      have hlt : k < vl.length := by omega
      rw [drop_succD hlt]
      refine ⟨ha k hlt hj, fun q => ?_⟩
      have e : (vl.take k).map encP ++ [encP (vl.getD k default)] = (vl.take (k + 1)).map encP := by rw [takeD hlt, List.map_append]; rfl
      rw [e] at q ⊢
      refine ih (k + 1) (by omega) (by omega) ?_
      rw [hg] at q
      simp only [List.length_map, List.length_take, Nat.min_eq_left (show k + 1 ≤ vl.length by omega)] at q
      cases hh : J (k + 1) with
      | none => rfl
      | some c => rw [hh] at q; cases q
  have := key _ 0 rfl (Nat.zero_le _) h0
  simpa using this

/-! ### The search for one node -/
def gV (k : Int) (pre : List (List Tree)) : Bool := match pre.getLast? with
  | some [.agg (.sc (.int _ i) :: _)] => i != k
  | _ => true
def outT (k : Int) (pre : List (List Tree)) : Bool := pre.foldl (fun b xs => match xs with
  | [.agg [.sc (.int _ i), _, .sc (.bool c)]] => if i = k then c else b
  | _ => b) false
theorem gV_snoc (k : Int) (pre : List (List Tree)) (v : Vis) : gV k (pre ++ [enc1 v]) = (v.id != k) := by
  unfold gV; rw [List.getLast?_concat]; rfl
theorem outT_snoc (k : Int) (pre : List (List Tree)) (v : Vis) : outT k (pre ++ [enc1 v]) = if v.id = k then v.vis else outT k pre := by
  unfold outT; rw [List.foldl_append]; rfl
/-- Whether a node is visible: as its first visit says. -/
def visD (d : Doc) (k : Int) : Bool := ((treeV d).find? (fun v => v.id == k)).elim false Vis.vis
theorem out_find (k : Int) : ∀ {l : List Vis} {pre : List (List Tree)}, outT k (pre ++ (stopY (gV k) pre l).map enc1) = (l.find? (fun v => v.id == k)).elim (outT k pre) Vis.vis
  | [], pre => by simp [stopY]
  | x :: l, pre => by
    rw [stopY, gV_snoc, List.find?_cons]
    by_cases h : x.id = k
    · rw [if_neg (by simp [h]), show (x.id == k) = true by simp [h]]
      rw [List.map_cons, List.map_nil, outT_snoc, if_pos h]; rfl
    · rw [if_pos (by simp [h]), show (x.id == k) = false by simp [h]]
      rw [List.map_cons, List.append_cons, out_find k, outT_snoc, if_neg h]
theorem out_end (d : Doc) (k : Int) : outT k (endP (gV k) [] (treeV d)) = visD d k := by
  unfold endP visD; rw [out_find k]; rfl
theorem adm_vis {Y : YSpec} (ha : Y.adm = fun _ xs => ∃ v, xs = enc1 v) : ∀ {l : List Vis} {pre : List (List Tree)}, AdmY Y pre l
  | [], pre => trivial
  | x :: l, pre => ⟨by rw [ha]; exact ⟨x, rfl⟩, fun _ => adm_vis ha⟩

/-! ### The tree as a loop's values -/
theorem iter_of {P : Program} {gf : FuncId} {caps : List AVal} {C : List (Nat × Ob)} {e : Nat} {d : Doc} {J : Nat → Option Code} {m : Nat} {res : AVal} (hm : m ≤ (treeV d).length) (hj : ∀ k, 0 < k → k < m → J k = none) (he : m = (treeV d).length ∨ (0 < m ∧ J m ≠ none)) (h0 : J 0 = none)
    (h : ∀ Y : YSpec, YCalls P Y → AdmP Y [] (treeV d) → FC P gf (.yl e :: caps) (app emp ((e, .ext Y []) :: C)) res (app emp ((e, .ext Y ([] ++ (stopP Y.goes [] (treeV d)).map encP)) :: C))) :
    Iter P gf caps C e encP default (treeV d) J m res := by
  refine ⟨fun Y hg ha hY => ?_, hm⟩
  have := h Y hY (admP_loop hg ha h0)
  rw [hg, stop_take hm (by simpa using hj) (by simpa using he)] at this
  exact this
theorem mapTake {β : Type} (f : Vis → β) {l : List Vis} {k : Nat} (h : k < l.length) : (l.take k).map f ++ [f (l.getD k default)] = (l.take (k + 1)).map f := by
  rw [takeD h, List.map_append]; rfl
end Go.Ch
end
section
set_option linter.unusedVariables false
set_option linter.unusedSimpArgs false
set_option maxRecDepth 100000
set_option maxHeartbeats 4000000
open Go Go.Proofs Go.Ab
namespace Go.Ch
theorem fc_from (d : Doc) (Y : YSpec) (hY : YCalls Tryz.prog Y) (hV : DocV d) : ∀ (n : Nat), ∀ (v : Vis) (S : List Int) (p : List (List Tree)), WOk d Y n S p v → FC Tryz.prog 75 [.t (visT v), .ptr 0 0, .ptr 1 0, .ptr 2 0, .ptr 3 0] (app emp [(0, .box [.hdl 4]), (1, .box [.yl 5]), (2, .box [VL 9 nodeT d.nodes]), (3, .box [.fn 75 [.ptr 0 0, .ptr 1 0, .ptr 2 0, .ptr 3 0]]), (4, .mp (List.map onM S) none), (5, .ext Y p)]) (VB (contY Y.goes p (walkV d.nodes n S v))) (app emp [(0, .box [.hdl 4]), (1, .box [.yl 5]), (2, .box [VL 9 nodeT d.nodes]), (3, .box [.fn 75 [.ptr 0 0, .ptr 1 0, .ptr 2 0, .ptr 3 0]]), (4, .mp (List.map onM (endS Y.goes S p (walkV d.nodes n S v))) none), (5, .ext Y (endP Y.goes p (walkV d.nodes n S v)))])
  | 0, v, S, p, hw => absurd hw.mu (Nat.not_lt_zero _)
  | n + 1, v, S, p, hw => fc_from1 d Y hY hV n (fc_from d Y hY hV n) v S p hw

theorem fc_walkY (d : Doc) (Y : YSpec) (hY : YCalls Tryz.prog Y) (hV : DocV d) (p : List (List Tree)) (ha : AdmY Y p (treeV d)) : FC Tryz.prog 38 [.t (docT d), .yl 0] (app emp [(0, .ext Y p)]) (.tup []) (app emp [(0, .ext Y (endP Y.goes p (treeV d)))]) := by
 refine .go Tryz.f38 ?_
 have e1 : ((endP Y.goes p (treeV d)) : List (List Tree)) = (endP Y.goes p (walkV d.nodes (d.nodes.length + 1) [] ({ id := 1, parent := 0, vis := true } : Vis))) := by
  rfl
 exact .finE [.r [], .r [], .r [], .r [], .r [(2, X (Xc3 81 [(0, 25), (1, 9), (2, 1), (3, 41), (4, 17), (5, 0)] (fc_from d Y hY hV (d.nodes.length + 1) ({ id := 1, parent := 0, vis := true } : Vis) [] p (WOk.root hV ha)) X0))]] [(0, 0)] (fun z0 => (.tup [], [(0, .ext Y z0)])) ((endP Y.goes p (walkV d.nodes (d.nodes.length + 1) [] ({ id := 1, parent := 0, vis := true } : Vis))) : List (List Tree)) ((endP Y.goes p (treeV d)) : List (List Tree)) e1

theorem fc_treeC (Y : YSpec) (hY : YCalls Tryz.prog Y) (v : Vis) (p : List (List Tree)) (ha : Y.adm p (encP v)) : FC Tryz.prog 39 [.t (visT v), .ptr 0 0] (app emp [(0, .box [.yl 1]), (1, .ext Y p)]) (VB (Y.goes (p ++ [encP v]))) (app emp [(0, .box [.yl 1]), (1, .ext Y (p ++ [encP v]))]) := by
 refine .go Tryz.f39 ?_
 have e1 : ((p ++ [encP v]) : List (List Tree)) = (p ++ [(encP v)]) := by
  rfl
 have e2 : ((Y.goes (p ++ [encP v])) : Bool) = (Y.goes (p ++ [(encP v)])) := by
  rfl
 exact .finE [.r [], .r [(5, X (Xy Tryz.prog Y p (encP v)) (⟨hY, ha⟩))]] [(0, 0), (1, 1)] (fun (z0, z1) => (VB z1, [(0, .box [.yl 1]), (1, .ext Y z0)])) (((p ++ [(encP v)]) : List (List Tree)), ((Y.goes (p ++ [(encP v)])) : Bool)) (((p ++ [encP v]) : List (List Tree)), ((Y.goes (p ++ [encP v])) : Bool)) (pr e1 e2)

theorem fc_walkT (d : Doc) (Y : YSpec) (hY : YCalls Tryz.prog Y) (hV : DocV d) (p : List (List Tree)) (ha : AdmP Y p (treeV d)) : FC Tryz.prog 38 [.t (docT d), .fn 39 [.ptr 0 0]] (app emp [(0, .box [.yl 1]), (1, .ext Y p)]) (.tup []) (app emp [(0, .box [.yl 1]), (1, .ext Y (p ++ (stopP Y.goes p (treeV d)).map encP))]) := by
  have h := FC.pack (P := Tryz.prog) (W := 38) (fid := 39) (a1 := [.t (docT d)]) (a2 := []) (caps := [.ptr 0 0]) (R := fun pre => [(0, .box [.yl 1]), (1, .ext Y (p ++ pre.map idP))]) (C := []) (pre0 := []) (pre' := endP (fun pre => Y.goes (p ++ pre.map idP)) [] (treeV d)) (res := .tup []) (e := 0)
    (G := fun pre => Y.goes (p ++ pre.map idP)) (A := fun pre xs => ∃ v, xs = enc1 v ∧ Y.adm (p ++ pre.map idP) (encP v))
    (fun pre xs hA => by
      obtain ⟨v, rfl, hadm⟩ := hA
      have := fc_treeC Y hY v (p ++ pre.map idP) hadm
      rw [← map_idP] at this
      exact this)
    (fun Y2 h1 h2 h3 => by
      have := fc_walkY d Y2 h3 hV [] (adm_conv (p0 := p) h1 h2 (by simpa using ha))
      rw [h1] at this
      exact this)
    (by kernel_rfl) (by kernel_rfl) rfl (by kernel_rfl) (by kernel_rfl) rfl
  rw [end_conv] at h
  simpa using h
end Go.Ch
end
section
set_option linter.unusedVariables false
set_option linter.unusedSimpArgs false
set_option maxRecDepth 100000
set_option maxHeartbeats 4000000
open Go Go.Proofs Go.Ab
namespace Go.Ch
theorem fc_treeB (d : Doc) (Y : YSpec) (hY : YCalls Tryz.prog Y) (hV : DocV d) (p : List (List Tree)) (ha : AdmP Y p (treeV d)) : FC Tryz.prog 37 [.yl 0, .ptr 1 0] (app emp [(0, .ext Y p), (1, .box [VL 9 nodeT d.nodes])]) (.tup []) (app emp [(0, .ext Y (p ++ (stopP Y.goes p (treeV d)).map encP)), (1, .box [VL 9 nodeT d.nodes])]) := by
 refine .go Tryz.f37 ?_
 have hb := hV.b
 refine .br [.r [], .r [(1, X (Xc0 (fc_docCk d (by assumption)) X0))]] ((docE d) != 0) (fun h1 => ?_) (fun h1 => ?_)
 ·
  (try simp only [bne_iff_ne, bne_eq_false_iff_eq, ne_eq] at h1)
  exfalso
  exact h1 hV.e
 ·
  (try simp only [bne_iff_ne, bne_eq_false_iff_eq, ne_eq] at h1)
  exact .fin [.r [(2, X (Xc3 50 [(0, 2), (1, 0)] (fc_walkT d Y hY hV p (by assumption)) X0))]] [(0, 0), (1, 1)]

theorem fc_tree (d : Doc) (hb : DocB d) : FC Tryz.prog 10 [.t (docT d)] (app emp []) (.fn 37 [.ptr 0 0]) (app emp [(0, .box [VL 9 nodeT d.nodes])]) := by
 refine .go Tryz.f10 ?_
 exact .fin [.r [], .r [(1, X (Xc1 24 (fc_copyD d (by assumption)) X0))], .r []] [(0, 0)]

theorem fc_visC (v : Vis) (k : Int) (b : Bool) : FC Tryz.prog 40 [.t (visT v), .ptr 0 0, .ptr 1 0] (app emp [(0, .box [VI k]), (1, .box [VB b])]) (VB (v.id != k)) (app emp [(0, .box [VI k]), (1, .box [VB (if v.id = k then v.vis else b)])]) := by
 refine .go Tryz.f40 ?_
 refine .br [.r [], .r []] (v.id == k) (fun h1 => ?_) (fun h1 => ?_)
 ·
  (try simp only [beq_iff_eq, beq_eq_false_iff_ne, ne_eq] at h1)
  have e1 : ((if v.id = k then v.vis else b) : Bool) = v.vis := by
   first | rfl | rw [if_pos h1] | rw [if_neg h1]
  exact .finE [.r [], .r []] [(0, 0), (1, 1)] (fun z0 => (VB (v.id != k), [(0, .box [VI k]), (1, .box [VB z0])])) (v.vis : Bool) ((if v.id = k then v.vis else b) : Bool) e1
 ·
  (try simp only [beq_iff_eq, beq_eq_false_iff_ne, ne_eq] at h1)
  have e2 : ((if v.id = k then v.vis else b) : Bool) = b := by
   first | rfl | rw [if_pos h1] | rw [if_neg h1]
  exact .finE [.r []] [(0, 0), (1, 1)] (fun z0 => (VB (v.id != k), [(0, .box [VI k]), (1, .box [VB z0])])) (b : Bool) ((if v.id = k then v.vis else b) : Bool) e2

theorem fc_walkV (d : Doc) (hV : DocV d) (k : Int) : FC Tryz.prog 38 [.t (docT d), .fn 40 [.ptr 0 0, .ptr 1 0]] (app emp [(0, .box [VI k]), (1, .box [VB false])]) (.tup []) (app emp [(0, .box [VI k]), (1, .box [VB (visD d k)])]) := by
  have h := FC.pack (P := Tryz.prog) (W := 38) (fid := 40) (a1 := [.t (docT d)]) (a2 := []) (caps := [.ptr 0 0, .ptr 1 0]) (R := fun pre => [(0, .box [VI k]), (1, .box [VB (outT k pre)])]) (C := []) (pre0 := []) (pre' := endP (gV k) [] (treeV d)) (res := .tup []) (e := 0)
    (G := gV k) (A := fun pre xs => ∃ v, xs = enc1 v)
    (fun pre xs hA => by
      obtain ⟨v, rfl⟩ := hA
      have := fc_visC v k (outT k pre)
      rw [← outT_snoc, ← gV_snoc k pre] at this
      exact this)
    (fun Y2 h1 h2 h3 => by
      have := fc_walkY d Y2 h3 hV [] (adm_vis h2)
      rw [h1] at this
      exact this)
    (by kernel_rfl) (by kernel_rfl) rfl (by kernel_rfl) (by kernel_rfl) rfl
  rw [out_end] at h
  exact h

theorem fc_visible (d : Doc) (k : Int) (hV : DocV d) : FC Tryz.prog 11 [.t (docT d), VI k] (app emp []) (VB (visD d k)) (app emp []) := by
 refine .go Tryz.f11 ?_
 have hb := hV.b
 refine .br [.r [], .r [], .r [(1, X (Xc0 (fc_docCk d (by assumption)) X0))]] ((docE d) != 0) (fun h2 => ?_) (fun h2 => ?_)
 ·
  (try simp only [bne_iff_ne, bne_eq_false_iff_eq, ne_eq] at h2)
  exfalso
  exact h2 hV.e
 ·
  (try simp only [bne_iff_ne, bne_eq_false_iff_eq, ne_eq] at h2)
  exact .fin [.r [(2, X (Xc3 80 [(0, 8), (1, 24)] (fc_walkV d hV k) X0))], .r []] []
end Go.Ch
end
section
set_option linter.unusedVariables false
namespace Go.Ch
open Go Go.Ab
def firstD : Doc := ⟨[⟨1, 0, [], [⟨0, 2, []⟩], ⟨0, 0, [], []⟩, []⟩, ⟨2, 1, [], [⟨10, 0, []⟩], ⟨0, 0, [], []⟩, []⟩]⟩
theorem first_e : docE firstD = 0 := by decide +kernel
theorem first_vis : visD firstD 2 = true := by decide +kernel
theorem first_b : DocB firstD := by
  refine ⟨by decide, fun n hn => ?_, by decide⟩
  have hn2 : n = ⟨1, 0, [], [⟨0, 2, []⟩], ⟨0, 0, [], []⟩, []⟩ ∨ n = ⟨2, 1, [], [⟨10, 0, []⟩], ⟨0, 0, [], []⟩, []⟩ := by
    unfold firstD at hn; simpa using hn
  rcases hn2 with rfl | rfl
  all_goals
    refine ⟨fun a ha => ?_, by decide, fun x hx => ?_, by decide, fun x hx => ?_, fun c hc => ?_, by decide, fun c hc => ?_, by decide, by decide, fun o ho => ?_⟩
    · cases ha
    · rw [List.mem_singleton.1 hx]; intro a ha; cases ha
    · rw [List.mem_singleton.1 hx]; decide
    · cases hc
    · cases hc
    · cases ho
theorem first_v : DocV firstD := ⟨first_b, first_e⟩
end Go.Ch
end
section
set_option linter.unusedVariables false
set_option linter.unusedSimpArgs false
set_option maxRecDepth 100000
set_option maxHeartbeats 4000000
open Go Go.Proofs Go.Ab
namespace Go.Ch
theorem fc_first  : FC Tryz.prog 24 [] (app emp []) (.t (docT firstD)) (app emp []) := by
 refine .go Tryz.f24 ?_
 have e1 : (firstD : Doc) = ({ nodes := [({ id := 1, kind := 0, attrs := [], flow := [({ char := 0, ref := 2, attrs := [] } : Elem)], grid := ({ rows := 0, cols := 0, cells := [], merges := [] } : Grid), draw := [] } : Node), ({ id := 2, kind := 1, attrs := [], flow := [({ char := 10, ref := 0, attrs := [] } : Elem)], grid := ({ rows := 0, cols := 0, cells := [], merges := [] } : Grid), draw := [] } : Node)] } : Doc) := by
  rfl
 exact .finVE [.r [], .r [(0, X (Xf [(2, 2)])), (2, X (Xf [(2, 2), (6, 5), (7, 4), (8, 8)])), (3, X (Xf [(2, 2)])), (5, X (Xf [(2, 2), (6, 5), (7, 4), (8, 8)])), (6, X (rowC elemT [({ char := 0, ref := 2, attrs := [] } : Elem)] (rowC elemT [({ char := 10, ref := 0, attrs := [] } : Elem)] X0)))]] [.fR 0 [(2 : Nat) = (List.map nodeT [({ id := 1, kind := 0, attrs := [], flow := [({ char := 0, ref := 2, attrs := [] } : Elem)], grid := ({ rows := 0, cols := 0, cells := [], merges := [] } : Grid), draw := [] } : Node), ({ id := 2, kind := 1, attrs := [], flow := [({ char := 10, ref := 0, attrs := [] } : Elem)], grid := ({ rows := 0, cols := 0, cells := [], merges := [] } : Grid), draw := [] } : Node)]).length] ⟨lm, trivial⟩] [] (fun z0 => (.t (docT z0), [])) (({ nodes := [({ id := 1, kind := 0, attrs := [], flow := [({ char := 0, ref := 2, attrs := [] } : Elem)], grid := ({ rows := 0, cols := 0, cells := [], merges := [] } : Grid), draw := [] } : Node), ({ id := 2, kind := 1, attrs := [], flow := [({ char := 10, ref := 0, attrs := [] } : Elem)], grid := ({ rows := 0, cols := 0, cells := [], merges := [] } : Grid), draw := [] } : Node)] } : Doc) : Doc) (firstD : Doc) e1

theorem fc_docs  : FC Tryz.prog 7 [] (app emp []) (VB true) (app emp []) := by
 refine .go Tryz.f7 ?_
 have q1 := first_b
 have q2 := first_v
 have e1 : (((((docE firstD) == 0) && ((firstD.nodes.length : Int) == 2)) && (visD firstD 2)) : Bool) = true := by
  rw [first_e, first_vis]; rfl
 exact .finE [.r [], .r [(0, X (Xc1 8 fc_first X0))], .r [(1, X (Xc0 (fc_docCk firstD (by assumption)) X0)), (5, Xv 1 ((docE firstD) == 0) X0), (6, Xv 1 ((docE firstD) == 0) (Xl nodeT firstD.nodes)), (7, Xv 1 ((docE firstD) == 0) X0), (8, X (Xk ((docE firstD) == 0))), (11, Xv 1 (((docE firstD) == 0) && ((firstD.nodes.length : Int) == 2)) (Xc0 (fc_visible firstD 2 (by assumption)) X0)), (12, X (Xk (((docE firstD) == 0) && ((firstD.nodes.length : Int) == 2))))]] [] (fun z0 => (VB z0, [])) (((((docE firstD) == 0) && ((firstD.nodes.length : Int) == 2)) && (visD firstD 2)) : Bool) (true : Bool) e1.symm
end Go.Ch
end
section
set_option linter.unusedVariables false
namespace Go.Ch
open Go Go.Ab

/-- Each visit of L has a parent among a and what was ahead of it, and that is visible if it is. -/
def Chain (a : Vis) (L : List Vis) : Prop := ∀ L1 w L2, L = L1 ++ w :: L2 → ∃ u ∈ a :: L1, u.id = w.parent ∧ (w.vis = true → u.vis = true)
theorem Chain.nil (a : Vis) : Chain a [] := fun L1 w L2 h => by simp at h
theorem Chain.app {a : Vis} {L M : List Vis} (h1 : Chain a L) (h2 : Chain a M) : Chain a (L ++ M) := by
  intro L1 w L2 h
  rcases List.append_eq_append_iff.1 h with ⟨X, e1, e2⟩ | ⟨X, e1, e2⟩
  · obtain ⟨u, hu, h3⟩ := h2 X w L2 e2
    refine ⟨u, ?_, h3⟩
    rw [e1]
    rcases List.mem_cons.1 hu with hu | hu
    · exact hu ▸ List.mem_cons_self
    · exact List.mem_cons_of_mem _ (List.mem_append_right _ hu)
  · cases X with
    | nil =>
      rw [List.append_nil] at e1
      rw [List.nil_append] at e2
      obtain ⟨u, hu, h3⟩ := h2 [] w L2 e2.symm
      refine ⟨u, ?_, h3⟩
      rcases List.mem_cons.1 hu with hu | hu
      · exact hu ▸ List.mem_cons_self
      · cases hu
    | cons x X =>
      rw [List.cons_append] at e2
      injection e2 with e3 e4
      subst e3
      exact h1 L1 w X e1
theorem Chain.kid {v k : Vis} {M : List Vis} (h : Chain k M) (hp : k.parent = v.id) (hv : k.vis = true → v.vis = true) : Chain v (k :: M) := by
  intro L1 w L2 e
  cases L1 with
  | nil => rw [List.nil_append] at e; injection e with e1 e2; subst e1; exact ⟨v, List.mem_cons_self, hp.symm, hv⟩
  | cons x L1 =>
    rw [List.cons_append] at e; injection e with e1 e2; subst e1
    obtain ⟨u, hu, h3⟩ := h L1 w L2 e2
    exact ⟨u, List.mem_cons_of_mem _ hu, h3⟩
theorem kids_ok {l : List Node} {v k : Vis} (h : k ∈ kidsV l v) : k.parent = v.id ∧ (k.vis = true → v.vis = true) := by
  unfold kidsV at h
  rcases List.mem_append.1 h with h | h
  · rcases List.mem_append.1 h with h | h
    · obtain ⟨r, _, rfl⟩ := List.mem_map.1 h; exact ⟨rfl, fun q => q⟩
    · obtain ⟨c, _, hc⟩ := List.mem_flatMap.1 h
      unfold kidC at hc
      split at hc
      · rw [List.mem_singleton.1 hc]
        refine ⟨rfl, fun q => ?_⟩
        change visC _ v.vis c = true at q
        unfold visC at q
        simp only [Bool.and_eq_true] at q
        exact q.1.1
      · cases hc
  · obtain ⟨r, _, rfl⟩ := List.mem_map.1 h; exact ⟨rfl, fun q => q⟩
structure VOk (S : List Int) (v : Vis) (W : List Vis) : Prop where
  head : W = [] ∨ ∃ M, W = v :: M ∧ Chain v M
  nd : (idsV9 W).Nodup
  new : ∀ k ∈ idsV9 W, k ∉ S
theorem walkL_ok {f : List Int → Vis → List Vis} {v : Vis} (hf : ∀ S k, k.parent = v.id ∧ (k.vis = true → v.vis = true) → VOk S k (f S k)) : ∀ (ks : List Vis) (S : List Int), (∀ k ∈ ks, k.parent = v.id ∧ (k.vis = true → v.vis = true)) →
    Chain v (walkL f S ks) ∧ (idsV9 (walkL f S ks)).Nodup ∧ ∀ k ∈ idsV9 (walkL f S ks), k ∉ S
  | [], S, _ => ⟨Chain.nil v, by simp [walkL, idsV9], fun k hk => by simp [walkL, idsV9] at hk⟩
  | k :: ks, S, h => by
    have hk := h k List.mem_cons_self
    obtain ⟨a1, a2, a3⟩ := hf S k hk
    obtain ⟨b1, b2, b3⟩ := walkL_ok hf ks (S ++ idsV9 (f S k)) (fun x hx => h x (List.mem_cons_of_mem _ hx))
    rw [walkL]
    refine ⟨Chain.app ?_ b1, ?_, fun x hx => ?_⟩
    · rcases a1 with a1 | ⟨M, a1, a4⟩
      · rw [a1]; exact Chain.nil v
      · rw [a1]; exact a4.kid hk.1 hk.2
    · rw [idsV9_app, List.nodup_append]
      exact ⟨a2, b2, fun x hx y hy e => b3 y hy (List.mem_append_right _ (e ▸ hx))⟩
    · rw [idsV9_app] at hx
      rcases List.mem_append.1 hx with hx | hx
      · exact a3 x hx
      · exact fun q => b3 x hx (List.mem_append_left _ q)
theorem walkV_ok (l : List Node) : ∀ (n : Nat) (S : List Int) (v : Vis), VOk S v (walkV l n S v)
  | 0, S, v => ⟨.inl rfl, by simp [walkV, idsV9], fun k hk => by simp [walkV, idsV9] at hk⟩
  | n + 1, S, v => by
    rw [walkV]
    split
    · exact ⟨.inl rfl, by simp [idsV9], fun k hk => by simp [idsV9] at hk⟩
    · rename_i hv
      obtain ⟨b1, b2, b3⟩ := walkL_ok (f := walkV l n) (v := v) (fun S k _ => walkV_ok l n S k) (kidsV l v) (S ++ [v.id]) (fun k hk => kids_ok hk)
      refine ⟨.inr ⟨_, rfl, b1⟩, ?_, fun k hk => ?_⟩
      · show (v.id :: idsV9 _).Nodup
        rw [List.nodup_cons]
        exact ⟨fun q => b3 _ q (List.mem_append_right _ (List.mem_singleton.2 rfl)), b2⟩
      · rcases List.mem_cons.1 (show k ∈ v.id :: idsV9 _ from hk) with rfl | hk
        · exact hv
        · exact fun q => b3 k hk (List.mem_append_left _ q)
theorem tree_head (d : Doc) : ∃ M, treeV d = root9 :: M ∧ Chain root9 M := by
  have h := (walkV_ok d.nodes (d.nodes.length + 1) [] root9).head
  rcases h with h | h
  · exfalso
    rw [walkV, if_neg (by simp)] at h
    cases h
  · exact h
theorem tree_nd (d : Doc) : ((treeV d).map Vis.id).Nodup := (walkV_ok d.nodes (d.nodes.length + 1) [] root9).nd
theorem tree_pos (d : Doc) : 0 < (treeV d).length := by obtain ⟨M, h, _⟩ := tree_head d; rw [h]; simp
theorem tree_0 (d : Doc) : (treeV d).getD 0 default = root9 := by obtain ⟨M, h, _⟩ := tree_head d; rw [h]; rfl
theorem vis_at {d : Doc} {i : Nat} (h : i < (treeV d).length) : visD d ((treeV d).getD i default).id = ((treeV d).getD i default).vis := by
  have hn := tree_nd d
  have hs := split_at h
  unfold visD
  generalize treeV d = L at *
  generalize L.getD i default = v at *
  have hnone : (L.take i).find? (fun w => w.id == v.id) = none := by
    rw [List.find?_eq_none]
    intro w hw
    rw [hs, List.map_append, List.nodup_append] at hn
    simp only [beq_iff_eq]
    intro e
    exact hn.2.2 w.id (List.mem_map.2 ⟨w, hw, rfl⟩) v.id (by simp) e
  conv => lhs; rw [hs]
  rw [List.find?_append, hnone, Option.none_or, List.find?_cons]
  simp
theorem tree_par {d : Doc} {i : Nat} (h0 : 0 < i) (h : i < (treeV d).length) : ∃ j, j < i ∧ ((treeV d).getD j default).id = ((treeV d).getD i default).parent ∧ (((treeV d).getD i default).vis = true → ((treeV d).getD j default).vis = true) := by
  obtain ⟨M, hM, hC⟩ := tree_head d
  have hs := split_at h
  obtain ⟨i, rfl⟩ : ∃ n, i = n + 1 := ⟨i - 1, by omega⟩
  rw [hM] at hs h ⊢
  rw [List.take_succ_cons, List.cons_append] at hs
  injection hs with _ hs
  obtain ⟨u, hu, h1, h2⟩ := hC _ _ _ hs
  have hm : u ∈ (root9 :: M).take (i + 1) := by rw [List.take_succ_cons]; exact hu
  obtain ⟨j, hj, rfl⟩ := List.mem_iff_getElem.1 hm
  rw [List.length_take] at hj
  refine ⟨j, by omega, ?_, ?_⟩
  · rw [List.getElem_take] at h1
    rw [List.getD_eq_getElem?_getD, List.getElem?_eq_getElem (by omega)]; exact h1
  · rw [List.getElem_take] at h2
    rw [List.getD_eq_getElem?_getD (l := root9 :: M) (i := j), List.getElem?_eq_getElem (by omega)]; exact h2
theorem tree_vis {d : Doc} {i : Nat} (h0 : 0 < i) (h : i < (treeV d).length) (hv : visD d ((treeV d).getD i default).id = true) : visD d ((treeV d).getD i default).parent = true := by
  obtain ⟨j, h1, h2, h3⟩ := tree_par h0 h
  rw [vis_at h] at hv
  rw [← h2, vis_at (by omega)]
  exact h3 hv
theorem tree_ne {d : Doc} {i j : Nat} (h : i < j) (hj : j < (treeV d).length) : ((treeV d).getD i default).id ≠ ((treeV d).getD j default).id := by
  have hn := tree_nd d
  rw [List.getD_eq_getElem?_getD, List.getD_eq_getElem?_getD, List.getElem?_eq_getElem (by omega), List.getElem?_eq_getElem hj]
  intro e
  have := (List.pairwise_iff_getElem.1 hn) i j (by simp; omega) (by simpa using hj) h
  simp only [List.getElem_map] at this
  exact this e
/-! ### The two lists that the statement makes -/
def tkI (d : Doc) (k : Nat) : List Int := ((treeV d).take k).map Vis.id
def tkP (d : Doc) (k : Nat) : List Int := ((treeV d).take k).map Vis.parent
theorem tk_succ {d : Doc} {k : Nat} (h : k < (treeV d).length) : tkI d k ++ [((treeV d).getD k default).id] = tkI d (k + 1) ∧ tkP d k ++ [((treeV d).getD k default).parent] = tkP d (k + 1) := ⟨mapTake _ h, mapTake _ h⟩
theorem tk_len (d : Doc) (k : Nat) (h : k ≤ (treeV d).length) : (tkI d k).length = k ∧ (tkP d k).length = k := by unfold tkI tkP; simp; omega
theorem tk_get {d : Doc} {i : Nat} (h : i < (treeV d).length) : (tkI d (treeV d).length).getD i default = ((treeV d).getD i default).id ∧ (tkP d (treeV d).length).getD i default = ((treeV d).getD i default).parent := by
  unfold tkI tkP
  rw [List.take_length, List.getD_eq_getElem?_getD, List.getD_eq_getElem?_getD, List.getD_eq_getElem?_getD, List.getElem?_map, List.getElem?_map, List.getElem?_eq_getElem h]
  exact ⟨rfl, rfl⟩
/-- What the inner loop says: the parent was met. -/
def SeenB (d : Doc) (i k : Nat) (b : Bool) : Prop := (i = 0 → b = true) ∧ ((∃ j, j < k ∧ ((treeV d).getD j default).id = ((treeV d).getD i default).parent) → b = true)
theorem SeenB.end_ {d : Doc} {i : Nat} {b : Bool} (h : SeenB d i i b) (hi : i < (treeV d).length) : b = true := by
  by_cases q : i = 0
  · exact h.1 q
  · obtain ⟨j, h1, h2, _⟩ := tree_par (by omega) hi
    exact h.2 ⟨j, h1, h2⟩
theorem walkL_has {d : Doc} {f : List Int → Vis → List Vis} (hf : ∀ S v, hasN d.nodes v.id = true → ∀ w ∈ f S v, hasN d.nodes w.id = true) : ∀ (ks : List Vis) (S : List Int), (∀ k ∈ ks, hasN d.nodes k.id = true) → ∀ w ∈ walkL f S ks, hasN d.nodes w.id = true := by
  intro ks
  induction ks with
  | nil => intro S _ w hw; simp [walkL] at hw
  | cons k ks ih =>
    intro S hk w hw
    rw [walkL] at hw
    rcases List.mem_append.1 hw with hw | hw
    · exact hf S k (hk k List.mem_cons_self) w hw
    · exact ih _ (fun x hx => hk x (List.mem_cons_of_mem _ hx)) w hw
theorem walkV_has {d : Doc} (hV : DocV d) (n : Nat) : ∀ (S : List Int) (v : Vis), hasN d.nodes v.id = true → ∀ w ∈ walkV d.nodes n S v, hasN d.nodes w.id = true := by
  induction n with
  | zero => intro S v _ w hw; simp [walkV] at hw
  | succ n ih =>
    intro S v h w hw
    rw [walkV] at hw
    split at hw
    · simp at hw
    rcases List.mem_cons.1 hw with rfl | hw
    · exact h
    · exact walkL_has ih _ _ (fun k hk => kids_has hV h hk) w hw
theorem tree_has {d : Doc} (hV : DocV d) {w : Vis} (hw : w ∈ treeV d) : hasN d.nodes w.id = true := walkV_has hV (d.nodes.length + 1) [] root9 hV.one w hw
theorem tree_len {d : Doc} (hV : DocV d) : (treeV d).length ≤ d.nodes.length := by
  have h := nodup_len d.nodes.length ((treeV d).map fun w => lobN d.nodes w.id) (by
    have hn := tree_nd d
    unfold List.Nodup at hn ⊢
    rw [List.pairwise_map] at hn ⊢
    refine hn.imp_of_mem (fun {a b} ha hb h e => h ?_)
    rw [← (hasN_iff.1 (tree_has hV ha)).2, ← (hasN_iff.1 (tree_has hV hb)).2, e]) (fun j hj => by
    obtain ⟨w, hw, rfl⟩ := List.mem_map.1 hj
    exact (hasN_iff.1 (tree_has hV hw)).1)
  simpa using h
end Go.Ch
end
section
set_option linter.unusedVariables false
set_option linter.unusedSimpArgs false
set_option maxRecDepth 100000
set_option maxHeartbeats 4000000
open Go Go.Proofs Go.Ab
namespace Go.Ch
theorem fc_law32 (d : Doc) (hb : DocB d) : FC Tryz.prog 3 [.t (docT d)] (app emp []) (VB true) (app emp []) := by
 refine .go Tryz.f3 ?_
 refine .br [.r [], .r [(0, X (Xc0 fc_docs X0))], .f, .r [(1, X (Xc0 (fc_docR d (by assumption)) X0)), (5, Xv 1 (!((docE d) != 0)) (Xc0 (fc_smallR d (by assumption)) X0)), (6, Xv 1 (!((docE d) != 0)) X0), (7, X (Xk' ((docE d) != 0)))]] (((docE d) != 0) || !(smallD d)) (fun h3 => ?_) (fun h3 => ?_)
 ·
  (try simp only [Bool.not_eq_true', Bool.not_eq_false', Bool.or_eq_true, Bool.or_eq_false_iff, bne_iff_ne, bne_eq_false_iff_eq, ne_eq] at h3)
  exact .finV [.r []] [] []
 ·
  (try simp only [Bool.not_eq_true', Bool.not_eq_false', Bool.or_eq_true, Bool.or_eq_false_iff, bne_iff_ne, bne_eq_false_iff_eq, ne_eq] at h3)
  have hV : DocV d := ⟨hb, h3.1⟩
  have hn := tree_len hV
  have hp := tree_pos d
  have hbl := hb.len
  refine .rng [.r [], .r [(1, X (Xc1 120 (fc_tree d (by assumption)) X0))], .le (.nB 96 0 1), .le (.nB 104 0 1)] encP default (treeV d) (fun k => [(0, .box [VL 9 nodeT d.nodes]), (8, .box [VB false]), (96, .box [.row 128 ((tkI d k).length)]), (104, .box [.row 129 ((tkP d k).length)]), (128, OR 1 intT (tkI d k)), (129, OR 1 intT (tkP d k))]) [(120, .box [VL 9 nodeT ((d).nodes)])] (fun _ => none) ((treeV d).length) 999 130 [(1, .ptr 0 0), (2, .ptr 8 0), (3, .ptr 96 0), (4, .ptr 104 0), (22, .fn 37 [.ptr 120 0])] [1, 2, 3, 4] (fun k => ([(3, .ptr 96 0), (4, .ptr 104 0), (5, VI (((treeV d).getD k default).id)), (6, VI (((treeV d).getD k default).parent))], [(0, .box [VL 9 nodeT d.nodes]), (8, .box [VB false]), (96, .box [.row 128 ((tkI d k).length)]), (104, .box [.row 129 ((tkP d k).length)]), (128, OR 1 intT (tkI d k)), (129, OR 1 intT (tkP d k))])) 146 (iter_of (d := d) (gf := 37) (caps := [.ptr 120 0]) (C := [(120, .box [VL 9 nodeT d.nodes])]) (e := 999) (res := .tup []) (J := (fun _ => none)) (m := (treeV d).length) (Nat.le_refl _) (fun _ _ _ => rfl) (.inl rfl) rfl (fun Y hY ha => (fc_treeB d Y hY hV [] ha).ren [(0, 999), (1, 120)] [(0, 999), (1, 120)] (by kernel_rfl) (by kernel_rfl) (by kernel_rfl) (by kernel_rfl) (by kernel_rfl) (by kernel_rfl))) (fun k hk hj => ⟨by kernel_rfl, ?_, ?_⟩) .normal ?_ (fun _ => by kernel_rfl)
  ·
   exact .rass [.r [], .r []] [(0, 0), (8, 8), (96, 96), (104, 104), (128, 128), (129, 129)]
  ·
   have hkl := tk_len d k (by omega)
   exact .rend [.r [(3, X (rowC intT [((treeV d).getD k default).id] (Xap 1 intT 128 (tkI d k) [((treeV d).getD k default).id]))), (7, X (rowC intT [((treeV d).getD k default).parent] (Xap 1 intT 129 (tkP d k) [((treeV d).getD k default).parent])))]] [(0, 0), (8, 8), (96, 96), (104, 104), (128, 128), (129, 129)] .normal [(0, .box [VL 9 nodeT d.nodes]), (8, .box [VB false]), (96, .box [.row 128 (((tkI d k) ++ [((treeV d).getD k default).id]).length)]), (104, .box [.row 129 (((tkP d k) ++ [((treeV d).getD k default).parent]).length)]), (128, OR 1 intT ((tkI d k) ++ [((treeV d).getD k default).id])), (129, OR 1 intT ((tkP d k) ++ [((treeV d).getD k default).parent]))] rfl (by rw [← (tk_succ hk).1, ← (tk_succ hk).2])
  have htl := tk_len d (treeV d).length (Nat.le_refl _)
  refine .loop (α := Nat) [.r []] 154 (fun i => ([(1, .ptr 0 0), (2, .ptr 8 0), (3, .ptr 96 0), (4, .ptr 104 0), (34, VI ((tkI d ((treeV d).length)).length : Int)), (35, VI (i : Int))], [(0, .box [VL 9 nodeT d.nodes]), (8, .box [VB false]), (96, .box [.row 128 ((tkI d ((treeV d).length)).length)]), (104, .box [.row 129 ((tkP d ((treeV d).length)).length)]), (128, OR 1 intT (tkI d ((treeV d).length))), (129, OR 1 intT (tkP d ((treeV d).length)))])) (fun i => i ≤ (treeV d).length) (fun i => (treeV d).length - i) (0 : Nat) ?_ ?_
  ·
   exact Nat.zero_le _
  rintro i I11 ih11
  try dsimp only at I11
  refine .br [.r []] (decide ((i : Int) < ((tkI d ((treeV d).length)).length : Int))) (fun h11 => ?_) (fun h11 => ?_)
  ·
   (try simp only [decide_eq_true_eq, decide_eq_false_iff_not, Int.not_lt, Int.not_le] at h11)
   have hi : i < (treeV d).length := by omega
   have gi := tk_get hi
   refine .loop (α := Bool × Nat) [.r [], .r [(4, Xv 1 ((i : Int) == 0) (Xp intT (tkI d ((treeV d).length)) 0)), (5, Xv 1 ((i : Int) == 0) (Xe intT (tkI d ((treeV d).length)) 0)), (6, Xv 1 ((i : Int) == 0) X0), (7, X (Xk ((i : Int) == 0))), (10, Xv 1 (((i : Int) == 0) && (((tkI d ((treeV d).length)).getD 0 default) == 1)) (Xp intT (tkP d ((treeV d).length)) 0)), (11, Xv 1 (((i : Int) == 0) && (((tkI d ((treeV d).length)).getD 0 default) == 1)) (Xe intT (tkP d ((treeV d).length)) 0)), (12, Xv 1 (((i : Int) == 0) && (((tkI d ((treeV d).length)).getD 0 default) == 1)) X0), (13, X (Xk (((i : Int) == 0) && (((tkI d ((treeV d).length)).getD 0 default) == 1))))], .r []] 314 (fun (b, k) => ([(1, .ptr 0 0), (2, .ptr 8 0), (3, .ptr 96 0), (4, .ptr 104 0), (7, VI (i : Int)), (8, VB b), (34, VI ((tkI d ((treeV d).length)).length : Int)), (35, VI (i : Int)), (52, VI (i : Int)), (53, VI (k : Int))], [(0, .box [VL 9 nodeT d.nodes]), (8, .box [VB false]), (96, .box [.row 128 ((tkI d ((treeV d).length)).length)]), (104, .box [.row 129 ((tkP d ((treeV d).length)).length)]), (128, OR 1 intT (tkI d ((treeV d).length))), (129, OR 1 intT (tkP d ((treeV d).length)))])) (fun (b, k) => k ≤ i ∧ SeenB d i k b) (fun (b, k) => i - k) (((((i : Int) == 0) && (((tkI d ((treeV d).length)).getD 0 default) == 1)) && (((tkP d ((treeV d).length)).getD 0 default) == 0)), 0) ?_ ?_
   ·
    exact ⟨Nat.zero_le _, fun q => by subst q; rw [(tk_get hp).1, (tk_get hp).2, tree_0]; rfl, fun ⟨j, q, _⟩ => absurd q (Nat.not_lt_zero _)⟩
   rintro ⟨b, k⟩ I15 ih15
   try dsimp only at I15
   refine .br [.r []] (decide ((k : Int) < (i : Int))) (fun h15 => ?_) (fun h15 => ?_)
   ·
    (try simp only [decide_eq_true_eq, decide_eq_false_iff_not, Int.not_lt, Int.not_le] at h15)
    refine .br [.r [], .r [(2, X (Xp intT (tkI d ((treeV d).length)) (k : Int))), (3, X (Xe intT (tkI d ((treeV d).length)) k)), (6, X (Xp intT (tkI d ((treeV d).length)) (i : Int))), (7, X (Xe intT (tkI d ((treeV d).length)) i))]] (((tkI d ((treeV d).length)).getD k default) == ((tkI d ((treeV d).length)).getD i default)) (fun h17 => ?_) (fun h17 => ?_)
    ·
     (try simp only [beq_iff_eq, beq_eq_false_iff_ne, ne_eq] at h17)
     exfalso
     have gk := tk_get (d := d) (i := k) (by omega)
     exact tree_ne (d := d) (i := k) (by omega) hi (by rw [← gk.1, ← gi.1]; exact h17)
    ·
     (try simp only [beq_iff_eq, beq_eq_false_iff_ne, ne_eq] at h17)
     refine .back [.r [(4, Xv 2 (!b) (Xp intT (tkI d ((treeV d).length)) (k : Int))), (5, Xv 1 (!b) (Xe intT (tkI d ((treeV d).length)) k)), (8, Xv 2 (!b) (Xp intT (tkP d ((treeV d).length)) (i : Int))), (9, Xv 1 (!b) (Xe intT (tkP d ((treeV d).length)) i)), (10, Xv 2 (!b) X0), (11, X (Xk' b))], .r [(0, X (Xn ((k : Int) + 1)))]] [(0, 0), (8, 8), (96, 96), (104, 104), (128, 128), (129, 129)] (ih15 ((b || (((tkI d ((treeV d).length)).getD k default) == ((tkP d ((treeV d).length)).getD i default))), (k + 1)) ?_ ?_)
     ·
      refine ⟨by omega, fun q => by rw [I15.2.1 q]; rfl, fun ⟨j, q1, q2⟩ => ?_⟩
      rw [Bool.or_eq_true, beq_iff_eq]
      by_cases q : j = k
      · right; subst q; rw [(tk_get (d := d) (i := j) (by omega)).1, gi.2]; exact q2
      · left; exact I15.2.2 ⟨j, by omega, q2⟩
     ·
      ((try dsimp only); omega)
   ·
    (try simp only [decide_eq_true_eq, decide_eq_false_iff_not, Int.not_lt, Int.not_le] at h15)
    refine .br [.r [(4, Xv 1 (!(!b)) X0), (5, Xv 1 (!(!b)) X0), (9, Xv 2 ((!(!b)) && (decide ((i : Int) > 0))) (Xp intT (tkI d ((treeV d).length)) (i : Int))), (10, Xv 1 ((!(!b)) && (decide ((i : Int) > 0))) (Xe intT (tkI d ((treeV d).length)) i)), (11, Xv 2 ((!(!b)) && (decide ((i : Int) > 0))) (Xc0 (fc_visible d ((tkI d ((treeV d).length)).getD i default) (by assumption)) X0)), (12, Xka (!(!b)) (decide ((i : Int) > 0))), (13, Xv 1 (!(!b)) X0), (17, Xv 2 ((!(!b)) && (decide ((i : Int) > 0) && (visD d ((tkI d ((treeV d).length)).getD i default)))) (Xp intT (tkP d ((treeV d).length)) (i : Int))), (18, Xv 1 ((!(!b)) && (decide ((i : Int) > 0) && (visD d ((tkI d ((treeV d).length)).getD i default)))) (Xe intT (tkP d ((treeV d).length)) i)), (19, Xv 2 ((!(!b)) && (decide ((i : Int) > 0) && (visD d ((tkI d ((treeV d).length)).getD i default)))) (Xc0 (fc_visible d ((tkP d ((treeV d).length)).getD i default) (by assumption)) X0)), (20, Xv 1 ((!(!b)) && (decide ((i : Int) > 0) && (visD d ((tkI d ((treeV d).length)).getD i default)))) X0), (21, Xka (!(!b)) (decide ((i : Int) > 0) && (visD d ((tkI d ((treeV d).length)).getD i default)))), (22, X (Xk' (!b)))]] (!b || ((decide ((i : Int) > 0) && (visD d ((tkI d ((treeV d).length)).getD i default))) && !(visD d ((tkP d ((treeV d).length)).getD i default)))) (fun h21 => ?_) (fun h21 => ?_)
    ·
     (try simp only [decide_eq_true_eq, decide_eq_false_iff_not, Int.not_lt, Int.not_le, gt_iff_lt, Bool.not_eq_true', Bool.not_eq_false', Bool.and_eq_true, Bool.and_eq_false_iff, Bool.or_eq_true, Bool.or_eq_false_iff] at h21)
     exfalso
     have hk : k = i := by omega
     rw [hk] at I15
     have hb1 := I15.2.end_ hi
     rcases h21 with q | ⟨⟨q1, q2⟩, q3⟩
     · rw [hb1] at q; cases q
     · rw [gi.1] at q2; rw [gi.2, tree_vis (by omega) hi q2] at q3; cases q3
    ·
     (try simp only [decide_eq_true_eq, decide_eq_false_iff_not, Int.not_lt, Int.not_le, gt_iff_lt, Bool.not_eq_true', Bool.not_eq_false', Bool.and_eq_true, Bool.and_eq_false_iff, Bool.or_eq_true, Bool.or_eq_false_iff] at h21)
     refine .back [.r [(0, X (Xn ((i : Int) + 1)))]] [(0, 0), (8, 8), (96, 96), (104, 104), (128, 128), (129, 129)] (ih11 ((i + 1) : Nat) ?_ ?_)
     ·
      show _; (first | omega | with_reducible exact fun h => h | (intro hq; rw [hq]; done) | (intro hq; rw [hq]; rfl) | (simp only [List.length_map]; done) | (simp only [List.length_map]; omega) | (simp; omega) | (simp; done))
     ·
      ((try dsimp only); omega)
  ·
   (try simp only [decide_eq_true_eq, decide_eq_false_iff_not, Int.not_lt, Int.not_le] at h11)
   refine .rng [.r [(1, X (Xc1 170 (fc_tree d (by assumption)) X0))]] encP default (treeV d) (fun k => [(8, .box [VB false]), (96, .box [.row 128 ((tkI d ((treeV d).length)).length)]), (128, OR 1 intT (tkI d ((treeV d).length)))]) [(170, .box [VL 9 nodeT ((d).nodes)])] (fun k => if k = 0 then none else some (.exit 6)) 1 998 178 [(2, .ptr 8 0), (3, .ptr 96 0), (103, .fn 37 [.ptr 170 0])] [2, 3] (fun k => ([(2, .ptr 8 0), (10, VI (((treeV d).getD k default).id))], [(8, .box [VB false]), (96, .box [.row 128 ((tkI d ((treeV d).length)).length)]), (128, OR 1 intT (tkI d ((treeV d).length)))])) 186 (iter_of (d := d) (gf := 37) (caps := [.ptr 170 0]) (C := [(170, .box [VL 9 nodeT d.nodes])]) (e := 998) (res := .tup []) (J := (fun k => if k = 0 then none else some (.exit 6))) (m := 1) (tree_pos d) (fun k h1 h2 => by omega) (.inr ⟨by decide, by decide⟩) rfl (fun Y hY ha => (fc_treeB d Y hY hV [] ha).ren [(0, 998), (1, 170)] [(0, 998), (1, 170)] (by kernel_rfl) (by kernel_rfl) (by kernel_rfl) (by kernel_rfl) (by kernel_rfl) (by kernel_rfl))) (fun k hk hj => ⟨by kernel_rfl, ?_, ?_⟩) (.exit 6) ?_ (fun _ => by kernel_rfl)
   ·
    exact .rass [.r []] [(8, 8), (96, 96), (128, 128)]
   ·
    refine .br [.r []] ((((treeV d).getD k default).id) != 1) (fun h26 => ?_) (fun h26 => ?_)
    ·
     (try simp only [bne_iff_ne, bne_eq_false_iff_eq, ne_eq] at h26)
     exfalso
     have hk0 : k = 0 := by (by_cases q : k = 0; exact q; rw [if_neg q] at hj; cases hj)
     subst hk0
     rw [tree_0] at h26
     exact h26 rfl
    ·
     (try simp only [bne_iff_ne, bne_eq_false_iff_eq, ne_eq] at h26)
     exact .rend [] [(8, 8), (96, 96), (128, 128)] (.exit 6) [(8, .box [VB false]), (96, .box [.row 128 ((tkI d ((treeV d).length)).length)]), (128, OR 1 intT (tkI d ((treeV d).length)))] (by show exitOf (if k + 1 = 0 then none else some (.exit 6)) = _; rw [if_neg (by omega)]; rfl) (by rfl)
   have e1 : (decide (((tkI d ((treeV d).length)).length : Int) > 0) : Bool) = true := by
    first | (exact decide_eq_true (by omega)) | (exact (decide_eq_true (by omega)).symm)
   exact .finVE [.r []] [] [] (fun z0 => (VB z0, [])) (decide (((tkI d ((treeV d).length)).length : Int) > 0) : Bool) (true : Bool) e1.symm
end Go.Ch
end
section
set_option linter.unusedVariables false
namespace Go.Ab
open Go Go.Proofs.YtfhidobmbgmjfaaGreatDoor
variable {P : Program} {W : World}

def RdM (P : Program) (t : TypeId) (k : Nat) {α : Type} (f : α → Tree) (μ : α → Nat) : Prop :=
  (∀ a, Elt k (f a)) ∧ P.cellsOf t = k ∧ ∀ (H : Type) (enc : TypeId × Value → H) (W : World) (fuel : Nat) (cs : List Value) (x : DataW H × List MemPlace),
    DataW.trod enc P W 0 (fun _ => true) true fuel t cs = some x → ∃ a : α, CellsR W (f a).cells cs ∧ μ a ≤ Rows.uptoBulk x.1

theorem bulk_pos {H : Type} (d : DataW H) : 1 ≤ Rows.uptoBulk d := by
  cases d with
  | lit l => cases l <;> simp [Rows.uptoBulk]
  | _ => simp [Rows.uptoBulk]

theorem RdM.int {t : TypeId} {k : IntKind} (ht : P.underlying t = some (.int k)) (hc : P.cellsOf t = 1) : RdM P t 1 (fun z : Int => .sc (.int k z)) (fun _ => 1) := by
  refine ⟨fun _ => elt1, hc, fun H enc W fuel cs x h => ?_⟩
  obtain ⟨n, rfl, _, _⟩ := DataW.trod_int ht h
  exact ⟨n, cells1 rfl (.sc _ rfl), bulk_pos _⟩
/-- An integer with its bounds. -/
theorem RdM.i64 {t : TypeId} (ht : P.underlying t = some (.int .i64)) (hc : P.cellsOf t = 1) : RdM P t 1 (fun z : { z : Int // -9223372036854775808 ≤ z ∧ z ≤ 9223372036854775807 } => .sc (.int .i64 z.1)) (fun _ => 1) := by
  refine ⟨fun _ => elt1, hc, fun H enc W fuel cs x h => ?_⟩
  obtain ⟨n, rfl, _, hw⟩ := DataW.trod_int ht h
  exact ⟨⟨n, by simpa [Lit.wf, IntKind.min, IntKind.max, IntKind.signed, IntKind.bits] using hw⟩, cells1 rfl (.sc _ rfl), bulk_pos _⟩
theorem RdM.bool {t : TypeId} (ht : P.underlying t = some .bool) (hc : P.cellsOf t = 1) : RdM P t 1 (fun b : Bool => .sc (.bool b)) (fun _ => 1) := by
  refine ⟨fun _ => elt1, hc, fun H enc W fuel cs x h => ?_⟩
  obtain ⟨n, rfl, _⟩ := DataW.trod_bool ht h
  exact ⟨n, cells1 rfl (.sc _ rfl), bulk_pos _⟩
theorem RdM.str {t : TypeId} (ht : P.underlying t = some .string) (hc : P.cellsOf t = 1) : RdM P t 1 (fun s : ByteArray => .sc (.string s)) (fun s => s.size + 1) := by
  refine ⟨fun _ => elt1, hc, fun H enc W fuel cs x h => ?_⟩
  obtain ⟨n, rfl, rfl, _⟩ := DataW.trod_string ht h
  exact ⟨n, cells1 rfl (.sc _ rfl), by simp [Rows.uptoBulk]⟩

theorem sum_le {α H : Type} {μ : α → Nat} : ∀ {l : List α} {es : List (DataW H)}, l.length = es.length → (∀ (i : Nat) (a : α) (d : DataW H), l[i]? = some a → es[i]? = some d → μ a ≤ Rows.uptoBulk d) → (l.map μ).sum ≤ Rows.uptoBulkAll es
  | [], es, _, _ => by simp
  | a :: l, [], h, _ => by simp at h
  | a :: l, d :: es, h, hi => by
    have h0 := hi 0 a d rfl rfl
    have ih := sum_le (l := l) (es := es) (by simpa using h) (fun i a' d' h1 h2 => hi (i + 1) a' d' (by simpa using h1) (by simpa using h2))
    simp only [List.map_cons, List.sum_cons, Rows.uptoBulkAll]
    omega

theorem RdM.slice {t e : TypeId} {k : Nat} {α : Type} {f : α → Tree} {μ : α → Nat} (ht : P.underlying t = some (.slice e)) (hk : 0 < k) (hc : P.cellsOf t = 1) (he : RdM P e k f μ) : RdM P t 1 (fun l : List α => .lst k (l.map f)) (fun l => (l.map μ).sum + 1) := by
  obtain ⟨h1, h2, h3⟩ := he
  refine ⟨fun l => ⟨rfl, fun T hT => by simp [Tree.cells] at hT; subst hT; rfl⟩, hc, fun H enc W fuel cs x h => ?_⟩
  have hx : ∀ l : List α, ∀ x ∈ l.map f, Elt k x := fun l x hx => by
    obtain ⟨a, _, rfl⟩ := List.mem_map.1 hx
    exact h1 a
  rcases DataW.trod_slice ht h with ⟨rfl, hx0⟩ | ⟨a, len, cap, elems, rest, n, _, rfl, hxe, hb, hl, hm, hlen, hel, _, _⟩
  · refine ⟨[], cells1 rfl (.lst k [] none 0 [] hk (fun x hx => by simp at hx) (Nat.le_refl _) (by simp [maxLen]) (fun h => absurd rfl h) (by simp) (fun j T u hT => by simp [flat] at hT)), ?_⟩
    exact bulk_pos _
  · have key : ∀ i, i < len → ∃ y : α, (∃ cs', cs'.length = k ∧ (∀ r, r < k → W.cell? (a.add (i * k + r)) = cs'[r]?) ∧ CellsR W (f y).cells cs') ∧ ∀ d, (elems.map (·.1))[i]? = some d → μ y ≤ Rows.uptoBulk d := by
      intro i hi
      have h4 := hel i hi
      have h5 : elems[i]? = some elems[i] := by rw [List.getElem?_eq_getElem (by omega)]
      rw [h5, h2] at h4
      obtain ⟨cs', h6, h7⟩ := Option.bind_eq_some_iff.1 h4
      obtain ⟨q1, q2, q3⟩ := World.cells?_some h6
      obtain ⟨y, hy, hμ⟩ := h3 H enc W n cs' _ h7
      refine ⟨y, ⟨cs', q2, fun r hr => ?_, hy⟩, fun d hd => ?_⟩
      · rw [← q3 r hr]
        rw [Addr.add_add]
      · rw [List.getElem?_map, h5] at hd
        simp only [Option.map_some, Option.some.injEq] at hd
        subst hd; exact hμ
    obtain ⟨l, hl1, hl2'⟩ := list_of len _ key
    have hl2 := fun i a h => (hl2' i a h).1
    have hspot : l ≠ [] → ∃ u, W.cell? a = some u := by
      intro hne
      have h0 : 0 < len := by rw [← hl1]; exact List.length_pos_iff.2 hne
      obtain ⟨cs', c1, c2, c3⟩ := hl2 0 l[0] (by rw [List.getElem?_eq_getElem (by omega)])
      have := c2 0 hk
      simp only [Nat.zero_mul, Nat.add_zero] at this
      rw [List.getElem?_eq_getElem (by omega)] at this
      have e : a.add 0 = a := by simp [Addr.add]
      rw [e] at this
      exact ⟨_, this⟩
    refine ⟨l, cells1 rfl ?_, ?_⟩
    rotate_left
    · rw [hxe]
      simp only [Rows.uptoBulk]
      have := sum_le (μ := μ) (l := l) (es := elems.map (·.1)) (by simp [hl1, hlen]) (fun i y d h1 h2 => (hl2' i y h1).2 d h2)
      omega
    have hget : ∀ j, j < len * k → ∃ u, W.cell? (a.add j) = some u ∧ ∀ T, (flat (l.map f))[j]? = some T → TRep W (fun b => b < W.heap.size) T u := by
      intro j hj
      have hi : j / k < len := Nat.div_lt_of_lt_mul (by rw [Nat.mul_comm]; exact hj)
      have hr : j % k < k := Nat.mod_lt _ hk
      have hji : j = j / k * k + j % k := by rw [Nat.mul_comm]; exact (Nat.div_add_mod j k).symm
      obtain ⟨cs', c1, c2, c3⟩ := hl2 (j / k) l[j / k] (by rw [List.getElem?_eq_getElem (by omega)])
      have c4 := c2 (j % k) hr
      rw [← hji, List.getElem?_eq_getElem (by omega)] at c4
      refine ⟨_, c4, fun T hT => ?_⟩
      rw [hji, flat_get (hx l) (i := j / k) (X := f l[j / k]) (by simp [List.getElem?_eq_getElem (show j / k < l.length by omega)]) hr] at hT
      exact c3.2 (j % k) T _ hT (by rw [List.getElem?_eq_getElem (by omega)])
    obtain ⟨us, hu1, hu2⟩ := list_of (len * k) _ hget
    have hlm : (l.map f).length = len := by simp [hl1]
    have := TRep.lst (w := W) (ok := fun b => b < W.heap.size) k (l.map f) (some a) cap us hk (hx l) (by omega) hm (fun hne => ?_) (by rw [hlm]; exact hu1) (fun j T u hT hu => (hu2 j u hu).2 T hT)
    · rw [hlm] at this; exact this
    · obtain ⟨u, hu⟩ := hspot (fun e => hne (by rw [e]; rfl))
      have hs := World.cell?_spot hu
      obtain ⟨b, o, sp⟩ := a
      simp only at hs
      subst hs
      refine ⟨b, o, rfl, ?_, fun j u hj => ?_⟩
      · simp only [World.cell?] at hu
        by_cases hb : b < W.heap.size
        · exact hb
        · rw [Array.getElem?_eq_none (by omega)] at hu; simp at hu
      · have := (hu2 j u hj).1
        rw [add_lit'] at this
        exact this

theorem RdM.map {t : TypeId} {k : Nat} {α β : Type} {f : α → Tree} {μ : α → Nat} {f' : β → Tree} {μ' : β → Nat} (h : RdM P t k f μ) (g : α → β) (hf : ∀ a, f' (g a) = f a) (hm : ∀ a, μ' (g a) ≤ μ a) (he : ∀ b, Elt k (f' b)) : RdM P t k f' μ' := by
  obtain ⟨h1, h2, h3⟩ := h
  refine ⟨he, h2, fun H enc W fuel cs x hx => ?_⟩
  obtain ⟨a, ha, hb⟩ := h3 H enc W fuel cs x hx
  exact ⟨g a, by rw [hf]; exact ha, Nat.le_trans (hm a) hb⟩

/-- The fields of a struct, from a cell on. -/
def RdFM (P : Program) (off : Nat) (fs : List Field) (k : Nat) {β : Type} (g : β → List Tree) (μ : β → Nat) : Prop :=
  (∀ b, (g b).length = k ∧ ∀ T ∈ g b, T.isCell = true) ∧ ∀ (H : Type) (enc : TypeId × Value → H) (W : World) (n : Nat) (cs : List Value) (ys : List (DataW H × List MemPlace)),
    ys.length = fs.length → (∀ (i : Nat) (f : Field), fs[i]? = some f → DataW.trod enc P W 0 (fun _ => true) true n f.type ((cs.drop f.offset).take (P.cellsOf f.type)) = ys[i]?) →
    ∃ b : β, (∀ (j : Nat) (T : Tree) (u : Value), (g b)[j]? = some T → cs[off + j]? = some u → TRep W (fun b => b < W.heap.size) T u) ∧ μ b ≤ Rows.uptoBulkAll (ys.map (·.1))
theorem RdFM.nil {off : Nat} : RdFM P off [] 0 (fun _ : Unit => []) (fun _ => 0) :=
  ⟨fun _ => ⟨rfl, fun T hT => by simp at hT⟩, fun H enc W n cs ys h1 h2 => ⟨(), fun j T u hT => by simp at hT, Nat.zero_le _⟩⟩
theorem RdFM.cons {off : Nat} {f : Field} {fs : List Field} {k1 k2 : Nat} {α β : Type} {f1 : α → Tree} {μ1 : α → Nat} {g2 : β → List Tree} {μ2 : β → Nat} (ho : f.offset = off) (h : RdM P f.type k1 f1 μ1) (hs : RdFM P (off + k1) fs k2 g2 μ2) : RdFM P off (f :: fs) (k1 + k2) (fun p : α × β => (f1 p.1).cells ++ g2 p.2) (fun p => μ1 p.1 + μ2 p.2) := by
  obtain ⟨h1, h2, h3⟩ := h
  obtain ⟨s1, s2⟩ := hs
  refine ⟨fun p => ⟨by rw [List.length_append, (h1 p.1).1, (s1 p.2).1], fun T hT => ?_⟩, fun H enc W n cs ys hl hy => ?_⟩
  · rcases List.mem_append.1 hT with hT | hT
    · exact (h1 p.1).2 T hT
    · exact (s1 p.2).2 T hT
  · cases ys with
    | nil => simp at hl
    | cons y ys =>
      have e0 := hy 0 f rfl
      simp only [List.getElem?_cons_zero, ho, h2] at e0
      obtain ⟨a, ⟨ha1, ha2⟩, ha3⟩ := h3 H enc W n _ _ e0
      obtain ⟨b, hb, hb3⟩ := s2 H enc W n cs ys (by simpa using hl) (fun i f' hf => by simpa using hy (i + 1) f' (by simpa using hf))
      refine ⟨(a, b), fun j T u hT hu => ?_, by simp only [List.map_cons, Rows.uptoBulkAll]; omega⟩
      by_cases hj : j < (f1 a).cells.length
      · rw [List.getElem?_append_left hj] at hT
        have hk : j < k1 := by rw [(h1 a).1] at hj; exact hj
        refine ha2 j T u hT ?_
        rw [List.getElem?_take, if_pos hk, List.getElem?_drop]
        exact hu
      · rw [List.getElem?_append_right (by show (f1 a).cells.length ≤ j; omega)] at hT
        rw [(h1 a).1] at hj hT
        refine hb (j - k1) T u hT ?_
        rw [← hu]; congr 1; omega
theorem RdM.struct {t : TypeId} {fs : Array Field} {k : Nat} {β : Type} {g : β → List Tree} {μ : β → Nat} (ht : P.underlying t = some (.struct fs)) (hc : P.cellsOf t = k) (h : RdFM P 0 fs.toList k g μ) : RdM P t k (fun b => .agg (g b)) (fun b => μ b + 1) := by
  obtain ⟨s1, s2⟩ := h
  refine ⟨fun b => s1 b, hc, fun H enc W fuel cs x hx => ?_⟩
  obtain ⟨xs, n, _, hxe, hl, hlen, hf⟩ := DataW.trod_struct ht hx
  obtain ⟨b, hb, hμ⟩ := s2 H enc W n cs xs (by simpa using hlen) (fun i f hi => hf i f (by simpa using hi))
  refine ⟨b, ⟨by rw [hl, hc]; exact (s1 b).1.symm, fun j T u hT hu => hb j T u hT (by simpa using hu)⟩, ?_⟩
  rw [hxe]; simp only [Rows.uptoBulk]; omega

/-- A one-cell argument. -/
theorem RdM.arg {t : TypeId} {α : Type} {f : α → Tree} {μ : α → Nat} (h : RdM P t 1 f μ) (h1 : ∀ a, (f a).isCell = true) {H : Type} {enc : TypeId × Value → H} {v : Value} {d : DataW H} {ps : List MemPlace} (hd : DataW.Trod enc P W 0 (fun _ => true) true t v d ps) (hv : v.cells.toList = [v]) :
    ∃ a, TRep W (fun b => b < W.heap.size) (f a) v ∧ μ a ≤ Rows.uptoBulk d := by
  obtain ⟨fuel, hf⟩ := hd
  obtain ⟨a, ⟨c1, c2⟩, c3⟩ := h.2.2 H enc W fuel _ _ hf
  refine ⟨a, c2 0 _ _ ?_ (by rw [hv]; rfl), c3⟩
  cases hfa : f a with
  | agg cs => have := h1 a; rw [hfa] at this; cases this
  | sc v => rfl
  | lst k xs => rfl
theorem bulk_bound {H : Type} {l : List (DataW H)} (hk : Rows.uptoSmall H l = true) : Rows.uptoBulkAll l ≤ 1048576 := of_decide_eq_true hk
theorem sum_mem {α : Type} {μ : α → Nat} {l : List α} {a : α} (h : a ∈ l) : μ a ≤ (l.map μ).sum := by
  induction l with
  | nil => cases h
  | cons b l ih =>
    simp only [List.map_cons, List.sum_cons]
    rcases List.mem_cons.1 h with rfl | h
    · omega
    · have := ih h; omega
theorem sum_len {α : Type} {μ : α → Nat} (hμ : ∀ a, 1 ≤ μ a) (l : List α) : l.length ≤ (l.map μ).sum := by
  induction l with
  | nil => simp
  | cons b l ih => have := hμ b; simp only [List.map_cons, List.sum_cons, List.length_cons]; omega
end Go.Ab
end
section
namespace Go.Proofs
open Go.Shelf
def Tryz.lays260_ren : Go.Shelf.Ren := ⟨fun | 260 => 205 | n => n, fun | 9 => 9 | 21 => 21 | 3 => 3 | 4 => 4 | 5 => 5 | 119 => 242 | 0 => 0 | 46 => 194 | 139 => 245 | 138 => 244 | n => n, fun | 3 => 0 | 4 => 1 | n => n⟩
theorem Tryz.lays260 : Go.Proofs.Lays.n260 Tryz.prog Tryz.lays260_ren := {
  mixed := by kernel_rfl
  f260 := Tryz.func205.trans (congrArg some (by kernel_rfl))
  t0 := Tryz.underlying0
  a0 := Tryz.isAgg0
  z0 := Tryz.sizeOf0
  v0 := Tryz.zeroValue0
  t3 := Tryz.underlying3
  a3 := Tryz.isAgg3
  z3 := Tryz.sizeOf3
  v3 := Tryz.zeroValue3
  t4 := Tryz.underlying4
  a4 := Tryz.isAgg4
  z4 := Tryz.sizeOf4
  v4 := Tryz.zeroValue4
  t5 := Tryz.underlying5
  a5 := Tryz.isAgg5
  z5 := Tryz.sizeOf5
  v5 := Tryz.zeroValue5
  t9 := Tryz.underlying9
  a9 := Tryz.isAgg9
  z9 := Tryz.sizeOf9
  v9 := Tryz.zeroValue9
  t21 := Tryz.underlying21
  a21 := Tryz.isAgg21
  z21 := Tryz.sizeOf21
  v21 := Tryz.zeroValue21
  t46 := Tryz.underlying194
  a46 := Tryz.isAgg194
  z46 := Tryz.sizeOf194
  v46 := Tryz.zeroValue194
  t119 := Tryz.underlying242
  a119 := Tryz.isAgg242
  z119 := Tryz.sizeOf242
  t138 := Tryz.underlying244
  a138 := Tryz.isAgg244
  z138 := Tryz.sizeOf244
  v138 := Tryz.zeroValue244
  t139 := Tryz.underlying245
  a139 := Tryz.isAgg245
  z139 := Tryz.sizeOf245
  v139 := Tryz.zeroValue245
  g3 := by kernel_rfl
  g4 := by kernel_rfl }
end Go.Proofs
end
