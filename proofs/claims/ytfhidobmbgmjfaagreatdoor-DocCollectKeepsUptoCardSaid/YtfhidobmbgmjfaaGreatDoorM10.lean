/- Documents: the walk through the tree. -/
import Derived.Test.YtfhidobmbgmjfaaGreatDoorM1
import Derived.Test.YtfhidobmbgmjfaaGreatDoorM2
import Derived.Test.YtfhidobmbgmjfaaGreatDoorM3
import Derived.Test.YtfhidobmbgmjfaaGreatDoorM4
import Derived.Test.YtfhidobmbgmjfaaGreatDoorM5
import Derived.Test.YtfhidobmbgmjfaaGreatDoorM6
import Derived.Test.YtfhidobmbgmjfaaGreatDoorM7
import Derived.Test.YtfhidobmbgmjfaaGreatDoorM8
import Derived.Test.YtfhidobmbgmjfaaGreatDoorM9
section
set_option linter.unusedVariables false
namespace Go.Ch
open Go Go.Ab

/-! ### Rectangles that hold a place -/
def inQ (q : Rect) (r c : Int) : Bool := decide (q.row ≤ r ∧ r - q.row < q.h ∧ q.col ≤ c ∧ c - q.col < q.w)
def covQ (l : List Rect) (r c : Int) (i : Nat) : Rect := if i < l.length then (if inQ (l.getD i default) r c = true then l.getD i default else covQ l r c (i + 1)) else ⟨r, c, 1, 1⟩
termination_by l.length - i
theorem merg_all {l : List Rect} {m n : Int} : ∀ (k i : Nat), l.length - i = k → mergE l m n i = 0 → ∀ j, i ≤ j → j < l.length → insB (l.getD j default) m n = true
  | 0, i, h, _ => fun j h1 h2 => by omega
  | k + 1, i, h, he => by
    have hi : i < l.length := by omega
    rw [mergE, if_pos hi] at he
    split at he
    · cases he
    rename_i h1
    split at he
    · cases he
    split at he
    · cases he
    split at he
    · cases he
    intro j q1 q2
    by_cases q : j = i
    · subst q; simpa using h1
    · exact merg_all k (i + 1) (by omega) he j (by omega) q2
theorem cells_all {l : List Cell} {m n : Int} {o : Bool} : ∀ (k i : Nat), l.length - i = k → cellsE l m n o i = 0 → ∀ j, i ≤ j → j < l.length → (0 ≤ (l.getD j default).row ∧ (l.getD j default).row < m) ∧ 0 ≤ (l.getD j default).col ∧ (l.getD j default).col < n
  | 0, i, h, _ => fun j h1 h2 => by omega
  | k + 1, i, h, he => by
    have hi : i < l.length := by omega
    rw [cellsE, if_pos hi] at he
    split at he
    · rename_i q; exact absurd he q
    rename_i h1
    split at he
    · cases he
    intro j q1 q2
    by_cases q : j = i
    · subst q
      have h2 : cellE (l.getD j default) m n o = 0 := Classical.byContradiction h1
      unfold cellE at h2
      split at h2
      · cases h2
      · omega
    · exact cells_all k (i + 1) (by omega) he j (by omega) q2
/-- Numbers in the grid of a valid node. -/
theorem grid_of {n : Node} (h : nodeE n = 0) : AllRB n.grid.merges ∧ ∀ c ∈ n.grid.cells, (0 ≤ c.row ∧ c.row ≤ 2147483647) ∧ 0 ≤ c.col ∧ c.col ≤ 2147483647 := by
  have key : gridE n.grid = 0 → AllRB n.grid.merges ∧ ∀ c ∈ n.grid.cells, (0 ≤ c.row ∧ c.row ≤ 2147483647) ∧ 0 ≤ c.col ∧ c.col ≤ 2147483647 := by
    intro hg
    unfold gridE at hg
    split at hg
    · cases hg
    rename_i h1
    split at hg
    · rename_i q; exact absurd hg q
    rename_i h2
    refine ⟨fun q hq => ?_, fun c hc => ?_⟩
    · obtain ⟨k, hk, rfl⟩ := List.mem_iff_getElem.1 hq
      have := merg_all _ 0 rfl hg k (Nat.zero_le _) hk
      rw [List.getD_eq_getElem?_getD, List.getElem?_eq_getElem hk] at this
      exact RB_ins this (by omega) (by omega)
    · obtain ⟨k, hk, rfl⟩ := List.mem_iff_getElem.1 hc
      have := cells_all _ 0 rfl (Classical.byContradiction h2) k (Nat.zero_le _) hk
      rw [List.getD_eq_getElem?_getD, List.getElem?_eq_getElem hk] at this
      simp only [Option.getD_some] at this
      omega
  unfold nodeE at h
  split at h
  · cases h
  split at h
  · cases h
  split at h
  · rename_i q; exact absurd h q
  split at h
  · cases h
  rename_i q1
  have hz : hasG n.kind = false → AllRB n.grid.merges ∧ ∀ c ∈ n.grid.cells, (0 ≤ c.row ∧ c.row ≤ 2147483647) ∧ 0 ≤ c.col ∧ c.col ≤ 2147483647 := by
    intro hg
    have z : zeroG n.grid = true := by
      cases hq : zeroG n.grid
      · exact absurd (.inr (.inl ⟨hq, hg⟩)) q1
      · rfl
    unfold zeroG at z
    simp only [Bool.and_eq_true, beq_iff_eq] at z
    have e1 : n.grid.cells = [] := List.eq_nil_of_length_eq_zero (by omega)
    have e2 : n.grid.merges = [] := List.eq_nil_of_length_eq_zero (by omega)
    rw [e1, e2]
    exact ⟨fun q hq => (by cases hq), fun c hc => (by cases hc)⟩
  split at h
  · rename_i q2
    refine hz ?_
    cases hg : hasG n.kind
    · rfl
    · exfalso
      unfold hasG at hg
      unfold hasT hasL at q2
      simp only [Bool.or_eq_true, beq_iff_eq] at hg q2
      omega
  split at h
  · rename_i q2
    split at h
    · rename_i q; exact absurd h q
    · rename_i q; exact key (Classical.byContradiction q)
  · rename_i q2
    exact hz (by simpa using q2)

/-! ### Valid documents -/
structure DocV (d : Doc) : Prop where
  b : DocB d
  e : docE d = 0
theorem DocV.nodes {d : Doc} (h : DocV d) : nodesE d.nodes 0 = 0 ∧ allRefsE d.nodes 0 = 0 ∧ d.nodes.length ≠ 0 := by
  have := h.e
  unfold docE at this
  split at this
  · cases this
  · rename_i h1
    split at this
    · rename_i q; exact absurd this q
    · rename_i q; exact ⟨Classical.byContradiction q, this, h1⟩
theorem DocV.srt {d : Doc} (h : DocV d) : SortN d.nodes := sort_of h.nodes.1
theorem DocV.node {d : Doc} (h : DocV d) {n : Node} (hn : n ∈ d.nodes) : nodeE n = 0 := by
  obtain ⟨k, hk, rfl⟩ := List.mem_iff_getElem.1 hn
  have := (nodesE_all _ 0 rfl h.nodes.1).1 k (Nat.zero_le _) hk
  rwa [List.getD_eq_getElem?_getD, List.getElem?_eq_getElem hk] at this
def nodeOf (l : List Node) (k : Int) : Node := l.getD (lobN l k) default
theorem nodeOf_mem {l : List Node} {k : Int} (h : hasN l k = true) : nodeOf l k ∈ l ∧ (nodeOf l k).id = k := ⟨getDX_mem (hasN_iff.1 h).1, (hasN_iff.1 h).2⟩
theorem refsE_all {l : List Node} {k : Int} {rs : List Int} (hs : SortN l) : ∀ (n i : Nat), rs.length - i = n → refsE l k rs i = 0 → ∀ j, i ≤ j → j < rs.length → hasN l (rs.getD j default) = true
  | 0, i, h, _ => fun j h1 h2 => by omega
  | n + 1, i, h, he => by
    have hi : i < rs.length := by omega
    rw [refsE, if_pos hi] at he
    split at he
    · cases he
    rename_i h1
    split at he
    · cases he
    intro j q1 q2
    by_cases q : j = i
    · subst q
      cases hh : hasN l (rs.getD j default)
      · exact absurd (find_no hs hh) h1
      · rfl
    · exact refsE_all hs n (i + 1) (by omega) he j (by omega) q2
theorem allR_all {l : List Node} : ∀ (n i : Nat), l.length - i = n → allRefsE l i = 0 → ∀ j, i ≤ j → j < l.length → refsE l (l.getD j default).kind (refsN (l.getD j default)) 0 = 0
  | 0, i, h, _ => fun j h1 h2 => by omega
  | n + 1, i, h, he => by
    have hi : i < l.length := by omega
    rw [allRefsE, if_pos hi] at he
    split at he
    · rename_i q; exact absurd he q
    rename_i h1
    intro j q1 q2
    by_cases q : j = i
    · subst q; exact Classical.byContradiction h1
    · exact allR_all n (i + 1) (by omega) he j (by omega) q2
theorem DocV.ref {d : Doc} (h : DocV d) {n : Node} (hn : n ∈ d.nodes) {r : Int} (hr : r ∈ refsN n) : hasN d.nodes r = true := by
  obtain ⟨k, hk, rfl⟩ := List.mem_iff_getElem.1 hn
  have h1 := allR_all _ 0 rfl h.nodes.2.1 k (Nat.zero_le _) hk
  rw [List.getD_eq_getElem?_getD, List.getElem?_eq_getElem hk] at h1
  simp only [Option.getD_some] at h1
  obtain ⟨j, hj, rfl⟩ := List.mem_iff_getElem.1 hr
  have := refsE_all h.srt _ 0 rfl h1 j (Nat.zero_le _) hj
  rwa [List.getD_eq_getElem?_getD, List.getElem?_eq_getElem hj] at this
theorem items_has {l : List Node} {n : Node} {r : Int} (h : r ∈ itemsD l n) : hasN l r = true := by
  unfold itemsD at h
  obtain ⟨x, _, hx⟩ := List.mem_filterMap.1 h
  unfold itemD at hx
  obtain ⟨v, _, hv⟩ := Option.bind_eq_some_iff.1 hx
  split at hv
  · rename_i q; cases hv; exact q.1
  · cases hv
theorem DocV.one {d : Doc} (h : DocV d) : hasN d.nodes 1 = true := by
  have h1 := (nodesE_all _ 0 rfl h.nodes.1).2 0 (Nat.zero_le _) (by have := h.nodes.2.2; omega)
  have h2 := h1.1 rfl
  have h3 := lobN_ge (l := d.nodes) (k := 1) (m := 0) (by omega)
  exact hasN_iff.2 ⟨by have := h.nodes.2.2; omega, by rw [show lobN d.nodes 1 = 0 by omega]; exact h2⟩

/-! ### Visits -/
structure Vis where
  id : Int
  parent : Int
  vis : Bool
instance : Inhabited Vis := ⟨⟨0, 0, false⟩⟩
def visT (v : Vis) : Tree := .agg [TI v.id, TI v.parent, TB v.vis]
def enc1 (v : Vis) : List Tree := [visT v]
def kidR (v : Vis) (k : Int) : Vis := ⟨k, v.id, v.vis⟩
def visC (g : Grid) (b : Bool) (c : Cell) : Bool := (b && (covQ g.merges c.row c.col 0).row == c.row) && (covQ g.merges c.row c.col 0).col == c.col
def kidC (g : Grid) (v : Vis) (c : Cell) : List Vis := if c.ref ≠ 0 then [⟨c.ref, v.id, visC g v.vis c⟩] else []
def kidsV (l : List Node) (v : Vis) : List Vis := (refsF (nodeOf l v.id).flow).map (kidR v) ++ (nodeOf l v.id).grid.cells.flatMap (kidC (nodeOf l v.id).grid v) ++ (itemsD l (nodeOf l v.id)).map (kidR v)
def idsV9 (l : List Vis) : List Int := l.map Vis.id
def walkL (f : List Int → Vis → List Vis) : List Int → List Vis → List Vis
  | _, [] => []
  | S, k :: ks => f S k ++ walkL f (S ++ idsV9 (f S k)) ks
/-- The visits that a call makes, where S are the nodes that were met. -/
def walkV (l : List Node) : Nat → List Int → Vis → List Vis
  | 0, _, _ => []
  | n + 1, S, v => if v.id ∈ S then [] else v :: walkL (walkV l n) (S ++ [v.id]) (kidsV l v)
theorem idsV9_app (a b : List Vis) : idsV9 (a ++ b) = idsV9 a ++ idsV9 b := List.map_append
theorem walkL_app (f : List Int → Vis → List Vis) : ∀ (S : List Int) (a b : List Vis), walkL f S (a ++ b) = walkL f S a ++ walkL f (S ++ idsV9 (walkL f S a)) b
  | S, [], b => by simp [walkL, idsV9]
  | S, k :: a, b => by rw [List.cons_append, walkL, walkL, walkL_app f _ a b, idsV9_app, List.append_assoc, List.append_assoc]
theorem walkL_one (f : List Int → Vis → List Vis) (S : List Int) (k : Vis) : walkL f S [k] = f S k := by simp [walkL]

/-! ### With a function that may stop -/
/-- The calls that are made of those that are meant. -/
def stopY (g : List (List Tree) → Bool) : List (List Tree) → List Vis → List Vis
  | _, [] => []
  | pre, x :: l => x :: (if g (pre ++ [enc1 x]) = true then stopY g (pre ++ [enc1 x]) l else [])
/-- Whether it goes on to the end. -/
def contY (g : List (List Tree) → Bool) : List (List Tree) → List Vis → Bool
  | _, [] => true
  | pre, x :: l => if g (pre ++ [enc1 x]) = true then contY g (pre ++ [enc1 x]) l else false
/-- What is called with may be called with. -/
def AdmY (Y : YSpec) : List (List Tree) → List Vis → Prop
  | _, [] => True
  | pre, x :: l => Y.adm pre (enc1 x) ∧ (Y.goes (pre ++ [enc1 x]) = true → AdmY Y (pre ++ [enc1 x]) l)
theorem snoc_map (pre : List (List Tree)) (x : Vis) (a : List Vis) : pre ++ [enc1 x] ++ a.map enc1 = pre ++ (x :: a).map enc1 := by simp
theorem stop_go {g : List (List Tree) → Bool} : ∀ {pre : List (List Tree)} {a b : List Vis}, contY g pre a = true → stopY g pre (a ++ b) = a ++ stopY g (pre ++ a.map enc1) b ∧ contY g pre (a ++ b) = contY g (pre ++ a.map enc1) b
  | pre, [], b, _ => by simp
  | pre, x :: a, b, h => by
    rw [contY] at h
    split at h
    · rename_i hg
      obtain ⟨h1, h2⟩ := stop_go (b := b) h
      rw [snoc_map] at h1 h2
      rw [List.cons_append, stopY, contY, if_pos hg, if_pos hg, h1, h2]
      exact ⟨rfl, rfl⟩
    · cases h
theorem stop_end {g : List (List Tree) → Bool} : ∀ {pre : List (List Tree)} {a b : List Vis}, contY g pre a = false → stopY g pre (a ++ b) = stopY g pre a ∧ contY g pre (a ++ b) = false
  | pre, [], b, h => by simp [contY] at h
  | pre, x :: a, b, h => by
    rw [contY] at h
    split at h
    · rename_i hg
      obtain ⟨h1, h2⟩ := stop_end (b := b) h
      rw [List.cons_append, stopY, stopY, contY, if_pos hg, if_pos hg, if_pos hg, h1, h2]
      exact ⟨rfl, rfl⟩
    · rename_i hg
      rw [List.cons_append, stopY, stopY, contY, if_neg hg, if_neg hg, if_neg hg]
      exact ⟨rfl, rfl⟩
theorem stop_all {g : List (List Tree) → Bool} {pre : List (List Tree)} {a : List Vis} (h : contY g pre a = true) : stopY g pre a = a := by
  have := (stop_go (b := []) h).1
  simpa [stopY] using this
theorem adm_app {Y : YSpec} : ∀ {pre : List (List Tree)} {a b : List Vis}, AdmY Y pre (a ++ b) → AdmY Y pre a ∧ (contY Y.goes pre a = true → AdmY Y (pre ++ a.map enc1) b)
  | pre, [], b, h => ⟨trivial, fun _ => by simpa using h⟩
  | pre, x :: a, b, h => by
    obtain ⟨h1, h2⟩ := h
    refine ⟨⟨h1, fun hg => (adm_app (h2 hg)).1⟩, fun hc => ?_⟩
    rw [contY] at hc
    split at hc
    · rename_i hg
      have := (adm_app (h2 hg)).2 hc
      rwa [snoc_map] at this
    · cases hc

/-! ### The number of nodes that were not met -/
def muS (l : List Node) (S : List Int) : Nat := (l.filter fun n => decide (n.id ∉ S)).length
theorem muS_le {l : List Node} {S S' : List Int} (h : ∀ k ∈ S, k ∈ S') : muS l S' ≤ muS l S := by
  unfold muS
  induction l with
  | nil => exact Nat.le_refl _
  | cons n l ih =>
    rw [List.filter_cons, List.filter_cons]
    by_cases q : n.id ∈ S
    · rw [if_neg (by simp [h _ q]), if_neg (by simp [q])]; exact ih
    · rw [if_pos (show decide (n.id ∉ S) = true by simp [q])]
      split
      · simp only [List.length_cons]; omega
      · simp only [List.length_cons]; omega
theorem muS_lt {l : List Node} {S : List Int} {k : Int} (hk : hasN l k = true) (h : k ∉ S) : muS l (S ++ [k]) < muS l S := by
  obtain ⟨hm, hid⟩ := nodeOf_mem hk
  generalize nodeOf l k = m at *
  unfold muS
  induction l with
  | nil => cases hm
  | cons n l ih =>
    have hle : (l.filter fun n => decide (n.id ∉ S ++ [k])).length ≤ (l.filter fun n => decide (n.id ∉ S)).length := muS_le (l := l) (S := S) (S' := S ++ [k]) (fun x hx => List.mem_append_left _ hx)
    rw [List.filter_cons, List.filter_cons]
    by_cases q : n.id = k
    · rw [if_neg (by simp [q]), if_pos (by simp [q, h])]
      simp only [List.length_cons]; omega
    · have hm' : m ∈ l := by
        rcases List.mem_cons.1 hm with rfl | hm
        · exact absurd hid q
        · exact hm
      have hi : (l.filter fun n => decide (n.id ∉ S ++ [k])).length < (l.filter fun n => decide (n.id ∉ S)).length := by
        clear ih hm q hk
        induction l with
        | nil => cases hm'
        | cons n' l ih2 =>
          have hle2 : (l.filter fun n => decide (n.id ∉ S ++ [k])).length ≤ (l.filter fun n => decide (n.id ∉ S)).length := muS_le (l := l) (S := S) (S' := S ++ [k]) (fun x hx => List.mem_append_left _ hx)
          rw [List.filter_cons, List.filter_cons]
          by_cases q : n'.id = k
          · rw [if_neg (by simp [q]), if_pos (by simp [q, h])]
            simp only [List.length_cons]; omega
          · have hm2 : m ∈ l := by
              rcases List.mem_cons.1 hm' with rfl | hm'
              · exact absurd hid q
              · exact hm'
            have := ih2 hle2 hm2
            by_cases q2 : n'.id ∈ S
            · rw [if_neg (by simp [q2]), if_neg (by simp [q2])]; exact this
            · rw [if_pos (by simp [q, q2]), if_pos (by simp [q2])]
              simp only [List.length_cons]; omega
      by_cases q2 : n.id ∈ S
      · rw [if_neg (by simp [q2]), if_neg (by simp [q2])]; exact hi
      · rw [if_pos (by simp [q, q2]), if_pos (by simp [q2])]
        simp only [List.length_cons]; omega
end Go.Ch
end
section
set_option linter.unusedVariables false
namespace Go.Ch
open Go Go.Ab

def endS (g : List (List Tree) → Bool) (S : List Int) (pre : List (List Tree)) (W : List Vis) : List Int := S ++ idsV9 (stopY g pre W)
def endP (g : List (List Tree) → Bool) (pre : List (List Tree)) (W : List Vis) : List (List Tree) := pre ++ (stopY g pre W).map enc1
structure WOk (d : Doc) (Y : YSpec) (n : Nat) (S : List Int) (pre : List (List Tree)) (v : Vis) : Prop where
  has : hasN d.nodes v.id = true
  mu : muS d.nodes S < n
  adm : AdmY Y pre (walkV d.nodes n S v)
variable {d : Doc} {Y : YSpec} {n : Nat} {S0 S : List Int} {pre0 pre : List (List Tree)} {v : Vis} {X R : List Vis} {k : Vis}
/-- What was done for the kids X of v. -/
structure KI (d : Doc) (Y : YSpec) (n : Nat) (S0 : List Int) (pre0 : List (List Tree)) (v : Vis) (X : List Vis) (S : List Int) (pre : List (List Tree)) : Prop where
  s : S = S0 ++ idsV9 (v :: walkL (walkV d.nodes n) (S0 ++ [v.id]) X)
  p : pre = pre0 ++ (v :: walkL (walkV d.nodes n) (S0 ++ [v.id]) X).map enc1
  go : contY Y.goes pre0 (v :: walkL (walkV d.nodes n) (S0 ++ [v.id]) X) = true
theorem walkV_in (h : v.id ∈ S0) : walkV d.nodes (n + 1) S0 v = [] := by rw [walkV, if_pos h]
theorem walkV_new (h : v.id ∉ S0) : walkV d.nodes (n + 1) S0 v = v :: walkL (walkV d.nodes n) (S0 ++ [v.id]) (kidsV d.nodes v) := by rw [walkV, if_neg h]
theorem WOk.adm0 (h : WOk d Y (n + 1) S0 pre0 v) (hv : v.id ∉ S0) : Y.adm pre0 [visT v] := by
  have := h.adm
  rw [walkV_new hv] at this
  exact this.1
theorem KI.start (hg : Y.goes (pre0 ++ [[visT v]]) = true) : KI d Y n S0 pre0 v [] (S0 ++ [v.id]) (pre0 ++ [[visT v]]) :=
  ⟨by simp [walkL, idsV9], by simp [walkL, enc1], by rw [walkL, contY, if_pos (show Y.goes (pre0 ++ [enc1 v]) = true from hg)]; rfl⟩
theorem walkL_kid (S : List Int) (X R : List Vis) (k : Vis) : walkL (walkV d.nodes n) S (X ++ k :: R) = walkL (walkV d.nodes n) S X ++ (walkV d.nodes n (S ++ idsV9 (walkL (walkV d.nodes n) S X)) k ++ walkL (walkV d.nodes n) (S ++ idsV9 (walkL (walkV d.nodes n) S X) ++ idsV9 (walkV d.nodes n (S ++ idsV9 (walkL (walkV d.nodes n) S X)) k)) R) := by
  rw [walkL_app, walkL]
theorem KI.sEq (h : KI d Y n S0 pre0 v X S pre) : S = S0 ++ [v.id] ++ idsV9 (walkL (walkV d.nodes n) (S0 ++ [v.id]) X) := by rw [h.s]; simp [idsV9]
theorem KI.call (h : KI d Y n S0 pre0 v X S pre) (hw : WOk d Y (n + 1) S0 pre0 v) (hv : v.id ∉ S0) (hk : kidsV d.nodes v = X ++ k :: R) (hh : hasN d.nodes k.id = true) : WOk d Y n S pre k := by
  refine ⟨hh, ?_, ?_⟩
  · have h1 := muS_lt hw.has hv
    have h2 : muS d.nodes S ≤ muS d.nodes (S0 ++ [v.id]) := muS_le (fun x hx => by rw [h.sEq]; exact List.mem_append_left _ hx)
    have := hw.mu
    omega
  · have ha := hw.adm
    rw [walkV_new hv, hk, walkL_kid, ← h.sEq, ← List.cons_append] at ha
    have h1 := (adm_app ha).2 h.go
    rw [← h.p] at h1
    exact (adm_app h1).1
theorem KI.next (h : KI d Y n S0 pre0 v X S pre) (hc : contY Y.goes pre (walkV d.nodes n S k) = true) : KI d Y n S0 pre0 v (X ++ [k]) (endS Y.goes S pre (walkV d.nodes n S k)) (endP Y.goes pre (walkV d.nodes n S k)) := by
  have e : walkL (walkV d.nodes n) (S0 ++ [v.id]) (X ++ [k]) = walkL (walkV d.nodes n) (S0 ++ [v.id]) X ++ walkV d.nodes n S k := by
    rw [walkL_app, walkL_one, ← h.sEq]
  refine ⟨?_, ?_, ?_⟩
  · unfold endS
    rw [stop_all hc, e, ← List.cons_append, idsV9_app, ← List.append_assoc, ← h.s]
  · unfold endP
    rw [stop_all hc, e, ← List.cons_append, List.map_append, ← List.append_assoc, ← h.p]
  · rw [e, ← List.cons_append, (stop_go h.go).2, ← h.p]; exact hc
theorem KI.stop (h : KI d Y n S0 pre0 v X S pre) (hv : v.id ∉ S0) (hk : kidsV d.nodes v = X ++ k :: R) (hc : contY Y.goes pre (walkV d.nodes n S k) = false) :
    contY Y.goes pre0 (walkV d.nodes (n + 1) S0 v) = false ∧ endS Y.goes S0 pre0 (walkV d.nodes (n + 1) S0 v) = endS Y.goes S pre (walkV d.nodes n S k) ∧ endP Y.goes pre0 (walkV d.nodes (n + 1) S0 v) = endP Y.goes pre (walkV d.nodes n S k) := by
  rw [walkV_new hv, hk, walkL_kid, ← h.sEq, ← List.cons_append]
  unfold endS endP
  obtain ⟨h1, h2⟩ := stop_go (b := walkV d.nodes n S k ++ walkL (walkV d.nodes n) (S ++ idsV9 (walkV d.nodes n S k)) R) h.go
  rw [← h.p] at h1 h2
  obtain ⟨h3, h4⟩ := stop_end (b := walkL (walkV d.nodes n) (S ++ idsV9 (walkV d.nodes n S k)) R) hc
  refine ⟨h2.trans h4, ?_, ?_⟩
  · rw [h1, h3, idsV9_app, ← List.append_assoc, ← h.s]
  · rw [h1, h3, List.map_append, ← List.append_assoc, ← h.p]
theorem KI.done (h : KI d Y n S0 pre0 v X S pre) (hv : v.id ∉ S0) (hk : kidsV d.nodes v = X) :
    contY Y.goes pre0 (walkV d.nodes (n + 1) S0 v) = true ∧ endS Y.goes S0 pre0 (walkV d.nodes (n + 1) S0 v) = S ∧ endP Y.goes pre0 (walkV d.nodes (n + 1) S0 v) = pre := by
  rw [walkV_new hv, hk]
  unfold endS endP
  rw [stop_all h.go]
  exact ⟨h.go, h.s.symm, h.p.symm⟩
theorem stop_first (hv : v.id ∉ S0) (hg : Y.goes (pre0 ++ [[visT v]]) = false) :
    contY Y.goes pre0 (walkV d.nodes (n + 1) S0 v) = false ∧ endS Y.goes S0 pre0 (walkV d.nodes (n + 1) S0 v) = S0 ++ [v.id] ∧ endP Y.goes pre0 (walkV d.nodes (n + 1) S0 v) = pre0 ++ [[visT v]] := by
  rw [walkV_new hv]
  unfold endS endP
  have hg' : ¬ Y.goes (pre0 ++ [enc1 v]) = true := by rw [show enc1 v = [visT v] from rfl, hg]; decide
  rw [contY, stopY, if_neg hg', if_neg hg']
  exact ⟨rfl, rfl, rfl⟩
theorem end_in (hv : v.id ∈ S0) : contY Y.goes pre0 (walkV d.nodes (n + 1) S0 v) = true ∧ endS Y.goes S0 pre0 (walkV d.nodes (n + 1) S0 v) = S0 ∧ endP Y.goes pre0 (walkV d.nodes (n + 1) S0 v) = pre0 := by
  rw [walkV_in hv]
  unfold endS endP
  simp [stopY, contY, idsV9]
theorem putS_new {S : List Int} {k : Int} (h : k ∉ S) : putE (S.map onM) k (.im (TB true)) = (S ++ [k]).map onM := by
  rw [putS]
  congr 1
  induction S with
  | nil => rfl
  | cons x S ih =>
    rw [putK, if_neg (fun e => h (by rw [show k = x from e]; exact List.mem_cons_self)), ih (fun q => h (List.mem_cons_of_mem _ q))]
    rfl

/-! ### The kids of a node, one by one -/
theorem kids_has (hV : DocV d) (hk : hasN d.nodes v.id = true) {x : Vis} (hx : x ∈ kidsV d.nodes v) : hasN d.nodes x.id = true := by
  obtain ⟨hm, hid⟩ := nodeOf_mem hk
  unfold kidsV at hx
  rcases List.mem_append.1 hx with hx | hx
  · rcases List.mem_append.1 hx with hx | hx
    · obtain ⟨r, hr, rfl⟩ := List.mem_map.1 hx
      exact hV.ref hm (List.mem_append_left _ hr)
    · obtain ⟨c, hc, hx⟩ := List.mem_flatMap.1 hx
      unfold kidC at hx
      split at hx
      · rename_i q
        rw [List.mem_singleton.1 hx]
        exact hV.ref hm (List.mem_append_right _ (List.mem_filterMap.2 ⟨c, hc, if_pos q⟩))
      · cases hx
  · obtain ⟨r, hr, rfl⟩ := List.mem_map.1 hx
    exact items_has hr
theorem split_at {α : Type} [Inhabited α] {l : List α} {i : Nat} (h : i < l.length) : l = l.take i ++ l.getD i default :: l.drop (i + 1) := by
  have e : l.getD i default = l[i] := by rw [List.getD_eq_getElem?_getD, List.getElem?_eq_getElem h]; rfl
  rw [e, ← List.drop_eq_getElem_cons h, List.take_append_drop]
theorem takeD {α : Type} [Inhabited α] {l : List α} {i : Nat} (h : i < l.length) : l.take (i + 1) = l.take i ++ [l.getD i default] := by
  have e : l.getD i default = l[i] := by rw [List.getD_eq_getElem?_getD, List.getElem?_eq_getElem h]; rfl
  rw [List.take_succ_eq_append_getElem h, e]
def kidA (d : Doc) (v : Vis) (i : Nat) : List Vis := ((refsF (d.nodes.getD (lobN d.nodes v.id) default).flow).take i).map (kidR v)
def kidB (d : Doc) (v : Vis) (j : Nat) : List Vis := (refsF (d.nodes.getD (lobN d.nodes v.id) default).flow).map (kidR v) ++ ((d.nodes.getD (lobN d.nodes v.id) default).grid.cells.take j).flatMap (kidC (d.nodes.getD (lobN d.nodes v.id) default).grid v)
def kidI (d : Doc) (v : Vis) (i : Nat) : List Vis := (refsF (d.nodes.getD (lobN d.nodes v.id) default).flow).map (kidR v) ++ (d.nodes.getD (lobN d.nodes v.id) default).grid.cells.flatMap (kidC (d.nodes.getD (lobN d.nodes v.id) default).grid v) ++ ((itemsD d.nodes (d.nodes.getD (lobN d.nodes v.id) default)).take i).map (kidR v)
theorem kidA_at {i : Nat} (h : i < (refsF (d.nodes.getD (lobN d.nodes v.id) default).flow).length) : (∃ R, kidsV d.nodes v = kidA d v i ++ kidR v ((refsF (d.nodes.getD (lobN d.nodes v.id) default).flow).getD i default) :: R) ∧ kidA d v (i + 1) = kidA d v i ++ [kidR v ((refsF (d.nodes.getD (lobN d.nodes v.id) default).flow).getD i default)] := by
  refine ⟨⟨((refsF (d.nodes.getD (lobN d.nodes v.id) default).flow).drop (i + 1)).map (kidR v) ++ ((d.nodes.getD (lobN d.nodes v.id) default).grid.cells.flatMap (kidC (d.nodes.getD (lobN d.nodes v.id) default).grid v) ++ (itemsD d.nodes (d.nodes.getD (lobN d.nodes v.id) default)).map (kidR v)), ?_⟩, ?_⟩
  · have := split_at h
    unfold kidsV kidA
    conv => lhs; arg 1; arg 1; arg 2; rw [show nodeOf d.nodes v.id = (d.nodes.getD (lobN d.nodes v.id) default) from rfl, this]
    simp [nodeOf]
  · unfold kidA; rw [takeD h, List.map_append]; rfl
theorem kidB_zero : kidB d v 0 = kidA d v (refsF (d.nodes.getD (lobN d.nodes v.id) default).flow).length := by unfold kidA kidB; simp
theorem kidB_at {j : Nat} (h : j < (d.nodes.getD (lobN d.nodes v.id) default).grid.cells.length) : kidB d v (j + 1) = kidB d v j ++ kidC (d.nodes.getD (lobN d.nodes v.id) default).grid v ((d.nodes.getD (lobN d.nodes v.id) default).grid.cells.getD j default) ∧ ∃ R, kidsV d.nodes v = kidB d v j ++ kidC (d.nodes.getD (lobN d.nodes v.id) default).grid v ((d.nodes.getD (lobN d.nodes v.id) default).grid.cells.getD j default) ++ R := by
  refine ⟨by unfold kidB; rw [takeD h, List.flatMap_append]; simp, ⟨((d.nodes.getD (lobN d.nodes v.id) default).grid.cells.drop (j + 1)).flatMap (kidC (d.nodes.getD (lobN d.nodes v.id) default).grid v) ++ (itemsD d.nodes (d.nodes.getD (lobN d.nodes v.id) default)).map (kidR v), ?_⟩⟩
  have := split_at h
  unfold kidsV kidB
  conv => lhs; arg 1; arg 2; rw [show nodeOf d.nodes v.id = (d.nodes.getD (lobN d.nodes v.id) default) from rfl, this]
  simp [nodeOf]
theorem kidI_zero : kidI d v 0 = kidB d v (d.nodes.getD (lobN d.nodes v.id) default).grid.cells.length := by unfold kidI kidB; simp
theorem kidI_at {i : Nat} (h : i < (itemsD d.nodes (d.nodes.getD (lobN d.nodes v.id) default)).length) : (∃ R, kidsV d.nodes v = kidI d v i ++ kidR v ((itemsD d.nodes (d.nodes.getD (lobN d.nodes v.id) default)).getD i default) :: R) ∧ kidI d v (i + 1) = kidI d v i ++ [kidR v ((itemsD d.nodes (d.nodes.getD (lobN d.nodes v.id) default)).getD i default)] := by
  refine ⟨⟨((itemsD d.nodes (d.nodes.getD (lobN d.nodes v.id) default)).drop (i + 1)).map (kidR v), ?_⟩, ?_⟩
  · have := split_at h
    unfold kidsV kidI
    conv => lhs; arg 2; arg 2; rw [show nodeOf d.nodes v.id = (d.nodes.getD (lobN d.nodes v.id) default) from rfl, this]
    simp [nodeOf]
  · unfold kidI; rw [takeD h, List.map_append, ← List.append_assoc]; rfl
theorem kidI_end : kidsV d.nodes v = kidI d v (itemsD d.nodes (d.nodes.getD (lobN d.nodes v.id) default)).length := by unfold kidI kidsV; simp [nodeOf]
end Go.Ch
end
section
set_option linter.unusedVariables false
set_option linter.unusedSimpArgs false
set_option maxRecDepth 100000
set_option maxHeartbeats 4000000
open Go Go.Proofs Go.Ab
namespace Go.Ch
theorem fc_cover (x : Grid) (m n : Int) (hb : -1000000000000 ≤ m ∧ m ≤ 1000000000000 ∧ -1000000000000 ≤ n ∧ n ≤ 1000000000000) (hl : x.merges.length ≤ 100000000000) (hr : AllRB x.merges) : FC Tryz.prog 78 [.t (gridT x), VI m, VI n] (app emp []) (.t (rectT (covQ x.merges m n 0))) (app emp []) := by
 refine .go Tryz.f78 ?_
 refine .loop (α := Nat) [.r [], .r [], .r [(2, X (Xl rectT x.merges))]] 88 (fun i => ([(1, VI m), (2, VI n), (6, .ptr 8 0), (7, .ptr 40 0), (14, VL 4 rectT x.merges), (15, VI (x.merges.length : Int)), (16, VI (i : Int))], [(8, .box [VI 0, VI 0, VI 0, VI 0]), (40, .box [VI m, VI n, VI 1, VI 1])])) (fun i => i ≤ x.merges.length ∧ covQ x.merges m n 0 = covQ x.merges m n i) (fun i => x.merges.length - i) (0 : Nat) ?_ ?_
 ·
  exact ⟨by omega, rfl⟩
 rintro i I3 ih3
 try dsimp only at I3
 refine .br [.r []] (decide ((i : Int) < (x.merges.length : Int))) (fun h3 => ?_) (fun h3 => ?_)
 ·
  (try simp only [decide_eq_true_eq, decide_eq_false_iff_not, Int.not_lt, Int.not_le] at h3)
  have hm := hr _ (getDX_mem (l := x.merges) (i := i) (by omega))
  unfold RB at hm
  refine .br [.r [(0, X (Xi rectT x.merges (i : Int)))], .r [(7, Xv 1 (decide (m ≥ (((x.merges.getD i default)).row))) X0), (8, Xv 2 (decide (m ≥ (((x.merges.getD i default)).row))) (Xn (m - (((x.merges.getD i default)).row)))), (10, Xv 1 (decide (m ≥ (((x.merges.getD i default)).row))) X0), (11, Xv 2 (decide (m ≥ (((x.merges.getD i default)).row))) X0), (12, X (Xk (decide (m ≥ (((x.merges.getD i default)).row))))), (16, Xv 1 (decide (m ≥ (((x.merges.getD i default)).row)) && decide ((m - (((x.merges.getD i default)).row)) < (((x.merges.getD i default)).h))) X0), (17, Xv 2 (decide (m ≥ (((x.merges.getD i default)).row)) && decide ((m - (((x.merges.getD i default)).row)) < (((x.merges.getD i default)).h))) X0), (18, X (Xk (decide (m ≥ (((x.merges.getD i default)).row)) && decide ((m - (((x.merges.getD i default)).row)) < (((x.merges.getD i default)).h))))), (22, Xv 1 ((decide (m ≥ (((x.merges.getD i default)).row)) && decide ((m - (((x.merges.getD i default)).row)) < (((x.merges.getD i default)).h))) && decide (n ≥ (((x.merges.getD i default)).col))) X0), (23, Xv 2 ((decide (m ≥ (((x.merges.getD i default)).row)) && decide ((m - (((x.merges.getD i default)).row)) < (((x.merges.getD i default)).h))) && decide (n ≥ (((x.merges.getD i default)).col))) (Xn (n - (((x.merges.getD i default)).col)))), (25, Xv 1 ((decide (m ≥ (((x.merges.getD i default)).row)) && decide ((m - (((x.merges.getD i default)).row)) < (((x.merges.getD i default)).h))) && decide (n ≥ (((x.merges.getD i default)).col))) X0), (26, Xv 2 ((decide (m ≥ (((x.merges.getD i default)).row)) && decide ((m - (((x.merges.getD i default)).row)) < (((x.merges.getD i default)).h))) && decide (n ≥ (((x.merges.getD i default)).col))) X0), (27, X (Xk ((decide (m ≥ (((x.merges.getD i default)).row)) && decide ((m - (((x.merges.getD i default)).row)) < (((x.merges.getD i default)).h))) && decide (n ≥ (((x.merges.getD i default)).col)))))]] (((decide (m ≥ (((x.merges.getD i default)).row)) && decide ((m - (((x.merges.getD i default)).row)) < (((x.merges.getD i default)).h))) && decide (n ≥ (((x.merges.getD i default)).col))) && decide ((n - (((x.merges.getD i default)).col)) < (((x.merges.getD i default)).w))) (fun h5 => ?_) (fun h5 => ?_)
  ·
   (try simp only [decide_eq_true_eq, decide_eq_false_iff_not, Int.not_lt, Int.not_le, ge_iff_le, Bool.and_eq_true, Bool.and_eq_false_iff, Bool.not_eq_true', Bool.not_eq_false'] at h5)
   have e1 : ((covQ x.merges m n 0) : Rect) = ((x.merges.getD i default)) := by
    rw [I3.2, covQ, if_pos (by omega), if_pos (by (unfold inQ; rw [decide_eq_true_eq]; omega))]
   exact .finVE [.r []] [] [] (fun z0 => (.t (rectT z0), [])) (((x.merges.getD i default)) : Rect) ((covQ x.merges m n 0) : Rect) e1
  ·
   (try simp only [decide_eq_true_eq, decide_eq_false_iff_not, Int.not_lt, Int.not_le, ge_iff_le, Bool.and_eq_true, Bool.and_eq_false_iff, Bool.not_eq_true', Bool.not_eq_false'] at h5)
   refine .back [.r [(0, X (Xn ((i : Int) + 1)))]] [(8, 8), (40, 40)] (ih3 ((i + 1) : Nat) ?_ ?_)
   ·
    refine ⟨by omega, ?_⟩
    rw [I3.2, covQ, if_pos (by omega), if_neg (by (unfold inQ; rw [decide_eq_true_eq]; omega))]
   ·
    ((try dsimp only); omega)
 ·
  (try simp only [decide_eq_true_eq, decide_eq_false_iff_not, Int.not_lt, Int.not_le] at h3)
  have e2 : ((covQ x.merges m n 0) : Rect) = ({ row := m, col := n, h := 1, w := 1 } : Rect) := by
   rw [I3.2, covQ, if_neg (by omega)]
  exact .finVE [.r []] [] [] (fun z0 => (.t (rectT z0), [])) (({ row := m, col := n, h := 1, w := 1 } : Rect) : Rect) ((covQ x.merges m n 0) : Rect) e2

theorem fc_from1 (d : Doc) (Y : YSpec) (hY : YCalls Tryz.prog Y) (hV : DocV d) (n : Nat) (ih : ∀ (v : Vis) (S : List Int) (p : List (List Tree)), WOk d Y n S p v → FC Tryz.prog 75 [.t (visT v), .ptr 0 0, .ptr 1 0, .ptr 2 0, .ptr 3 0] (app emp [(0, .box [.hdl 4]), (1, .box [.yl 5]), (2, .box [VL 9 nodeT d.nodes]), (3, .box [.fn 75 [.ptr 0 0, .ptr 1 0, .ptr 2 0, .ptr 3 0]]), (4, .mp (List.map onM S) none), (5, .ext Y p)]) (VB (contY Y.goes p (walkV d.nodes n S v))) (app emp [(0, .box [.hdl 4]), (1, .box [.yl 5]), (2, .box [VL 9 nodeT d.nodes]), (3, .box [.fn 75 [.ptr 0 0, .ptr 1 0, .ptr 2 0, .ptr 3 0]]), (4, .mp (List.map onM (endS Y.goes S p (walkV d.nodes n S v))) none), (5, .ext Y (endP Y.goes p (walkV d.nodes n S v)))])) (v : Vis) (S : List Int) (p : List (List Tree)) (hw : WOk d Y (n + 1) S p v) : FC Tryz.prog 75 [.t (visT v), .ptr 0 0, .ptr 1 0, .ptr 2 0, .ptr 3 0] (app emp [(0, .box [.hdl 4]), (1, .box [.yl 5]), (2, .box [VL 9 nodeT d.nodes]), (3, .box [.fn 75 [.ptr 0 0, .ptr 1 0, .ptr 2 0, .ptr 3 0]]), (4, .mp (List.map onM S) none), (5, .ext Y p)]) (VB (contY Y.goes p (walkV d.nodes (n + 1) S v))) (app emp [(0, .box [.hdl 4]), (1, .box [.yl 5]), (2, .box [VL 9 nodeT d.nodes]), (3, .box [.fn 75 [.ptr 0 0, .ptr 1 0, .ptr 2 0, .ptr 3 0]]), (4, .mp (List.map onM (endS Y.goes S p (walkV d.nodes (n + 1) S v))) none), (5, .ext Y (endP Y.goes p (walkV d.nodes (n + 1) S v)))]) := by
 refine .go Tryz.f75 ?_
 have hs := hV.srt
 have hl := hV.b.len
 obtain ⟨hlt, hid⟩ := hasN_iff.1 hw.has
 have hmem := (nodeOf_mem hw.has).1
 have hnb := hV.b.all _ hmem
 have hne := hV.node hmem
 obtain ⟨hrb, hcb⟩ := grid_of hne
 unfold nodeOf at hmem hnb hne hrb hcb
 have c1 := hnb.fl2
 have c2 := hnb.ce2
 have c3 := hnb.me
 have c4 : (refsF (d.nodes.getD (lobN d.nodes v.id) default).flow).length ≤ (d.nodes.getD (lobN d.nodes v.id) default).flow.length := List.length_filterMap_le _ _
 have c5 := items_len (l := d.nodes) hnb hne
 refine .br [.r [], .r [(3, X (Xmt (List.map onM S) v.id (TB false) (TB (decide (v.id ∈ S)))) lookS)]] (decide (v.id ∈ S)) (fun h1 => ?_) (fun h1 => ?_)
 ·
  (try simp only [decide_eq_true_eq, decide_eq_false_iff_not, Int.not_lt, Int.not_le] at h1)
  have e1 : ((endS Y.goes S p (walkV d.nodes (n + 1) S v)) : List Int) = S := by
   first | exact (end_in h1).1 | exact (end_in h1).2.1 | exact (end_in h1).2.2 | exact (end_in h1).1.symm | exact (end_in h1).2.1.symm | exact (end_in h1).2.2.symm
  have e2 : ((endP Y.goes p (walkV d.nodes (n + 1) S v)) : List (List Tree)) = p := by
   first | exact (end_in h1).1 | exact (end_in h1).2.1 | exact (end_in h1).2.2 | exact (end_in h1).1.symm | exact (end_in h1).2.1.symm | exact (end_in h1).2.2.symm
  have e3 : ((contY Y.goes p (walkV d.nodes (n + 1) S v)) : Bool) = true := by
   first | exact (end_in h1).1 | exact (end_in h1).2.1 | exact (end_in h1).2.2 | exact (end_in h1).1.symm | exact (end_in h1).2.1.symm | exact (end_in h1).2.2.symm
  exact .finE [.r []] [(0, 0), (1, 1), (2, 2), (3, 3), (4, 4), (5, 5)] (fun (z0, z1, z2) => (VB z2, [(0, .box [.hdl 4]), (1, .box [.yl 5]), (2, .box [VL 9 nodeT d.nodes]), (3, .box [.fn 75 [.ptr 0 0, .ptr 1 0, .ptr 2 0, .ptr 3 0]]), (4, .mp (List.map onM z0) none), (5, .ext Y z1)])) ((S : List Int), (p : List (List Tree)), (true : Bool)) (((endS Y.goes S p (walkV d.nodes (n + 1) S v)) : List Int), ((endP Y.goes p (walkV d.nodes (n + 1) S v)) : List (List Tree)), ((contY Y.goes p (walkV d.nodes (n + 1) S v)) : Bool)) (pr e1 (pr e2 e3))
 ·
  (try simp only [decide_eq_true_eq, decide_eq_false_iff_not, Int.not_lt, Int.not_le] at h1)
  refine .br [.r [(3, X (Xmu onM S (S ++ [v.id]) v.id 4 (.im (TB true))) (putS_new h1))], .r [(2, X (Xy Tryz.prog Y p [visT v]) (⟨hY, hw.adm0 h1⟩))]] (!(Y.goes (p ++ [[visT v]]))) (fun h4 => ?_) (fun h4 => ?_)
  ·
   (try simp only [Bool.not_eq_true', Bool.not_eq_false'] at h4)
   have e4 : ((endS Y.goes S p (walkV d.nodes (n + 1) S v)) : List Int) = (S ++ [v.id]) := by
    first | exact (stop_first h1 h4).1 | exact (stop_first h1 h4).2.1 | exact (stop_first h1 h4).2.2 | exact (stop_first h1 h4).1.symm | exact (stop_first h1 h4).2.1.symm | exact (stop_first h1 h4).2.2.symm
   have e5 : ((endP Y.goes p (walkV d.nodes (n + 1) S v)) : List (List Tree)) = (p ++ [[visT v]]) := by
    first | exact (stop_first h1 h4).1 | exact (stop_first h1 h4).2.1 | exact (stop_first h1 h4).2.2 | exact (stop_first h1 h4).1.symm | exact (stop_first h1 h4).2.1.symm | exact (stop_first h1 h4).2.2.symm
   have e6 : ((contY Y.goes p (walkV d.nodes (n + 1) S v)) : Bool) = false := by
    first | exact (stop_first h1 h4).1 | exact (stop_first h1 h4).2.1 | exact (stop_first h1 h4).2.2 | exact (stop_first h1 h4).1.symm | exact (stop_first h1 h4).2.1.symm | exact (stop_first h1 h4).2.2.symm
   exact .finE [.r []] [(0, 0), (1, 1), (2, 2), (3, 3), (4, 4), (5, 5)] (fun (z0, z1, z2) => (VB z2, [(0, .box [.hdl 4]), (1, .box [.yl 5]), (2, .box [VL 9 nodeT d.nodes]), (3, .box [.fn 75 [.ptr 0 0, .ptr 1 0, .ptr 2 0, .ptr 3 0]]), (4, .mp (List.map onM z0) none), (5, .ext Y z1)])) (((S ++ [v.id]) : List Int), ((p ++ [[visT v]]) : List (List Tree)), (false : Bool)) (((endS Y.goes S p (walkV d.nodes (n + 1) S v)) : List Int), ((endP Y.goes p (walkV d.nodes (n + 1) S v)) : List (List Tree)), ((contY Y.goes p (walkV d.nodes (n + 1) S v)) : Bool)) (pr e4 (pr e5 e6))
  ·
   (try simp only [Bool.not_eq_true', Bool.not_eq_false'] at h4)
   refine .loop (α := Nat × List Int × List (List Tree)) [.r [(3, X (Xc0 (fc_findN d v.id (by assumption) (by assumption)) X0))], .r [(3, X (Xi nodeT d.nodes (lobN (d).nodes v.id : Int)))], .r [(2, X (Xc1 262 (fc_refsFl (((d.nodes.getD (lobN (d).nodes v.id) default)).flow) (by omega)) X0))]] 286 (fun (i, S2, p2) => ([(3, .ptr 2 0), (4, .ptr 3 0), (5, .ptr 6 0), (9, .ptr 230 0), (42, .row 262 ((refsF (((d.nodes.getD (lobN (d).nodes v.id) default)).flow)).length)), (43, VI ((refsF (((d.nodes.getD (lobN (d).nodes v.id) default)).flow)).length : Int)), (44, VI (i : Int))], [(0, .box [.hdl 4]), (1, .box [.yl 5]), (2, .box [VL 9 nodeT d.nodes]), (3, .box [.fn 75 [.ptr 0 0, .ptr 1 0, .ptr 2 0, .ptr 3 0]]), (4, .mp (List.map onM S2) none), (5, .ext Y p2), (6, .box [VI v.id, VI v.parent, VB v.vis]), (230, .box [VI (((d.nodes.getD (lobN (d).nodes v.id) default)).id), VI (((d.nodes.getD (lobN (d).nodes v.id) default)).kind), VL 2 attrT (((d.nodes.getD (lobN (d).nodes v.id) default)).attrs), VL 3 elemT (((d.nodes.getD (lobN (d).nodes v.id) default)).flow), VI ((((d.nodes.getD (lobN (d).nodes v.id) default)).grid).rows), VI ((((d.nodes.getD (lobN (d).nodes v.id) default)).grid).cols), VL 5 cellT ((((d.nodes.getD (lobN (d).nodes v.id) default)).grid).cells), VL 4 rectT ((((d.nodes.getD (lobN (d).nodes v.id) default)).grid).merges), VL 8 dopT (((d.nodes.getD (lobN (d).nodes v.id) default)).draw)]), (262, OR 1 intT (refsF (((d.nodes.getD (lobN (d).nodes v.id) default)).flow)))])) (fun (i, S2, p2) => i ≤ (refsF (d.nodes.getD (lobN d.nodes v.id) default).flow).length ∧ KI d Y n S p v (kidA d v i) S2 p2) (fun (i, S2, p2) => (refsF (d.nodes.getD (lobN d.nodes v.id) default).flow).length - i) (0, (S ++ [v.id]), (p ++ [[visT v]])) ?_ ?_
   ·
    exact ⟨Nat.zero_le _, KI.start h4⟩
   rintro ⟨i, S2, p2⟩ I9 ih9
   try dsimp only at I9
   refine .br [.r []] (decide ((i : Int) < ((refsF (((d.nodes.getD (lobN (d).nodes v.id) default)).flow)).length : Int))) (fun h9 => ?_) (fun h9 => ?_)
   ·
    (try simp only [decide_eq_true_eq, decide_eq_false_iff_not, Int.not_lt, Int.not_le] at h9)
    obtain ⟨⟨R, hR⟩, hnx⟩ := kidA_at (d := d) (v := v) (i := i) (by omega)
    have hcall : WOk d Y n S2 p2 ({ id := ((refsF (d.nodes.getD (lobN d.nodes v.id) default).flow).getD i default), parent := v.id, vis := v.vis } : Vis) := KI.call I9.2 hw h1 hR (kids_has hV hw.has (by rw [hR]; exact List.mem_append_right _ List.mem_cons_self))
    refine .br [.r [(0, X (Xp intT (refsF (((d.nodes.getD (lobN (d).nodes v.id) default)).flow)) (i : Int))), (1, X (Xe intT (refsF (((d.nodes.getD (lobN (d).nodes v.id) default)).flow)) i))], .r [(7, X (Xc3 374 [(0, 0), (1, 1), (2, 2), (3, 3), (4, 4), (5, 5)] (ih ({ id := ((refsF (((d.nodes.getD (lobN (d).nodes v.id) default)).flow)).getD i default), parent := v.id, vis := v.vis } : Vis) S2 p2 (by assumption)) X0))]] (!(contY Y.goes p2 (walkV d.nodes n S2 ({ id := ((refsF (((d.nodes.getD (lobN (d).nodes v.id) default)).flow)).getD i default), parent := v.id, vis := v.vis } : Vis)))) (fun h11 => ?_) (fun h11 => ?_)
    ·
     (try simp only [Bool.not_eq_true', Bool.not_eq_false'] at h11)
     have e7 : ((endS Y.goes S p (walkV d.nodes (n + 1) S v)) : List Int) = (endS Y.goes S2 p2 (walkV d.nodes n S2 ({ id := ((refsF (((d.nodes.getD (lobN (d).nodes v.id) default)).flow)).getD i default), parent := v.id, vis := v.vis } : Vis))) := by
      first | exact (KI.stop I9.2 h1 hR h11).1 | exact (KI.stop I9.2 h1 hR h11).2.1 | exact (KI.stop I9.2 h1 hR h11).2.2 | exact (KI.stop I9.2 h1 hR h11).1.symm | exact (KI.stop I9.2 h1 hR h11).2.1.symm | exact (KI.stop I9.2 h1 hR h11).2.2.symm
     have e8 : ((endP Y.goes p (walkV d.nodes (n + 1) S v)) : List (List Tree)) = (endP Y.goes p2 (walkV d.nodes n S2 ({ id := ((refsF (((d.nodes.getD (lobN (d).nodes v.id) default)).flow)).getD i default), parent := v.id, vis := v.vis } : Vis))) := by
      first | exact (KI.stop I9.2 h1 hR h11).1 | exact (KI.stop I9.2 h1 hR h11).2.1 | exact (KI.stop I9.2 h1 hR h11).2.2 | exact (KI.stop I9.2 h1 hR h11).1.symm | exact (KI.stop I9.2 h1 hR h11).2.1.symm | exact (KI.stop I9.2 h1 hR h11).2.2.symm
     have e9 : ((contY Y.goes p (walkV d.nodes (n + 1) S v)) : Bool) = false := by
      first | exact (KI.stop I9.2 h1 hR h11).1 | exact (KI.stop I9.2 h1 hR h11).2.1 | exact (KI.stop I9.2 h1 hR h11).2.2 | exact (KI.stop I9.2 h1 hR h11).1.symm | exact (KI.stop I9.2 h1 hR h11).2.1.symm | exact (KI.stop I9.2 h1 hR h11).2.2.symm
     exact .finE [.r []] [(0, 0), (1, 1), (2, 2), (3, 3), (4, 4), (5, 5)] (fun (z0, z1, z2) => (VB z2, [(0, .box [.hdl 4]), (1, .box [.yl 5]), (2, .box [VL 9 nodeT d.nodes]), (3, .box [.fn 75 [.ptr 0 0, .ptr 1 0, .ptr 2 0, .ptr 3 0]]), (4, .mp (List.map onM z0) none), (5, .ext Y z1)])) (((endS Y.goes S2 p2 (walkV d.nodes n S2 ({ id := ((refsF (((d.nodes.getD (lobN (d).nodes v.id) default)).flow)).getD i default), parent := v.id, vis := v.vis } : Vis))) : List Int), ((endP Y.goes p2 (walkV d.nodes n S2 ({ id := ((refsF (((d.nodes.getD (lobN (d).nodes v.id) default)).flow)).getD i default), parent := v.id, vis := v.vis } : Vis))) : List (List Tree)), (false : Bool)) (((endS Y.goes S p (walkV d.nodes (n + 1) S v)) : List Int), ((endP Y.goes p (walkV d.nodes (n + 1) S v)) : List (List Tree)), ((contY Y.goes p (walkV d.nodes (n + 1) S v)) : Bool)) (pr e7 (pr e8 e9))
    ·
     (try simp only [Bool.not_eq_true', Bool.not_eq_false'] at h11)
     refine .back [.r [(0, X (Xn ((i : Int) + 1)))]] [(0, 0), (1, 1), (2, 2), (3, 3), (4, 4), (5, 5), (6, 6), (230, 230), (262, 262)] (ih9 ((i + 1), (endS Y.goes S2 p2 (walkV d.nodes n S2 ({ id := ((refsF (((d.nodes.getD (lobN (d).nodes v.id) default)).flow)).getD i default), parent := v.id, vis := v.vis } : Vis))), (endP Y.goes p2 (walkV d.nodes n S2 ({ id := ((refsF (((d.nodes.getD (lobN (d).nodes v.id) default)).flow)).getD i default), parent := v.id, vis := v.vis } : Vis)))) ?_ ?_)
     ·
      refine ⟨by omega, ?_⟩
      rw [hnx]; exact I9.2.next h11
     ·
      ((try dsimp only); omega)
   ·
    (try simp only [decide_eq_true_eq, decide_eq_false_iff_not, Int.not_lt, Int.not_le] at h9)
    refine .loop (α := Nat × List Int × List (List Tree)) [.r [(3, X (Xl cellT ((((d.nodes.getD (lobN (d).nodes v.id) default)).grid).cells)))]] 334 (fun (j, S3, p3) => ([(3, .ptr 2 0), (4, .ptr 3 0), (5, .ptr 6 0), (9, .ptr 230 0), (60, VL 5 cellT ((((d.nodes.getD (lobN (d).nodes v.id) default)).grid).cells)), (61, VI (((((d.nodes.getD (lobN (d).nodes v.id) default)).grid).cells).length : Int)), (62, VI (j : Int))], [(0, .box [.hdl 4]), (1, .box [.yl 5]), (2, .box [VL 9 nodeT d.nodes]), (3, .box [.fn 75 [.ptr 0 0, .ptr 1 0, .ptr 2 0, .ptr 3 0]]), (4, .mp (List.map onM S3) none), (5, .ext Y p3), (6, .box [VI v.id, VI v.parent, VB v.vis]), (230, .box [VI (((d.nodes.getD (lobN (d).nodes v.id) default)).id), VI (((d.nodes.getD (lobN (d).nodes v.id) default)).kind), VL 2 attrT (((d.nodes.getD (lobN (d).nodes v.id) default)).attrs), VL 3 elemT (((d.nodes.getD (lobN (d).nodes v.id) default)).flow), VI ((((d.nodes.getD (lobN (d).nodes v.id) default)).grid).rows), VI ((((d.nodes.getD (lobN (d).nodes v.id) default)).grid).cols), VL 5 cellT ((((d.nodes.getD (lobN (d).nodes v.id) default)).grid).cells), VL 4 rectT ((((d.nodes.getD (lobN (d).nodes v.id) default)).grid).merges), VL 8 dopT (((d.nodes.getD (lobN (d).nodes v.id) default)).draw)])])) (fun (j, S3, p3) => j ≤ (d.nodes.getD (lobN d.nodes v.id) default).grid.cells.length ∧ KI d Y n S p v (kidB d v j) S3 p3) (fun (j, S3, p3) => (d.nodes.getD (lobN d.nodes v.id) default).grid.cells.length - j) (0, S2, p2) ?_ ?_
    ·
     exact ⟨Nat.zero_le _, by rw [kidB_zero, show (refsF (d.nodes.getD (lobN d.nodes v.id) default).flow).length = i by omega]; exact I9.2⟩
    rintro ⟨j, S3, p3⟩ I15 ih15
    try dsimp only at I15
    refine .br [.r []] (decide ((j : Int) < (((((d.nodes.getD (lobN (d).nodes v.id) default)).grid).cells).length : Int))) (fun h15 => ?_) (fun h15 => ?_)
    ·
     (try simp only [decide_eq_true_eq, decide_eq_false_iff_not, Int.not_lt, Int.not_le] at h15)
     have hcc := hcb _ (getDX_mem (l := (d.nodes.getD (lobN d.nodes v.id) default).grid.cells) (i := j) (by omega))
     refine .mid [.r [(0, X (Xi cellT ((((d.nodes.getD (lobN (d).nodes v.id) default)).grid).cells) (j : Int)))], .r [(6, X (Xc0 (fc_cover (((d.nodes.getD (lobN (d).nodes v.id) default)).grid) (((((((d.nodes.getD (lobN (d).nodes v.id) default)).grid).cells).getD j default)).row) (((((((d.nodes.getD (lobN (d).nodes v.id) default)).grid).cells).getD j default)).col) (by omega) (by omega) (by assumption)) X0))]] ?_
     obtain ⟨hnx, R, hR⟩ := kidB_at (d := d) (v := v) (j := j) (by omega)
     by_cases hr : ((d.nodes.getD (lobN d.nodes v.id) default).grid.cells.getD j default).ref = 0
     ·
      refine .br [.r [(2, X (Xbv ((((((((d.nodes.getD (lobN (d).nodes v.id) default)).grid).cells).getD j default)).ref) != 0) false) (by rw [hr]; rfl)), (4, X (Xskip false (.junk)) rfl), (5, X (Xskip false (.junk)) rfl), (6, X (Xskip false (.junk)) rfl), (7, X (Xskip false (.junk)) rfl), (8, X (Xskip false (.junk)) rfl), (9, X (Xskip false (.junk)) rfl), (10, X (Xskip false (VB false)) rfl), (11, X (Xskip false (VB false)) rfl), (12, X (Xskip (false && false) (.junk)) rfl), (13, X (Xskip (false && false) (.junk)) rfl), (14, X (Xskip (false && false) (.junk)) rfl), (15, X (Xskip (false && false) (.junk)) rfl), (16, X (Xskip (false && false) (VB false)) rfl), (17, X (Xskip false (VB false)) rfl), (18, X (Xskip false (VB false)) rfl), (19, X (Xskip (false && false) (.junk)) rfl), (20, X (Xskip (false && false) (.junk)) rfl), (21, X (Xskip (false && false) (.junk)) rfl), (22, X (Xskip (false && false) (.junk)) rfl), (23, X (Xskip (false && false) (VB false)) rfl), (24, X (Xskip false (VB false)) rfl), (25, X (Xskip false (.junk)) rfl), (26, X (Xskip false (.junk)) rfl), (27, X (Xskip false (VB false)) rfl), (28, X (Xk false))]] (false && false) (fun h18 => ?_) (fun h18 => ?_)
      ·
       (try simp only [Bool.and_eq_true, Bool.and_eq_false_iff, Bool.not_eq_true', Bool.not_eq_false'] at h18)
       exfalso
       simp at h18
      ·
       (try simp only [Bool.and_eq_true, Bool.and_eq_false_iff, Bool.not_eq_true', Bool.not_eq_false'] at h18)
       refine .back [.r [(0, X (Xn ((j : Int) + 1)))]] [(0, 0), (1, 1), (2, 2), (3, 3), (4, 4), (5, 5), (6, 6), (230, 230)] (ih15 ((j + 1), S3, p3) ?_ ?_)
       ·
        refine ⟨by omega, ?_⟩
        rw [hnx, kidC, if_neg (fun q => q hr), List.append_nil]; exact I15.2
       ·
        ((try dsimp only); omega)
     ·
      rw [show kidC (d.nodes.getD (lobN d.nodes v.id) default).grid v ((d.nodes.getD (lobN d.nodes v.id) default).grid.cells.getD j default) = [({ id := ((d.nodes.getD (lobN d.nodes v.id) default).grid.cells.getD j default).ref, parent := v.id, vis := visC (d.nodes.getD (lobN d.nodes v.id) default).grid v.vis ((d.nodes.getD (lobN d.nodes v.id) default).grid.cells.getD j default) } : Vis)] from if_pos hr] at hnx hR
      rw [List.append_assoc, List.singleton_append] at hR
      have hcall : WOk d Y n S3 p3 ({ id := ((d.nodes.getD (lobN d.nodes v.id) default).grid.cells.getD j default).ref, parent := v.id, vis := visC (d.nodes.getD (lobN d.nodes v.id) default).grid v.vis ((d.nodes.getD (lobN d.nodes v.id) default).grid.cells.getD j default) } : Vis) := KI.call I15.2 hw h1 hR (kids_has hV hw.has (by rw [hR]; exact List.mem_append_right _ List.mem_cons_self))
      refine .br [.r [(2, X (Xbv ((((((((d.nodes.getD (lobN (d).nodes v.id) default)).grid).cells).getD j default)).ref) != 0) true) (by simpa using hr)), (6, Xv 1 true X0), (8, Xv 1 true X0), (10, Xv 1 true X0), (11, Xv 1 true X0), (13, Xv 1 (true && v.vis) X0), (15, Xv 1 (true && v.vis) X0), (16, Xv 2 (true && v.vis) X0), (17, Xka true v.vis), (18, Xv 1 true X0), (20, Xv 1 (true && (v.vis && ((((covQ ((((d.nodes.getD (lobN (d).nodes v.id) default)).grid)).merges (((((((d.nodes.getD (lobN (d).nodes v.id) default)).grid).cells).getD j default)).row) (((((((d.nodes.getD (lobN (d).nodes v.id) default)).grid).cells).getD j default)).col) 0)).row) == (((((((d.nodes.getD (lobN (d).nodes v.id) default)).grid).cells).getD j default)).row)))) X0), (22, Xv 1 (true && (v.vis && ((((covQ ((((d.nodes.getD (lobN (d).nodes v.id) default)).grid)).merges (((((((d.nodes.getD (lobN (d).nodes v.id) default)).grid).cells).getD j default)).row) (((((((d.nodes.getD (lobN (d).nodes v.id) default)).grid).cells).getD j default)).col) 0)).row) == (((((((d.nodes.getD (lobN (d).nodes v.id) default)).grid).cells).getD j default)).row)))) X0), (23, Xv 2 (true && (v.vis && ((((covQ ((((d.nodes.getD (lobN (d).nodes v.id) default)).grid)).merges (((((((d.nodes.getD (lobN (d).nodes v.id) default)).grid).cells).getD j default)).row) (((((((d.nodes.getD (lobN (d).nodes v.id) default)).grid).cells).getD j default)).col) 0)).row) == (((((((d.nodes.getD (lobN (d).nodes v.id) default)).grid).cells).getD j default)).row)))) X0), (24, Xka true (v.vis && ((((covQ ((((d.nodes.getD (lobN (d).nodes v.id) default)).grid)).merges (((((((d.nodes.getD (lobN (d).nodes v.id) default)).grid).cells).getD j default)).row) (((((((d.nodes.getD (lobN (d).nodes v.id) default)).grid).cells).getD j default)).col) 0)).row) == (((((((d.nodes.getD (lobN (d).nodes v.id) default)).grid).cells).getD j default)).row)))), (25, Xv 3 true X0), (26, Xw true (Xq true (Xq true (Xc3 654 [(0, 0), (1, 1), (2, 2), (3, 3), (4, 4), (5, 5)] (ih ({ id := ((((((d.nodes.getD (lobN (d).nodes v.id) default)).grid).cells).getD j default)).ref, parent := v.id, vis := ((v.vis && ((((covQ ((((d.nodes.getD (lobN (d).nodes v.id) default)).grid)).merges (((((((d.nodes.getD (lobN (d).nodes v.id) default)).grid).cells).getD j default)).row) (((((((d.nodes.getD (lobN (d).nodes v.id) default)).grid).cells).getD j default)).col) 0)).row) == (((((((d.nodes.getD (lobN (d).nodes v.id) default)).grid).cells).getD j default)).row))) && ((((covQ ((((d.nodes.getD (lobN (d).nodes v.id) default)).grid)).merges (((((((d.nodes.getD (lobN (d).nodes v.id) default)).grid).cells).getD j default)).row) (((((((d.nodes.getD (lobN (d).nodes v.id) default)).grid).cells).getD j default)).col) 0)).col) == (((((((d.nodes.getD (lobN (d).nodes v.id) default)).grid).cells).getD j default)).col))) } : Vis) S3 p3 (by assumption)) X0))) (rfl) (by first | omega | (simp; omega) | (simp; done) | assumption)), (27, Xv 1 true X0), (28, X (Xk true))]] (true && !(contY Y.goes p3 (walkV d.nodes n S3 ({ id := ((((((d.nodes.getD (lobN (d).nodes v.id) default)).grid).cells).getD j default)).ref, parent := v.id, vis := ((v.vis && ((((covQ ((((d.nodes.getD (lobN (d).nodes v.id) default)).grid)).merges (((((((d.nodes.getD (lobN (d).nodes v.id) default)).grid).cells).getD j default)).row) (((((((d.nodes.getD (lobN (d).nodes v.id) default)).grid).cells).getD j default)).col) 0)).row) == (((((((d.nodes.getD (lobN (d).nodes v.id) default)).grid).cells).getD j default)).row))) && ((((covQ ((((d.nodes.getD (lobN (d).nodes v.id) default)).grid)).merges (((((((d.nodes.getD (lobN (d).nodes v.id) default)).grid).cells).getD j default)).row) (((((((d.nodes.getD (lobN (d).nodes v.id) default)).grid).cells).getD j default)).col) 0)).col) == (((((((d.nodes.getD (lobN (d).nodes v.id) default)).grid).cells).getD j default)).col))) } : Vis)))) (fun h18 => ?_) (fun h18 => ?_)
      ·
       (try simp only [Bool.not_eq_true', Bool.not_eq_false', Bool.and_eq_true, Bool.and_eq_false_iff, beq_iff_eq, beq_eq_false_iff_ne, ne_eq] at h18)
       have e10 : ((endS Y.goes S p (walkV d.nodes (n + 1) S v)) : List Int) = (endS Y.goes S3 p3 (walkV d.nodes n S3 ({ id := ((((((d.nodes.getD (lobN (d).nodes v.id) default)).grid).cells).getD j default)).ref, parent := v.id, vis := ((v.vis && ((((covQ ((((d.nodes.getD (lobN (d).nodes v.id) default)).grid)).merges (((((((d.nodes.getD (lobN (d).nodes v.id) default)).grid).cells).getD j default)).row) (((((((d.nodes.getD (lobN (d).nodes v.id) default)).grid).cells).getD j default)).col) 0)).row) == (((((((d.nodes.getD (lobN (d).nodes v.id) default)).grid).cells).getD j default)).row))) && ((((covQ ((((d.nodes.getD (lobN (d).nodes v.id) default)).grid)).merges (((((((d.nodes.getD (lobN (d).nodes v.id) default)).grid).cells).getD j default)).row) (((((((d.nodes.getD (lobN (d).nodes v.id) default)).grid).cells).getD j default)).col) 0)).col) == (((((((d.nodes.getD (lobN (d).nodes v.id) default)).grid).cells).getD j default)).col))) } : Vis))) := by
        first | exact (KI.stop I15.2 h1 hR h18.2).1 | exact (KI.stop I15.2 h1 hR h18.2).2.1 | exact (KI.stop I15.2 h1 hR h18.2).2.2 | exact (KI.stop I15.2 h1 hR h18.2).1.symm | exact (KI.stop I15.2 h1 hR h18.2).2.1.symm | exact (KI.stop I15.2 h1 hR h18.2).2.2.symm
       have e11 : ((endP Y.goes p (walkV d.nodes (n + 1) S v)) : List (List Tree)) = (endP Y.goes p3 (walkV d.nodes n S3 ({ id := ((((((d.nodes.getD (lobN (d).nodes v.id) default)).grid).cells).getD j default)).ref, parent := v.id, vis := ((v.vis && ((((covQ ((((d.nodes.getD (lobN (d).nodes v.id) default)).grid)).merges (((((((d.nodes.getD (lobN (d).nodes v.id) default)).grid).cells).getD j default)).row) (((((((d.nodes.getD (lobN (d).nodes v.id) default)).grid).cells).getD j default)).col) 0)).row) == (((((((d.nodes.getD (lobN (d).nodes v.id) default)).grid).cells).getD j default)).row))) && ((((covQ ((((d.nodes.getD (lobN (d).nodes v.id) default)).grid)).merges (((((((d.nodes.getD (lobN (d).nodes v.id) default)).grid).cells).getD j default)).row) (((((((d.nodes.getD (lobN (d).nodes v.id) default)).grid).cells).getD j default)).col) 0)).col) == (((((((d.nodes.getD (lobN (d).nodes v.id) default)).grid).cells).getD j default)).col))) } : Vis))) := by
        first | exact (KI.stop I15.2 h1 hR h18.2).1 | exact (KI.stop I15.2 h1 hR h18.2).2.1 | exact (KI.stop I15.2 h1 hR h18.2).2.2 | exact (KI.stop I15.2 h1 hR h18.2).1.symm | exact (KI.stop I15.2 h1 hR h18.2).2.1.symm | exact (KI.stop I15.2 h1 hR h18.2).2.2.symm
       have e12 : ((contY Y.goes p (walkV d.nodes (n + 1) S v)) : Bool) = false := by
        first | exact (KI.stop I15.2 h1 hR h18.2).1 | exact (KI.stop I15.2 h1 hR h18.2).2.1 | exact (KI.stop I15.2 h1 hR h18.2).2.2 | exact (KI.stop I15.2 h1 hR h18.2).1.symm | exact (KI.stop I15.2 h1 hR h18.2).2.1.symm | exact (KI.stop I15.2 h1 hR h18.2).2.2.symm
       exact .finE [.r []] [(0, 0), (1, 1), (2, 2), (3, 3), (4, 4), (5, 5)] (fun (z0, z1, z2) => (VB z2, [(0, .box [.hdl 4]), (1, .box [.yl 5]), (2, .box [VL 9 nodeT d.nodes]), (3, .box [.fn 75 [.ptr 0 0, .ptr 1 0, .ptr 2 0, .ptr 3 0]]), (4, .mp (List.map onM z0) none), (5, .ext Y z1)])) (((endS Y.goes S3 p3 (walkV d.nodes n S3 ({ id := ((((((d.nodes.getD (lobN (d).nodes v.id) default)).grid).cells).getD j default)).ref, parent := v.id, vis := ((v.vis && ((((covQ ((((d.nodes.getD (lobN (d).nodes v.id) default)).grid)).merges (((((((d.nodes.getD (lobN (d).nodes v.id) default)).grid).cells).getD j default)).row) (((((((d.nodes.getD (lobN (d).nodes v.id) default)).grid).cells).getD j default)).col) 0)).row) == (((((((d.nodes.getD (lobN (d).nodes v.id) default)).grid).cells).getD j default)).row))) && ((((covQ ((((d.nodes.getD (lobN (d).nodes v.id) default)).grid)).merges (((((((d.nodes.getD (lobN (d).nodes v.id) default)).grid).cells).getD j default)).row) (((((((d.nodes.getD (lobN (d).nodes v.id) default)).grid).cells).getD j default)).col) 0)).col) == (((((((d.nodes.getD (lobN (d).nodes v.id) default)).grid).cells).getD j default)).col))) } : Vis))) : List Int), ((endP Y.goes p3 (walkV d.nodes n S3 ({ id := ((((((d.nodes.getD (lobN (d).nodes v.id) default)).grid).cells).getD j default)).ref, parent := v.id, vis := ((v.vis && ((((covQ ((((d.nodes.getD (lobN (d).nodes v.id) default)).grid)).merges (((((((d.nodes.getD (lobN (d).nodes v.id) default)).grid).cells).getD j default)).row) (((((((d.nodes.getD (lobN (d).nodes v.id) default)).grid).cells).getD j default)).col) 0)).row) == (((((((d.nodes.getD (lobN (d).nodes v.id) default)).grid).cells).getD j default)).row))) && ((((covQ ((((d.nodes.getD (lobN (d).nodes v.id) default)).grid)).merges (((((((d.nodes.getD (lobN (d).nodes v.id) default)).grid).cells).getD j default)).row) (((((((d.nodes.getD (lobN (d).nodes v.id) default)).grid).cells).getD j default)).col) 0)).col) == (((((((d.nodes.getD (lobN (d).nodes v.id) default)).grid).cells).getD j default)).col))) } : Vis))) : List (List Tree)), (false : Bool)) (((endS Y.goes S p (walkV d.nodes (n + 1) S v)) : List Int), ((endP Y.goes p (walkV d.nodes (n + 1) S v)) : List (List Tree)), ((contY Y.goes p (walkV d.nodes (n + 1) S v)) : Bool)) (pr e10 (pr e11 e12))
      ·
       (try simp only [Bool.not_eq_true', Bool.not_eq_false', Bool.and_eq_true, Bool.and_eq_false_iff, beq_iff_eq, beq_eq_false_iff_ne, ne_eq] at h18)
       refine .back [.r [(0, X (Xn ((j : Int) + 1)))]] [(0, 0), (1, 1), (2, 2), (3, 3), (4, 4), (5, 5), (6, 6), (230, 230)] (ih15 ((j + 1), (endS Y.goes S3 p3 (walkV d.nodes n S3 ({ id := ((((((d.nodes.getD (lobN (d).nodes v.id) default)).grid).cells).getD j default)).ref, parent := v.id, vis := ((v.vis && ((((covQ ((((d.nodes.getD (lobN (d).nodes v.id) default)).grid)).merges (((((((d.nodes.getD (lobN (d).nodes v.id) default)).grid).cells).getD j default)).row) (((((((d.nodes.getD (lobN (d).nodes v.id) default)).grid).cells).getD j default)).col) 0)).row) == (((((((d.nodes.getD (lobN (d).nodes v.id) default)).grid).cells).getD j default)).row))) && ((((covQ ((((d.nodes.getD (lobN (d).nodes v.id) default)).grid)).merges (((((((d.nodes.getD (lobN (d).nodes v.id) default)).grid).cells).getD j default)).row) (((((((d.nodes.getD (lobN (d).nodes v.id) default)).grid).cells).getD j default)).col) 0)).col) == (((((((d.nodes.getD (lobN (d).nodes v.id) default)).grid).cells).getD j default)).col))) } : Vis))), (endP Y.goes p3 (walkV d.nodes n S3 ({ id := ((((((d.nodes.getD (lobN (d).nodes v.id) default)).grid).cells).getD j default)).ref, parent := v.id, vis := ((v.vis && ((((covQ ((((d.nodes.getD (lobN (d).nodes v.id) default)).grid)).merges (((((((d.nodes.getD (lobN (d).nodes v.id) default)).grid).cells).getD j default)).row) (((((((d.nodes.getD (lobN (d).nodes v.id) default)).grid).cells).getD j default)).col) 0)).row) == (((((((d.nodes.getD (lobN (d).nodes v.id) default)).grid).cells).getD j default)).row))) && ((((covQ ((((d.nodes.getD (lobN (d).nodes v.id) default)).grid)).merges (((((((d.nodes.getD (lobN (d).nodes v.id) default)).grid).cells).getD j default)).row) (((((((d.nodes.getD (lobN (d).nodes v.id) default)).grid).cells).getD j default)).col) 0)).col) == (((((((d.nodes.getD (lobN (d).nodes v.id) default)).grid).cells).getD j default)).col))) } : Vis)))) ?_ ?_)
       ·
        refine ⟨by omega, ?_⟩
        rw [hnx]; exact I15.2.next (h18.resolve_left (by decide))
       ·
        ((try dsimp only); omega)
    ·
     (try simp only [decide_eq_true_eq, decide_eq_false_iff_not, Int.not_lt, Int.not_le] at h15)
     refine .loop (α := Nat × List Int × List (List Tree)) [.r [(2, X (Xc1 358 (fc_itemsD d ({ id := ((d.nodes.getD (lobN (d).nodes v.id) default)).id, kind := ((d.nodes.getD (lobN (d).nodes v.id) default)).kind, attrs := ((d.nodes.getD (lobN (d).nodes v.id) default)).attrs, flow := ((d.nodes.getD (lobN (d).nodes v.id) default)).flow, grid := (((d.nodes.getD (lobN (d).nodes v.id) default)).grid), draw := ((d.nodes.getD (lobN (d).nodes v.id) default)).draw } : Node) (by assumption) (by assumption) (by assumption) (by assumption)) X0)), (3, X (Xl intT (itemsD (d).nodes ({ id := ((d.nodes.getD (lobN (d).nodes v.id) default)).id, kind := ((d.nodes.getD (lobN (d).nodes v.id) default)).kind, attrs := ((d.nodes.getD (lobN (d).nodes v.id) default)).attrs, flow := ((d.nodes.getD (lobN (d).nodes v.id) default)).flow, grid := (((d.nodes.getD (lobN (d).nodes v.id) default)).grid), draw := ((d.nodes.getD (lobN (d).nodes v.id) default)).draw } : Node))))]] 382 (fun (q, S4, p4) => ([(4, .ptr 3 0), (5, .ptr 6 0), (105, VL 1 intT (itemsD (d).nodes ({ id := ((d.nodes.getD (lobN (d).nodes v.id) default)).id, kind := ((d.nodes.getD (lobN (d).nodes v.id) default)).kind, attrs := ((d.nodes.getD (lobN (d).nodes v.id) default)).attrs, flow := ((d.nodes.getD (lobN (d).nodes v.id) default)).flow, grid := (((d.nodes.getD (lobN (d).nodes v.id) default)).grid), draw := ((d.nodes.getD (lobN (d).nodes v.id) default)).draw } : Node))), (106, VI ((itemsD (d).nodes ({ id := ((d.nodes.getD (lobN (d).nodes v.id) default)).id, kind := ((d.nodes.getD (lobN (d).nodes v.id) default)).kind, attrs := ((d.nodes.getD (lobN (d).nodes v.id) default)).attrs, flow := ((d.nodes.getD (lobN (d).nodes v.id) default)).flow, grid := (((d.nodes.getD (lobN (d).nodes v.id) default)).grid), draw := ((d.nodes.getD (lobN (d).nodes v.id) default)).draw } : Node)).length : Int)), (107, VI (q : Int))], [(0, .box [.hdl 4]), (1, .box [.yl 5]), (2, .box [VL 9 nodeT d.nodes]), (3, .box [.fn 75 [.ptr 0 0, .ptr 1 0, .ptr 2 0, .ptr 3 0]]), (4, .mp (List.map onM S4) none), (5, .ext Y p4), (6, .box [VI v.id, VI v.parent, VB v.vis])])) (fun (q, S4, p4) => q ≤ (itemsD d.nodes (d.nodes.getD (lobN d.nodes v.id) default)).length ∧ KI d Y n S p v (kidI d v q) S4 p4) (fun (q, S4, p4) => (itemsD d.nodes (d.nodes.getD (lobN d.nodes v.id) default)).length - q) (0, S3, p3) ?_ ?_
     ·
      exact ⟨Nat.zero_le _, by rw [kidI_zero, show (d.nodes.getD (lobN d.nodes v.id) default).grid.cells.length = j by omega]; exact I15.2⟩
     rintro ⟨q, S4, p4⟩ I22 ih22
     try dsimp only at I22
     refine .br [.r []] (decide ((q : Int) < ((itemsD (d).nodes ({ id := ((d.nodes.getD (lobN (d).nodes v.id) default)).id, kind := ((d.nodes.getD (lobN (d).nodes v.id) default)).kind, attrs := ((d.nodes.getD (lobN (d).nodes v.id) default)).attrs, flow := ((d.nodes.getD (lobN (d).nodes v.id) default)).flow, grid := (((d.nodes.getD (lobN (d).nodes v.id) default)).grid), draw := ((d.nodes.getD (lobN (d).nodes v.id) default)).draw } : Node)).length : Int))) (fun h22 => ?_) (fun h22 => ?_)
     ·
      (try simp only [decide_eq_true_eq, decide_eq_false_iff_not, Int.not_lt, Int.not_le] at h22)
      obtain ⟨⟨R, hR⟩, hnx⟩ := kidI_at (d := d) (v := v) (i := q) (by omega)
      have hcall : WOk d Y n S4 p4 ({ id := ((itemsD d.nodes (d.nodes.getD (lobN d.nodes v.id) default)).getD q default), parent := v.id, vis := v.vis } : Vis) := KI.call I22.2 hw h1 hR (kids_has hV hw.has (by rw [hR]; exact List.mem_append_right _ List.mem_cons_self))
      refine .br [.r [(0, X (Xi intT (itemsD (d).nodes ({ id := ((d.nodes.getD (lobN (d).nodes v.id) default)).id, kind := ((d.nodes.getD (lobN (d).nodes v.id) default)).kind, attrs := ((d.nodes.getD (lobN (d).nodes v.id) default)).attrs, flow := ((d.nodes.getD (lobN (d).nodes v.id) default)).flow, grid := (((d.nodes.getD (lobN (d).nodes v.id) default)).grid), draw := ((d.nodes.getD (lobN (d).nodes v.id) default)).draw } : Node)) (q : Int)))], .r [(7, X (Xc3 470 [(0, 0), (1, 1), (2, 2), (3, 3), (4, 4), (5, 5)] (ih ({ id := ((itemsD (d).nodes ({ id := ((d.nodes.getD (lobN (d).nodes v.id) default)).id, kind := ((d.nodes.getD (lobN (d).nodes v.id) default)).kind, attrs := ((d.nodes.getD (lobN (d).nodes v.id) default)).attrs, flow := ((d.nodes.getD (lobN (d).nodes v.id) default)).flow, grid := (((d.nodes.getD (lobN (d).nodes v.id) default)).grid), draw := ((d.nodes.getD (lobN (d).nodes v.id) default)).draw } : Node)).getD q default), parent := v.id, vis := v.vis } : Vis) S4 p4 (by assumption)) X0))]] (!(contY Y.goes p4 (walkV d.nodes n S4 ({ id := ((itemsD (d).nodes ({ id := ((d.nodes.getD (lobN (d).nodes v.id) default)).id, kind := ((d.nodes.getD (lobN (d).nodes v.id) default)).kind, attrs := ((d.nodes.getD (lobN (d).nodes v.id) default)).attrs, flow := ((d.nodes.getD (lobN (d).nodes v.id) default)).flow, grid := (((d.nodes.getD (lobN (d).nodes v.id) default)).grid), draw := ((d.nodes.getD (lobN (d).nodes v.id) default)).draw } : Node)).getD q default), parent := v.id, vis := v.vis } : Vis)))) (fun h24 => ?_) (fun h24 => ?_)
      ·
       (try simp only [Bool.not_eq_true', Bool.not_eq_false'] at h24)
       have e13 : ((endS Y.goes S p (walkV d.nodes (n + 1) S v)) : List Int) = (endS Y.goes S4 p4 (walkV d.nodes n S4 ({ id := ((itemsD (d).nodes ({ id := ((d.nodes.getD (lobN (d).nodes v.id) default)).id, kind := ((d.nodes.getD (lobN (d).nodes v.id) default)).kind, attrs := ((d.nodes.getD (lobN (d).nodes v.id) default)).attrs, flow := ((d.nodes.getD (lobN (d).nodes v.id) default)).flow, grid := (((d.nodes.getD (lobN (d).nodes v.id) default)).grid), draw := ((d.nodes.getD (lobN (d).nodes v.id) default)).draw } : Node)).getD q default), parent := v.id, vis := v.vis } : Vis))) := by
        first | exact (KI.stop I22.2 h1 hR h24).1 | exact (KI.stop I22.2 h1 hR h24).2.1 | exact (KI.stop I22.2 h1 hR h24).2.2 | exact (KI.stop I22.2 h1 hR h24).1.symm | exact (KI.stop I22.2 h1 hR h24).2.1.symm | exact (KI.stop I22.2 h1 hR h24).2.2.symm
       have e14 : ((endP Y.goes p (walkV d.nodes (n + 1) S v)) : List (List Tree)) = (endP Y.goes p4 (walkV d.nodes n S4 ({ id := ((itemsD (d).nodes ({ id := ((d.nodes.getD (lobN (d).nodes v.id) default)).id, kind := ((d.nodes.getD (lobN (d).nodes v.id) default)).kind, attrs := ((d.nodes.getD (lobN (d).nodes v.id) default)).attrs, flow := ((d.nodes.getD (lobN (d).nodes v.id) default)).flow, grid := (((d.nodes.getD (lobN (d).nodes v.id) default)).grid), draw := ((d.nodes.getD (lobN (d).nodes v.id) default)).draw } : Node)).getD q default), parent := v.id, vis := v.vis } : Vis))) := by
        first | exact (KI.stop I22.2 h1 hR h24).1 | exact (KI.stop I22.2 h1 hR h24).2.1 | exact (KI.stop I22.2 h1 hR h24).2.2 | exact (KI.stop I22.2 h1 hR h24).1.symm | exact (KI.stop I22.2 h1 hR h24).2.1.symm | exact (KI.stop I22.2 h1 hR h24).2.2.symm
       have e15 : ((contY Y.goes p (walkV d.nodes (n + 1) S v)) : Bool) = false := by
        first | exact (KI.stop I22.2 h1 hR h24).1 | exact (KI.stop I22.2 h1 hR h24).2.1 | exact (KI.stop I22.2 h1 hR h24).2.2 | exact (KI.stop I22.2 h1 hR h24).1.symm | exact (KI.stop I22.2 h1 hR h24).2.1.symm | exact (KI.stop I22.2 h1 hR h24).2.2.symm
       exact .finE [.r []] [(0, 0), (1, 1), (2, 2), (3, 3), (4, 4), (5, 5)] (fun (z0, z1, z2) => (VB z2, [(0, .box [.hdl 4]), (1, .box [.yl 5]), (2, .box [VL 9 nodeT d.nodes]), (3, .box [.fn 75 [.ptr 0 0, .ptr 1 0, .ptr 2 0, .ptr 3 0]]), (4, .mp (List.map onM z0) none), (5, .ext Y z1)])) (((endS Y.goes S4 p4 (walkV d.nodes n S4 ({ id := ((itemsD (d).nodes ({ id := ((d.nodes.getD (lobN (d).nodes v.id) default)).id, kind := ((d.nodes.getD (lobN (d).nodes v.id) default)).kind, attrs := ((d.nodes.getD (lobN (d).nodes v.id) default)).attrs, flow := ((d.nodes.getD (lobN (d).nodes v.id) default)).flow, grid := (((d.nodes.getD (lobN (d).nodes v.id) default)).grid), draw := ((d.nodes.getD (lobN (d).nodes v.id) default)).draw } : Node)).getD q default), parent := v.id, vis := v.vis } : Vis))) : List Int), ((endP Y.goes p4 (walkV d.nodes n S4 ({ id := ((itemsD (d).nodes ({ id := ((d.nodes.getD (lobN (d).nodes v.id) default)).id, kind := ((d.nodes.getD (lobN (d).nodes v.id) default)).kind, attrs := ((d.nodes.getD (lobN (d).nodes v.id) default)).attrs, flow := ((d.nodes.getD (lobN (d).nodes v.id) default)).flow, grid := (((d.nodes.getD (lobN (d).nodes v.id) default)).grid), draw := ((d.nodes.getD (lobN (d).nodes v.id) default)).draw } : Node)).getD q default), parent := v.id, vis := v.vis } : Vis))) : List (List Tree)), (false : Bool)) (((endS Y.goes S p (walkV d.nodes (n + 1) S v)) : List Int), ((endP Y.goes p (walkV d.nodes (n + 1) S v)) : List (List Tree)), ((contY Y.goes p (walkV d.nodes (n + 1) S v)) : Bool)) (pr e13 (pr e14 e15))
      ·
       (try simp only [Bool.not_eq_true', Bool.not_eq_false'] at h24)
       refine .back [.r [(0, X (Xn ((q : Int) + 1)))]] [(0, 0), (1, 1), (2, 2), (3, 3), (4, 4), (5, 5), (6, 6)] (ih22 ((q + 1), (endS Y.goes S4 p4 (walkV d.nodes n S4 ({ id := ((itemsD (d).nodes ({ id := ((d.nodes.getD (lobN (d).nodes v.id) default)).id, kind := ((d.nodes.getD (lobN (d).nodes v.id) default)).kind, attrs := ((d.nodes.getD (lobN (d).nodes v.id) default)).attrs, flow := ((d.nodes.getD (lobN (d).nodes v.id) default)).flow, grid := (((d.nodes.getD (lobN (d).nodes v.id) default)).grid), draw := ((d.nodes.getD (lobN (d).nodes v.id) default)).draw } : Node)).getD q default), parent := v.id, vis := v.vis } : Vis))), (endP Y.goes p4 (walkV d.nodes n S4 ({ id := ((itemsD (d).nodes ({ id := ((d.nodes.getD (lobN (d).nodes v.id) default)).id, kind := ((d.nodes.getD (lobN (d).nodes v.id) default)).kind, attrs := ((d.nodes.getD (lobN (d).nodes v.id) default)).attrs, flow := ((d.nodes.getD (lobN (d).nodes v.id) default)).flow, grid := (((d.nodes.getD (lobN (d).nodes v.id) default)).grid), draw := ((d.nodes.getD (lobN (d).nodes v.id) default)).draw } : Node)).getD q default), parent := v.id, vis := v.vis } : Vis)))) ?_ ?_)
       ·
        refine ⟨by omega, ?_⟩
        rw [hnx]; exact I22.2.next h24
       ·
        ((try dsimp only); omega)
     ·
      (try simp only [decide_eq_true_eq, decide_eq_false_iff_not, Int.not_lt, Int.not_le] at h22)
      have e16 : ((endS Y.goes S p (walkV d.nodes (n + 1) S v)) : List Int) = S4 := by
       first | exact (KI.done I22.2 h1 (kidI_end.trans (by rw [show (itemsD d.nodes (d.nodes.getD (lobN d.nodes v.id) default)).length = q by omega]))).1 | exact (KI.done I22.2 h1 (kidI_end.trans (by rw [show (itemsD d.nodes (d.nodes.getD (lobN d.nodes v.id) default)).length = q by omega]))).2.1 | exact (KI.done I22.2 h1 (kidI_end.trans (by rw [show (itemsD d.nodes (d.nodes.getD (lobN d.nodes v.id) default)).length = q by omega]))).2.2 | exact (KI.done I22.2 h1 (kidI_end.trans (by rw [show (itemsD d.nodes (d.nodes.getD (lobN d.nodes v.id) default)).length = q by omega]))).1.symm | exact (KI.done I22.2 h1 (kidI_end.trans (by rw [show (itemsD d.nodes (d.nodes.getD (lobN d.nodes v.id) default)).length = q by omega]))).2.1.symm | exact (KI.done I22.2 h1 (kidI_end.trans (by rw [show (itemsD d.nodes (d.nodes.getD (lobN d.nodes v.id) default)).length = q by omega]))).2.2.symm
      have e17 : ((endP Y.goes p (walkV d.nodes (n + 1) S v)) : List (List Tree)) = p4 := by
       first | exact (KI.done I22.2 h1 (kidI_end.trans (by rw [show (itemsD d.nodes (d.nodes.getD (lobN d.nodes v.id) default)).length = q by omega]))).1 | exact (KI.done I22.2 h1 (kidI_end.trans (by rw [show (itemsD d.nodes (d.nodes.getD (lobN d.nodes v.id) default)).length = q by omega]))).2.1 | exact (KI.done I22.2 h1 (kidI_end.trans (by rw [show (itemsD d.nodes (d.nodes.getD (lobN d.nodes v.id) default)).length = q by omega]))).2.2 | exact (KI.done I22.2 h1 (kidI_end.trans (by rw [show (itemsD d.nodes (d.nodes.getD (lobN d.nodes v.id) default)).length = q by omega]))).1.symm | exact (KI.done I22.2 h1 (kidI_end.trans (by rw [show (itemsD d.nodes (d.nodes.getD (lobN d.nodes v.id) default)).length = q by omega]))).2.1.symm | exact (KI.done I22.2 h1 (kidI_end.trans (by rw [show (itemsD d.nodes (d.nodes.getD (lobN d.nodes v.id) default)).length = q by omega]))).2.2.symm
      have e18 : ((contY Y.goes p (walkV d.nodes (n + 1) S v)) : Bool) = true := by
       first | exact (KI.done I22.2 h1 (kidI_end.trans (by rw [show (itemsD d.nodes (d.nodes.getD (lobN d.nodes v.id) default)).length = q by omega]))).1 | exact (KI.done I22.2 h1 (kidI_end.trans (by rw [show (itemsD d.nodes (d.nodes.getD (lobN d.nodes v.id) default)).length = q by omega]))).2.1 | exact (KI.done I22.2 h1 (kidI_end.trans (by rw [show (itemsD d.nodes (d.nodes.getD (lobN d.nodes v.id) default)).length = q by omega]))).2.2 | exact (KI.done I22.2 h1 (kidI_end.trans (by rw [show (itemsD d.nodes (d.nodes.getD (lobN d.nodes v.id) default)).length = q by omega]))).1.symm | exact (KI.done I22.2 h1 (kidI_end.trans (by rw [show (itemsD d.nodes (d.nodes.getD (lobN d.nodes v.id) default)).length = q by omega]))).2.1.symm | exact (KI.done I22.2 h1 (kidI_end.trans (by rw [show (itemsD d.nodes (d.nodes.getD (lobN d.nodes v.id) default)).length = q by omega]))).2.2.symm
      exact .finE [.r []] [(0, 0), (1, 1), (2, 2), (3, 3), (4, 4), (5, 5)] (fun (z0, z1, z2) => (VB z2, [(0, .box [.hdl 4]), (1, .box [.yl 5]), (2, .box [VL 9 nodeT d.nodes]), (3, .box [.fn 75 [.ptr 0 0, .ptr 1 0, .ptr 2 0, .ptr 3 0]]), (4, .mp (List.map onM z0) none), (5, .ext Y z1)])) ((S4 : List Int), (p4 : List (List Tree)), (true : Bool)) (((endS Y.goes S p (walkV d.nodes (n + 1) S v)) : List Int), ((endP Y.goes p (walkV d.nodes (n + 1) S v)) : List (List Tree)), ((contY Y.goes p (walkV d.nodes (n + 1) S v)) : Bool)) (pr e16 (pr e17 e18))
end Go.Ch
end
section
set_option linter.unusedVariables false
namespace Go.Ch
open Go Go.Ab

def root9 : Vis := ⟨1, 0, true⟩
def treeV (d : Doc) : List Vis := walkV d.nodes (d.nodes.length + 1) [] root9
theorem WOk.root {d : Doc} {Y : YSpec} {pre : List (List Tree)} (hV : DocV d) (ha : AdmY Y pre (treeV d)) : WOk d Y (d.nodes.length + 1) [] pre root9 :=
  ⟨hV.one, by have := List.length_filter_le (fun n : Node => decide (n.id ∉ ([] : List Int))) d.nodes; unfold muS; omega, ha⟩

/-! ### The two numbers of a visit -/
def encP (v : Vis) : List Tree := [TI v.id, TI v.parent]
def idP : List Tree → List Tree
  | [.agg (a :: b :: _)] => [a, b]
  | _ => []
theorem idP_enc (v : Vis) : idP (enc1 v) = encP v := rfl
def stopP (g : List (List Tree) → Bool) : List (List Tree) → List Vis → List Vis
  | _, [] => []
  | pre, x :: l => x :: (if g (pre ++ [encP x]) = true then stopP g (pre ++ [encP x]) l else [])
def AdmP (Y : YSpec) : List (List Tree) → List Vis → Prop
  | _, [] => True
  | pre, x :: l => Y.adm pre (encP x) ∧ (Y.goes (pre ++ [encP x]) = true → AdmP Y (pre ++ [encP x]) l)
theorem map_idP (p0 pre : List (List Tree)) (x : Vis) : p0 ++ (pre ++ [enc1 x]).map idP = p0 ++ pre.map idP ++ [encP x] := by simp [idP_enc]
theorem stop_conv {g : List (List Tree) → Bool} {p0 : List (List Tree)} : ∀ {l : List Vis} {pre : List (List Tree)}, stopY (fun p => g (p0 ++ p.map idP)) pre l = stopP g (p0 ++ pre.map idP) l
  | [], pre => rfl
  | x :: l, pre => by
    rw [stopY, stopP, map_idP, stop_conv, map_idP]
theorem adm_conv {Y Y2 : YSpec} {p0 : List (List Tree)} (hg : Y2.goes = fun p => Y.goes (p0 ++ p.map idP)) (ha : Y2.adm = fun p xs => ∃ v, xs = enc1 v ∧ Y.adm (p0 ++ p.map idP) (encP v)) : ∀ {l : List Vis} {pre : List (List Tree)}, AdmP Y (p0 ++ pre.map idP) l → AdmY Y2 pre l
  | [], pre, _ => trivial
  | x :: l, pre, h => by
    refine ⟨by rw [ha]; exact ⟨x, rfl, h.1⟩, fun q => ?_⟩
    rw [hg] at q
    have q' : Y.goes (p0 ++ pre.map idP ++ [encP x]) = true := by rw [← map_idP]; exact q
    have := h.2 q'
    rw [← map_idP] at this
    exact adm_conv hg ha this
theorem end_conv {g : List (List Tree) → Bool} {p0 : List (List Tree)} {l : List Vis} : p0 ++ (endP (fun p => g (p0 ++ p.map idP)) [] l).map idP = p0 ++ (stopP g p0 l).map encP := by
  unfold endP
  have := stop_conv (g := g) (p0 := p0) (l := l) (pre := [])
  rw [List.map_nil, List.append_nil] at this
  rw [this, List.nil_append, List.map_map]
  rfl

/-! ### As a loop meets it -/
theorem stop_take {J : Nat → Option Code} : ∀ {l : List Vis} {pre : List (List Tree)} {m : Nat}, m ≤ l.length → (∀ k, 0 < k → k < m → J (pre.length + k) = none) → (m = l.length ∨ (0 < m ∧ J (pre.length + m) ≠ none)) →
    stopP (fun p => (J p.length).isNone) pre l = l.take m
  | [], pre, m, h, _, _ => by simp [stopP]
  | x :: l, pre, 0, h, _, hm => by rcases hm with h | h; (simp at h); (omega)
  | x :: l, pre, m + 1, h, hj, hm => by
    rw [stopP, List.take_succ_cons]
    congr 1
    have e : (pre ++ [encP x]).length = pre.length + 1 := by simp
    by_cases hn : J (pre.length + 1) = none
    · rw [if_pos (by rw [e, hn]; rfl)]
      refine stop_take (by simpa using h) (fun k k1 k2 => ?_) ?_
      · rw [e, show pre.length + 1 + k = pre.length + (k + 1) by omega]; exact hj (k + 1) (by omega) (by omega)
      · rcases hm with hm | ⟨_, hm⟩
        · left; simpa using hm
        · by_cases q : m = 0
          · subst q; exact absurd hn hm
          · right; exact ⟨by omega, by rw [e, show pre.length + 1 + m = pre.length + (m + 1) by omega]; exact hm⟩
    · have q : m = 0 := Classical.byContradiction fun q => hn (hj 1 (by omega) (by omega))
      subst q
      rw [if_neg (by rw [e]; cases hh : J (pre.length + 1) with | none => exact absurd hh hn | some c => simp)]
      simp
theorem admP_loop {Y : YSpec} {J : Nat → Option Code} (hg : Y.goes = fun p => (J p.length).isNone) {vl : List Vis} (ha : ∀ k, k < vl.length → J k = none → Y.adm ((vl.take k).map encP) (encP (vl.getD k default))) (h0 : J 0 = none) : AdmP Y [] vl := by
  have key : ∀ (n k : Nat), vl.length - k = n → k ≤ vl.length → J k = none → AdmP Y ((vl.take k).map encP) (vl.drop k) := by
    intro n
    induction n with
    | zero => intro k h hk _; rw [List.drop_eq_nil_of_le (by omega)]; trivial
    | succ n ih =>
      intro k h hk hj
      have hlt : k < vl.length := by omega
      rw [drop_succD hlt]
      refine ⟨ha k hlt hj, fun q => ?_⟩
      have e : (vl.take k).map encP ++ [encP (vl.getD k default)] = (vl.take (k + 1)).map encP := by rw [takeD hlt, List.map_append]; rfl
      rw [e] at q ⊢
      refine ih (k + 1) (by omega) (by omega) ?_
      rw [hg] at q
      simp only [List.length_map, List.length_take, Nat.min_eq_left (show k + 1 ≤ vl.length by omega)] at q
      cases hh : J (k + 1) with
      | none => rfl
      | some c => rw [hh] at q; cases q
  have := key _ 0 rfl (Nat.zero_le _) h0
  simpa using this

/-! ### The search for one node -/
def gV (k : Int) (pre : List (List Tree)) : Bool := match pre.getLast? with
  | some [.agg (.sc (.int _ i) :: _)] => i != k
  | _ => true
def outT (k : Int) (pre : List (List Tree)) : Bool := pre.foldl (fun b xs => match xs with
  | [.agg [.sc (.int _ i), _, .sc (.bool c)]] => if i = k then c else b
  | _ => b) false
theorem gV_snoc (k : Int) (pre : List (List Tree)) (v : Vis) : gV k (pre ++ [enc1 v]) = (v.id != k) := by
  unfold gV; rw [List.getLast?_concat]; rfl
theorem outT_snoc (k : Int) (pre : List (List Tree)) (v : Vis) : outT k (pre ++ [enc1 v]) = if v.id = k then v.vis else outT k pre := by
  unfold outT; rw [List.foldl_append]; rfl
/-- Whether a node is visible: as its first visit says. -/
def visD (d : Doc) (k : Int) : Bool := ((treeV d).find? (fun v => v.id == k)).elim false Vis.vis
theorem out_find (k : Int) : ∀ {l : List Vis} {pre : List (List Tree)}, outT k (pre ++ (stopY (gV k) pre l).map enc1) = (l.find? (fun v => v.id == k)).elim (outT k pre) Vis.vis
  | [], pre => by simp [stopY]
  | x :: l, pre => by
    rw [stopY, gV_snoc, List.find?_cons]
    by_cases h : x.id = k
    · rw [if_neg (by simp [h]), show (x.id == k) = true by simp [h]]
      rw [List.map_cons, List.map_nil, outT_snoc, if_pos h]; rfl
    · rw [if_pos (by simp [h]), show (x.id == k) = false by simp [h]]
      rw [List.map_cons, List.append_cons, out_find k, outT_snoc, if_neg h]
theorem out_end (d : Doc) (k : Int) : outT k (endP (gV k) [] (treeV d)) = visD d k := by
  unfold endP visD; rw [out_find k]; rfl
theorem adm_vis {Y : YSpec} (ha : Y.adm = fun _ xs => ∃ v, xs = enc1 v) : ∀ {l : List Vis} {pre : List (List Tree)}, AdmY Y pre l
  | [], pre => trivial
  | x :: l, pre => ⟨by rw [ha]; exact ⟨x, rfl⟩, fun _ => adm_vis ha⟩

/-! ### The tree as a loop's values -/
theorem iter_of {P : Program} {gf : FuncId} {caps : List AVal} {C : List (Nat × Ob)} {e : Nat} {d : Doc} {J : Nat → Option Code} {m : Nat} {res : AVal} (hm : m ≤ (treeV d).length) (hj : ∀ k, 0 < k → k < m → J k = none) (he : m = (treeV d).length ∨ (0 < m ∧ J m ≠ none)) (h0 : J 0 = none)
    (h : ∀ Y : YSpec, YCalls P Y → AdmP Y [] (treeV d) → FC P gf (.yl e :: caps) (app emp ((e, .ext Y []) :: C)) res (app emp ((e, .ext Y ([] ++ (stopP Y.goes [] (treeV d)).map encP)) :: C))) :
    Iter P gf caps C e encP default (treeV d) J m res := by
  refine ⟨fun Y hg ha hY => ?_, hm⟩
  have := h Y hY (admP_loop hg ha h0)
  rw [hg, stop_take hm (by simpa using hj) (by simpa using he)] at this
  exact this
end Go.Ch
end
section
set_option linter.unusedVariables false
set_option linter.unusedSimpArgs false
set_option maxRecDepth 100000
set_option maxHeartbeats 4000000
open Go Go.Proofs Go.Ab
namespace Go.Ch
theorem fc_from (d : Doc) (Y : YSpec) (hY : YCalls Tryz.prog Y) (hV : DocV d) : ∀ (n : Nat), ∀ (v : Vis) (S : List Int) (p : List (List Tree)), WOk d Y n S p v → FC Tryz.prog 75 [.t (visT v), .ptr 0 0, .ptr 1 0, .ptr 2 0, .ptr 3 0] (app emp [(0, .box [.hdl 4]), (1, .box [.yl 5]), (2, .box [VL 9 nodeT d.nodes]), (3, .box [.fn 75 [.ptr 0 0, .ptr 1 0, .ptr 2 0, .ptr 3 0]]), (4, .mp (List.map onM S) none), (5, .ext Y p)]) (VB (contY Y.goes p (walkV d.nodes n S v))) (app emp [(0, .box [.hdl 4]), (1, .box [.yl 5]), (2, .box [VL 9 nodeT d.nodes]), (3, .box [.fn 75 [.ptr 0 0, .ptr 1 0, .ptr 2 0, .ptr 3 0]]), (4, .mp (List.map onM (endS Y.goes S p (walkV d.nodes n S v))) none), (5, .ext Y (endP Y.goes p (walkV d.nodes n S v)))])
  | 0, v, S, p, hw => absurd hw.mu (Nat.not_lt_zero _)
  | n + 1, v, S, p, hw => fc_from1 d Y hY hV n (fc_from d Y hY hV n) v S p hw

theorem fc_walkY (d : Doc) (Y : YSpec) (hY : YCalls Tryz.prog Y) (hV : DocV d) (p : List (List Tree)) (ha : AdmY Y p (treeV d)) : FC Tryz.prog 38 [.t (docT d), .yl 0] (app emp [(0, .ext Y p)]) (.tup []) (app emp [(0, .ext Y (endP Y.goes p (treeV d)))]) := by
 refine .go Tryz.f38 ?_
 have e1 : ((endP Y.goes p (treeV d)) : List (List Tree)) = (endP Y.goes p (walkV d.nodes (d.nodes.length + 1) [] ({ id := 1, parent := 0, vis := true } : Vis))) := by
  rfl
 exact .finE [.r [], .r [], .r [], .r [], .r [(2, X (Xc3 81 [(0, 25), (1, 9), (2, 1), (3, 41), (4, 17), (5, 0)] (fc_from d Y hY hV (d.nodes.length + 1) ({ id := 1, parent := 0, vis := true } : Vis) [] p (WOk.root hV ha)) X0))]] [(0, 0)] (fun z0 => (.tup [], [(0, .ext Y z0)])) ((endP Y.goes p (walkV d.nodes (d.nodes.length + 1) [] ({ id := 1, parent := 0, vis := true } : Vis))) : List (List Tree)) ((endP Y.goes p (treeV d)) : List (List Tree)) e1

theorem fc_treeC (Y : YSpec) (hY : YCalls Tryz.prog Y) (v : Vis) (p : List (List Tree)) (ha : Y.adm p (encP v)) : FC Tryz.prog 39 [.t (visT v), .ptr 0 0] (app emp [(0, .box [.yl 1]), (1, .ext Y p)]) (VB (Y.goes (p ++ [encP v]))) (app emp [(0, .box [.yl 1]), (1, .ext Y (p ++ [encP v]))]) := by
 refine .go Tryz.f39 ?_
 have e1 : ((p ++ [encP v]) : List (List Tree)) = (p ++ [(encP v)]) := by
  rfl
 have e2 : ((Y.goes (p ++ [encP v])) : Bool) = (Y.goes (p ++ [(encP v)])) := by
  rfl
 exact .finE [.r [], .r [(5, X (Xy Tryz.prog Y p (encP v)) (⟨hY, ha⟩))]] [(0, 0), (1, 1)] (fun (z0, z1) => (VB z1, [(0, .box [.yl 1]), (1, .ext Y z0)])) (((p ++ [(encP v)]) : List (List Tree)), ((Y.goes (p ++ [(encP v)])) : Bool)) (((p ++ [encP v]) : List (List Tree)), ((Y.goes (p ++ [encP v])) : Bool)) (pr e1 e2)

theorem fc_walkT (d : Doc) (Y : YSpec) (hY : YCalls Tryz.prog Y) (hV : DocV d) (p : List (List Tree)) (ha : AdmP Y p (treeV d)) : FC Tryz.prog 38 [.t (docT d), .fn 39 [.ptr 0 0]] (app emp [(0, .box [.yl 1]), (1, .ext Y p)]) (.tup []) (app emp [(0, .box [.yl 1]), (1, .ext Y (p ++ (stopP Y.goes p (treeV d)).map encP))]) := by
  have h := FC.pack (P := Tryz.prog) (W := 38) (fid := 39) (a1 := [.t (docT d)]) (a2 := []) (caps := [.ptr 0 0]) (R := fun pre => [(0, .box [.yl 1]), (1, .ext Y (p ++ pre.map idP))]) (C := []) (pre0 := []) (pre' := endP (fun pre => Y.goes (p ++ pre.map idP)) [] (treeV d)) (res := .tup []) (e := 0)
    (G := fun pre => Y.goes (p ++ pre.map idP)) (A := fun pre xs => ∃ v, xs = enc1 v ∧ Y.adm (p ++ pre.map idP) (encP v))
    (fun pre xs hA => by
      obtain ⟨v, rfl, hadm⟩ := hA
      have := fc_treeC Y hY v (p ++ pre.map idP) hadm
      rw [← map_idP] at this
      exact this)
    (fun Y2 h1 h2 h3 => by
      have := fc_walkY d Y2 h3 hV [] (adm_conv (p0 := p) h1 h2 (by simpa using ha))
      rw [h1] at this
      exact this)
    (by kernel_rfl) (by kernel_rfl) rfl (by kernel_rfl) (by kernel_rfl) rfl
  rw [end_conv] at h
  simpa using h
end Go.Ch
end
section
set_option linter.unusedVariables false
set_option linter.unusedSimpArgs false
set_option maxRecDepth 100000
set_option maxHeartbeats 4000000
open Go Go.Proofs Go.Ab
namespace Go.Ch
theorem fc_treeB (d : Doc) (Y : YSpec) (hY : YCalls Tryz.prog Y) (hV : DocV d) (p : List (List Tree)) (ha : AdmP Y p (treeV d)) : FC Tryz.prog 37 [.yl 0, .ptr 1 0] (app emp [(0, .ext Y p), (1, .box [VL 9 nodeT d.nodes])]) (.tup []) (app emp [(0, .ext Y (p ++ (stopP Y.goes p (treeV d)).map encP)), (1, .box [VL 9 nodeT d.nodes])]) := by
 refine .go Tryz.f37 ?_
 have hb := hV.b
 refine .br [.r [], .r [(1, X (Xc0 (fc_docCk d (by assumption)) X0))]] ((docE d) != 0) (fun h1 => ?_) (fun h1 => ?_)
 ·
  (try simp only [bne_iff_ne, bne_eq_false_iff_eq, ne_eq] at h1)
  exfalso
  exact h1 hV.e
 ·
  (try simp only [bne_iff_ne, bne_eq_false_iff_eq, ne_eq] at h1)
  exact .fin [.r [(2, X (Xc3 50 [(0, 2), (1, 0)] (fc_walkT d Y hY hV p (by assumption)) X0))]] [(0, 0), (1, 1)]

theorem fc_tree (d : Doc) (hb : DocB d) : FC Tryz.prog 10 [.t (docT d)] (app emp []) (.fn 37 [.ptr 0 0]) (app emp [(0, .box [VL 9 nodeT d.nodes])]) := by
 refine .go Tryz.f10 ?_
 exact .fin [.r [], .r [(1, X (Xc1 24 (fc_copyD d (by assumption)) X0))], .r []] [(0, 0)]

theorem fc_visC (v : Vis) (k : Int) (b : Bool) : FC Tryz.prog 40 [.t (visT v), .ptr 0 0, .ptr 1 0] (app emp [(0, .box [VI k]), (1, .box [VB b])]) (VB (v.id != k)) (app emp [(0, .box [VI k]), (1, .box [VB (if v.id = k then v.vis else b)])]) := by
 refine .go Tryz.f40 ?_
 refine .br [.r [], .r []] (v.id == k) (fun h1 => ?_) (fun h1 => ?_)
 ·
  (try simp only [beq_iff_eq, beq_eq_false_iff_ne, ne_eq] at h1)
  have e1 : ((if v.id = k then v.vis else b) : Bool) = v.vis := by
   first | rfl | rw [if_pos h1] | rw [if_neg h1]
  exact .finE [.r [], .r []] [(0, 0), (1, 1)] (fun z0 => (VB (v.id != k), [(0, .box [VI k]), (1, .box [VB z0])])) (v.vis : Bool) ((if v.id = k then v.vis else b) : Bool) e1
 ·
  (try simp only [beq_iff_eq, beq_eq_false_iff_ne, ne_eq] at h1)
  have e2 : ((if v.id = k then v.vis else b) : Bool) = b := by
   first | rfl | rw [if_pos h1] | rw [if_neg h1]
  exact .finE [.r []] [(0, 0), (1, 1)] (fun z0 => (VB (v.id != k), [(0, .box [VI k]), (1, .box [VB z0])])) (b : Bool) ((if v.id = k then v.vis else b) : Bool) e2

theorem fc_walkV (d : Doc) (hV : DocV d) (k : Int) : FC Tryz.prog 38 [.t (docT d), .fn 40 [.ptr 0 0, .ptr 1 0]] (app emp [(0, .box [VI k]), (1, .box [VB false])]) (.tup []) (app emp [(0, .box [VI k]), (1, .box [VB (visD d k)])]) := by
  have h := FC.pack (P := Tryz.prog) (W := 38) (fid := 40) (a1 := [.t (docT d)]) (a2 := []) (caps := [.ptr 0 0, .ptr 1 0]) (R := fun pre => [(0, .box [VI k]), (1, .box [VB (outT k pre)])]) (C := []) (pre0 := []) (pre' := endP (gV k) [] (treeV d)) (res := .tup []) (e := 0)
    (G := gV k) (A := fun pre xs => ∃ v, xs = enc1 v)
    (fun pre xs hA => by
      obtain ⟨v, rfl⟩ := hA
      have := fc_visC v k (outT k pre)
      rw [← outT_snoc, ← gV_snoc k pre] at this
      exact this)
    (fun Y2 h1 h2 h3 => by
      have := fc_walkY d Y2 h3 hV [] (adm_vis h2)
      rw [h1] at this
      exact this)
    (by kernel_rfl) (by kernel_rfl) rfl (by kernel_rfl) (by kernel_rfl) rfl
  rw [out_end] at h
  exact h

theorem fc_visible (d : Doc) (k : Int) (hV : DocV d) : FC Tryz.prog 11 [.t (docT d), VI k] (app emp []) (VB (visD d k)) (app emp []) := by
 refine .go Tryz.f11 ?_
 have hb := hV.b
 refine .br [.r [], .r [], .r [(1, X (Xc0 (fc_docCk d (by assumption)) X0))]] ((docE d) != 0) (fun h2 => ?_) (fun h2 => ?_)
 ·
  (try simp only [bne_iff_ne, bne_eq_false_iff_eq, ne_eq] at h2)
  exfalso
  exact h2 hV.e
 ·
  (try simp only [bne_iff_ne, bne_eq_false_iff_eq, ne_eq] at h2)
  exact .fin [.r [(2, X (Xc3 80 [(0, 8), (1, 24)] (fc_walkV d hV k) X0))], .r []] []
end Go.Ch
end
section
set_option linter.unusedVariables false
namespace Go.Ch
open Go Go.Ab
def firstD : Doc := ⟨[⟨1, 0, [], [⟨0, 2, []⟩], ⟨0, 0, [], []⟩, []⟩, ⟨2, 1, [], [⟨10, 0, []⟩], ⟨0, 0, [], []⟩, []⟩]⟩
theorem first_e : docE firstD = 0 := by decide +kernel
theorem first_vis : visD firstD 2 = true := by decide +kernel
theorem first_b : DocB firstD := by
  refine ⟨by decide, fun n hn => ?_, by decide⟩
  have hn2 : n = ⟨1, 0, [], [⟨0, 2, []⟩], ⟨0, 0, [], []⟩, []⟩ ∨ n = ⟨2, 1, [], [⟨10, 0, []⟩], ⟨0, 0, [], []⟩, []⟩ := by
    unfold firstD at hn; simpa using hn
  rcases hn2 with rfl | rfl
  all_goals
    refine ⟨fun a ha => ?_, by decide, fun x hx => ?_, by decide, fun x hx => ?_, fun c hc => ?_, by decide, fun c hc => ?_, by decide, by decide, fun o ho => ?_⟩
    · cases ha
    · rw [List.mem_singleton.1 hx]; intro a ha; cases ha
    · rw [List.mem_singleton.1 hx]; decide
    · cases hc
    · cases hc
    · cases ho
theorem first_v : DocV firstD := ⟨first_b, first_e⟩
end Go.Ch
end
section
set_option linter.unusedVariables false
set_option linter.unusedSimpArgs false
set_option maxRecDepth 100000
set_option maxHeartbeats 4000000
open Go Go.Proofs Go.Ab
namespace Go.Ch
theorem fc_first  : FC Tryz.prog 24 [] (app emp []) (.t (docT firstD)) (app emp []) := by
 refine .go Tryz.f24 ?_
 have e1 : (firstD : Doc) = ({ nodes := [({ id := 1, kind := 0, attrs := [], flow := [({ char := 0, ref := 2, attrs := [] } : Elem)], grid := ({ rows := 0, cols := 0, cells := [], merges := [] } : Grid), draw := [] } : Node), ({ id := 2, kind := 1, attrs := [], flow := [({ char := 10, ref := 0, attrs := [] } : Elem)], grid := ({ rows := 0, cols := 0, cells := [], merges := [] } : Grid), draw := [] } : Node)] } : Doc) := by
  rfl
 exact .finVE [.r [], .r [(0, X (Xf [(2, 2)])), (2, X (Xf [(2, 2), (6, 5), (7, 4), (8, 8)])), (3, X (Xf [(2, 2)])), (5, X (Xf [(2, 2), (6, 5), (7, 4), (8, 8)])), (6, X (rowC elemT [({ char := 0, ref := 2, attrs := [] } : Elem)] (rowC elemT [({ char := 10, ref := 0, attrs := [] } : Elem)] X0)))]] [.fR 0 [(2 : Nat) = (List.map nodeT [({ id := 1, kind := 0, attrs := [], flow := [({ char := 0, ref := 2, attrs := [] } : Elem)], grid := ({ rows := 0, cols := 0, cells := [], merges := [] } : Grid), draw := [] } : Node), ({ id := 2, kind := 1, attrs := [], flow := [({ char := 10, ref := 0, attrs := [] } : Elem)], grid := ({ rows := 0, cols := 0, cells := [], merges := [] } : Grid), draw := [] } : Node)]).length] ⟨lm, trivial⟩] [] (fun z0 => (.t (docT z0), [])) (({ nodes := [({ id := 1, kind := 0, attrs := [], flow := [({ char := 0, ref := 2, attrs := [] } : Elem)], grid := ({ rows := 0, cols := 0, cells := [], merges := [] } : Grid), draw := [] } : Node), ({ id := 2, kind := 1, attrs := [], flow := [({ char := 10, ref := 0, attrs := [] } : Elem)], grid := ({ rows := 0, cols := 0, cells := [], merges := [] } : Grid), draw := [] } : Node)] } : Doc) : Doc) (firstD : Doc) e1

theorem fc_docs  : FC Tryz.prog 7 [] (app emp []) (VB true) (app emp []) := by
 refine .go Tryz.f7 ?_
 have q1 := first_b
 have q2 := first_v
 have e1 : (((((docE firstD) == 0) && ((firstD.nodes.length : Int) == 2)) && (visD firstD 2)) : Bool) = true := by
  rw [first_e, first_vis]; rfl
 exact .finE [.r [], .r [(0, X (Xc1 8 fc_first X0))], .r [(1, X (Xc0 (fc_docCk firstD (by assumption)) X0)), (5, Xv 1 ((docE firstD) == 0) X0), (6, Xv 1 ((docE firstD) == 0) (Xl nodeT firstD.nodes)), (7, Xv 1 ((docE firstD) == 0) X0), (8, X (Xk ((docE firstD) == 0))), (11, Xv 1 (((docE firstD) == 0) && ((firstD.nodes.length : Int) == 2)) (Xc0 (fc_visible firstD 2 (by assumption)) X0)), (12, X (Xk (((docE firstD) == 0) && ((firstD.nodes.length : Int) == 2))))]] [] (fun z0 => (VB z0, [])) (((((docE firstD) == 0) && ((firstD.nodes.length : Int) == 2)) && (visD firstD 2)) : Bool) (true : Bool) e1.symm
end Go.Ch
end
section
set_option linter.unusedVariables false
namespace Go.Ch
open Go Go.Ab

/-- Each visit of L has a parent among a and what was ahead of it, and that is visible if it is. -/
def Chain (a : Vis) (L : List Vis) : Prop := ∀ L1 w L2, L = L1 ++ w :: L2 → ∃ u ∈ a :: L1, u.id = w.parent ∧ (w.vis = true → u.vis = true)
theorem Chain.nil (a : Vis) : Chain a [] := fun L1 w L2 h => by simp at h
theorem Chain.app {a : Vis} {L M : List Vis} (h1 : Chain a L) (h2 : Chain a M) : Chain a (L ++ M) := by
  intro L1 w L2 h
  rcases List.append_eq_append_iff.1 h with ⟨X, e1, e2⟩ | ⟨X, e1, e2⟩
  · obtain ⟨u, hu, h3⟩ := h2 X w L2 e2
    refine ⟨u, ?_, h3⟩
    rw [e1]
    rcases List.mem_cons.1 hu with hu | hu
    · exact hu ▸ List.mem_cons_self
    · exact List.mem_cons_of_mem _ (List.mem_append_right _ hu)
  · cases X with
    | nil =>
      rw [List.append_nil] at e1
      rw [List.nil_append] at e2
      obtain ⟨u, hu, h3⟩ := h2 [] w L2 e2.symm
      refine ⟨u, ?_, h3⟩
      rcases List.mem_cons.1 hu with hu | hu
      · exact hu ▸ List.mem_cons_self
      · cases hu
    | cons x X =>
      rw [List.cons_append] at e2
      injection e2 with e3 e4
      subst e3
      exact h1 L1 w X e1
theorem Chain.kid {v k : Vis} {M : List Vis} (h : Chain k M) (hp : k.parent = v.id) (hv : k.vis = true → v.vis = true) : Chain v (k :: M) := by
  intro L1 w L2 e
  cases L1 with
  | nil => rw [List.nil_append] at e; injection e with e1 e2; subst e1; exact ⟨v, List.mem_cons_self, hp.symm, hv⟩
  | cons x L1 =>
    rw [List.cons_append] at e; injection e with e1 e2; subst e1
    obtain ⟨u, hu, h3⟩ := h L1 w L2 e2
    exact ⟨u, List.mem_cons_of_mem _ hu, h3⟩
theorem kids_ok {l : List Node} {v k : Vis} (h : k ∈ kidsV l v) : k.parent = v.id ∧ (k.vis = true → v.vis = true) := by
  unfold kidsV at h
  rcases List.mem_append.1 h with h | h
  · rcases List.mem_append.1 h with h | h
    · obtain ⟨r, _, rfl⟩ := List.mem_map.1 h; exact ⟨rfl, fun q => q⟩
    · obtain ⟨c, _, hc⟩ := List.mem_flatMap.1 h
      unfold kidC at hc
      split at hc
      · rw [List.mem_singleton.1 hc]
        refine ⟨rfl, fun q => ?_⟩
        change visC _ v.vis c = true at q
        unfold visC at q
        simp only [Bool.and_eq_true] at q
        exact q.1.1
      · cases hc
  · obtain ⟨r, _, rfl⟩ := List.mem_map.1 h; exact ⟨rfl, fun q => q⟩
structure VOk (S : List Int) (v : Vis) (W : List Vis) : Prop where
  head : W = [] ∨ ∃ M, W = v :: M ∧ Chain v M
  nd : (idsV9 W).Nodup
  new : ∀ k ∈ idsV9 W, k ∉ S
theorem walkL_ok {f : List Int → Vis → List Vis} {v : Vis} (hf : ∀ S k, k.parent = v.id ∧ (k.vis = true → v.vis = true) → VOk S k (f S k)) : ∀ (ks : List Vis) (S : List Int), (∀ k ∈ ks, k.parent = v.id ∧ (k.vis = true → v.vis = true)) →
    Chain v (walkL f S ks) ∧ (idsV9 (walkL f S ks)).Nodup ∧ ∀ k ∈ idsV9 (walkL f S ks), k ∉ S
  | [], S, _ => ⟨Chain.nil v, by simp [walkL, idsV9], fun k hk => by simp [walkL, idsV9] at hk⟩
  | k :: ks, S, h => by
    have hk := h k List.mem_cons_self
    obtain ⟨a1, a2, a3⟩ := hf S k hk
    obtain ⟨b1, b2, b3⟩ := walkL_ok hf ks (S ++ idsV9 (f S k)) (fun x hx => h x (List.mem_cons_of_mem _ hx))
    rw [walkL]
    refine ⟨Chain.app ?_ b1, ?_, fun x hx => ?_⟩
    · rcases a1 with a1 | ⟨M, a1, a4⟩
      · rw [a1]; exact Chain.nil v
      · rw [a1]; exact a4.kid hk.1 hk.2
    · rw [idsV9_app, List.nodup_append]
      exact ⟨a2, b2, fun x hx y hy e => b3 y hy (List.mem_append_right _ (e ▸ hx))⟩
    · rw [idsV9_app] at hx
      rcases List.mem_append.1 hx with hx | hx
      · exact a3 x hx
      · exact fun q => b3 x hx (List.mem_append_left _ q)
theorem walkV_ok (l : List Node) : ∀ (n : Nat) (S : List Int) (v : Vis), VOk S v (walkV l n S v)
  | 0, S, v => ⟨.inl rfl, by simp [walkV, idsV9], fun k hk => by simp [walkV, idsV9] at hk⟩
  | n + 1, S, v => by
    rw [walkV]
    split
    · exact ⟨.inl rfl, by simp [idsV9], fun k hk => by simp [idsV9] at hk⟩
    · rename_i hv
      obtain ⟨b1, b2, b3⟩ := walkL_ok (f := walkV l n) (v := v) (fun S k _ => walkV_ok l n S k) (kidsV l v) (S ++ [v.id]) (fun k hk => kids_ok hk)
      refine ⟨.inr ⟨_, rfl, b1⟩, ?_, fun k hk => ?_⟩
      · show (v.id :: idsV9 _).Nodup
        rw [List.nodup_cons]
        exact ⟨fun q => b3 _ q (List.mem_append_right _ (List.mem_singleton.2 rfl)), b2⟩
      · rcases List.mem_cons.1 (show k ∈ v.id :: idsV9 _ from hk) with rfl | hk
        · exact hv
        · exact fun q => b3 k hk (List.mem_append_left _ q)
theorem tree_head (d : Doc) : ∃ M, treeV d = root9 :: M ∧ Chain root9 M := by
  have h := (walkV_ok d.nodes (d.nodes.length + 1) [] root9).head
  rcases h with h | h
  · exfalso
    rw [walkV, if_neg (by simp)] at h
    cases h
  · exact h
theorem tree_nd (d : Doc) : ((treeV d).map Vis.id).Nodup := (walkV_ok d.nodes (d.nodes.length + 1) [] root9).nd
/-! ### The two lists that the statement makes -/
theorem walkL_has {d : Doc} {f : List Int → Vis → List Vis} (hf : ∀ S v, hasN d.nodes v.id = true → ∀ w ∈ f S v, hasN d.nodes w.id = true) : ∀ (ks : List Vis) (S : List Int), (∀ k ∈ ks, hasN d.nodes k.id = true) → ∀ w ∈ walkL f S ks, hasN d.nodes w.id = true := by
  intro ks
  induction ks with
  | nil => intro S _ w hw; simp [walkL] at hw
  | cons k ks ih =>
    intro S hk w hw
    rw [walkL] at hw
    rcases List.mem_append.1 hw with hw | hw
    · exact hf S k (hk k List.mem_cons_self) w hw
    · exact ih _ (fun x hx => hk x (List.mem_cons_of_mem _ hx)) w hw
theorem walkV_has {d : Doc} (hV : DocV d) (n : Nat) : ∀ (S : List Int) (v : Vis), hasN d.nodes v.id = true → ∀ w ∈ walkV d.nodes n S v, hasN d.nodes w.id = true := by
  induction n with
  | zero => intro S v _ w hw; simp [walkV] at hw
  | succ n ih =>
    intro S v h w hw
    rw [walkV] at hw
    split at hw
    · simp at hw
    rcases List.mem_cons.1 hw with rfl | hw
    · exact h
    · exact walkL_has ih _ _ (fun k hk => kids_has hV h hk) w hw
theorem tree_has {d : Doc} (hV : DocV d) {w : Vis} (hw : w ∈ treeV d) : hasN d.nodes w.id = true := walkV_has hV (d.nodes.length + 1) [] root9 hV.one w hw
theorem tree_len {d : Doc} (hV : DocV d) : (treeV d).length ≤ d.nodes.length := by
  have h := nodup_len d.nodes.length ((treeV d).map fun w => lobN d.nodes w.id) (by
    have hn := tree_nd d
    unfold List.Nodup at hn ⊢
    rw [List.pairwise_map] at hn ⊢
    refine hn.imp_of_mem (fun {a b} ha hb h e => h ?_)
    rw [← (hasN_iff.1 (tree_has hV ha)).2, ← (hasN_iff.1 (tree_has hV hb)).2, e]) (fun j hj => by
    obtain ⟨w, hw, rfl⟩ := List.mem_map.1 hj
    exact (hasN_iff.1 (tree_has hV hw)).1)
  simpa using h
end Go.Ch
end
section
set_option linter.unusedVariables false
namespace Go.Ch
open Go Go.Ab

theorem kids_in {d : Doc} (hV : DocV d) : ∀ (n : Nat) (S : List Int) (v : Vis), hasN d.nodes v.id = true → muS d.nodes S < n →
    (v.id ∈ S ∨ v.id ∈ idsV9 (walkV d.nodes n S v)) ∧ ∀ w ∈ walkV d.nodes n S v, ∀ k ∈ kidsV d.nodes w, k.id ∈ S ∨ k.id ∈ idsV9 (walkV d.nodes n S v) := by
  intro n
  induction n with
  | zero => intro S v _ h; omega
  | succ n ih =>
    intro S v hv hm
    by_cases hS : v.id ∈ S
    · rw [walkV_in hS]; exact ⟨.inl hS, fun w hw => by cases hw⟩
    rw [walkV_new hS]
    have hlt := muS_lt hv hS
    -- the kids, one by one
    have key : ∀ (ks : List Vis) (S1 : List Int), (∀ x ∈ S ++ [v.id], x ∈ S1) → (∀ k ∈ ks, hasN d.nodes k.id = true) →
        (∀ k ∈ ks, k.id ∈ S1 ∨ k.id ∈ idsV9 (walkL (walkV d.nodes n) S1 ks)) ∧ ∀ w ∈ walkL (walkV d.nodes n) S1 ks, ∀ k ∈ kidsV d.nodes w, k.id ∈ S1 ∨ k.id ∈ idsV9 (walkL (walkV d.nodes n) S1 ks) := by
      intro ks
      induction ks with
      | nil => intro S1 _ _; exact ⟨fun k hk => (by cases hk), fun w hw => (by simp [walkL] at hw)⟩
      | cons k ks ihk =>
        intro S1 hS1 hks
        have hmu : muS d.nodes S1 < n := by have := muS_le (l := d.nodes) hS1; omega
        obtain ⟨a1, a2⟩ := ih S1 k (hks k List.mem_cons_self) hmu
        obtain ⟨b1, b2⟩ := ihk (S1 ++ idsV9 (walkV d.nodes n S1 k)) (fun x hx => List.mem_append_left _ (hS1 x hx)) (fun x hx => hks x (List.mem_cons_of_mem _ hx))
        rw [walkL, idsV9_app]
        have up : ∀ x : Int, x ∈ S1 ++ idsV9 (walkV d.nodes n S1 k) ∨ x ∈ idsV9 (walkL (walkV d.nodes n) (S1 ++ idsV9 (walkV d.nodes n S1 k)) ks) → x ∈ S1 ∨ x ∈ idsV9 (walkV d.nodes n S1 k) ++ idsV9 (walkL (walkV d.nodes n) (S1 ++ idsV9 (walkV d.nodes n S1 k)) ks) := by
          intro x hx
          rcases hx with hx | hx
          · rcases List.mem_append.1 hx with hx | hx
            · exact .inl hx
            · exact .inr (List.mem_append_left _ hx)
          · exact .inr (List.mem_append_right _ hx)
        refine ⟨fun x hx => ?_, fun w hw x hx => ?_⟩
        · rcases List.mem_cons.1 hx with rfl | hx
          · exact a1.imp id (List.mem_append_left _)
          · exact up _ (b1 x hx)
        · rcases List.mem_append.1 hw with hw | hw
          · exact (a2 w hw x hx).imp id (List.mem_append_left _)
          · exact up _ (b2 w hw x hx)
    obtain ⟨b1, b2⟩ := key (kidsV d.nodes v) (S ++ [v.id]) (fun x hx => hx) (fun k hk => kids_has hV hv hk)
    have up : ∀ x : Int, x ∈ S ++ [v.id] ∨ x ∈ idsV9 (walkL (walkV d.nodes n) (S ++ [v.id]) (kidsV d.nodes v)) → x ∈ S ∨ x ∈ idsV9 (v :: walkL (walkV d.nodes n) (S ++ [v.id]) (kidsV d.nodes v)) := by
      intro x hx
      rcases hx with hx | hx
      · rcases List.mem_append.1 hx with hx | hx
        · exact .inl hx
        · right; rw [List.mem_singleton.1 hx]; exact List.mem_cons_self
      · exact .inr (List.mem_cons_of_mem _ hx)
    refine ⟨.inr List.mem_cons_self, fun w hw x hx => ?_⟩
    rcases List.mem_cons.1 hw with rfl | hw
    · exact up _ (b1 x hx)
    · exact up _ (b2 w hw x hx)
/-- The kids of a node of the tree are in the tree. -/
theorem tree_closed {d : Doc} (hV : DocV d) {w k : Vis} (hw : w ∈ treeV d) (hk : k ∈ kidsV d.nodes w) : k.id ∈ (treeV d).map Vis.id := by
  have h := (kids_in hV (d.nodes.length + 1) [] root9 hV.one (by have := List.length_filter_le (fun n : Node => decide (n.id ∉ ([] : List Int))) d.nodes; unfold muS; omega)).2 w hw k hk
  rcases h with h | h
  · cases h
  · exact h
theorem walkL_congr {f g : List Int → Vis → List Vis} {S0 : List Int} {p : Vis → Prop} (h : ∀ S v, (∀ x ∈ S0, x ∈ S) → p v → f S v = g S v) : ∀ (ks : List Vis) (S : List Int), (∀ x ∈ S0, x ∈ S) → (∀ k ∈ ks, p k) → walkL f S ks = walkL g S ks := by
  intro ks
  induction ks with
  | nil => intro S _ _; rfl
  | cons k ks ih =>
    intro S hS hk
    rw [walkL, walkL, h S k hS (hk k List.mem_cons_self), ih _ (fun x hx => List.mem_append_left _ (hS x hx)) (fun x hx => hk x (List.mem_cons_of_mem _ hx))]
/-- Enough is enough. -/
theorem walkV_fuel {d : Doc} (hV : DocV d) : ∀ (n m : Nat) (S : List Int) (v : Vis), hasN d.nodes v.id = true → muS d.nodes S < n → muS d.nodes S < m → walkV d.nodes n S v = walkV d.nodes m S v := by
  intro n
  induction n with
  | zero => intro m S v _ h; omega
  | succ n ih =>
    intro m S v hv h1 h2
    obtain ⟨m, rfl⟩ : ∃ k, m = k + 1 := ⟨m - 1, by omega⟩
    by_cases hS : v.id ∈ S
    · rw [walkV_in hS, walkV_in hS]
    · rw [walkV_new hS, walkV_new hS]
      have hlt := muS_lt hv hS
      congr 1
      refine walkL_congr (S0 := S ++ [v.id]) (p := fun k => hasN d.nodes k.id = true) (fun S1 k hS1 hk => ?_) _ _ (fun x hx => hx) (fun k hk => kids_has hV hv hk)
      have := muS_le (l := d.nodes) hS1
      exact ih m S1 k hk (by omega) (by omega)
theorem kids_ids {l : List Node} {v w : Vis} (h : v.id = w.id) : (kidsV l v).map Vis.id = (kidsV l w).map Vis.id := by
  unfold kidsV
  rw [h]
  simp only [List.map_append, List.map_map]
  congr 1
  congr 1
  induction (nodeOf l w.id).grid.cells with
  | nil => rfl
  | cons c cs ih =>
    simp only [List.flatMap_cons, List.map_append, ih]
    congr 1
    unfold kidC
    split <;> rfl
theorem closed_at {d : Doc} (hV : DocV d) {v k : Vis} (hv : v.id ∈ (treeV d).map Vis.id) (hk : k ∈ kidsV d.nodes v) : k.id ∈ (treeV d).map Vis.id := by
  obtain ⟨w, hw, e⟩ := List.mem_map.1 hv
  have : k.id ∈ (kidsV d.nodes w).map Vis.id := by rw [kids_ids e]; exact List.mem_map.2 ⟨k, hk, rfl⟩
  obtain ⟨k', hk', e'⟩ := List.mem_map.1 this
  rw [← e']; exact tree_closed hV hw hk'

/-! ### Without the loose nodes -/
def inT (d : Doc) (n : Node) : Bool := decide (n.id ∈ (treeV d).map Vis.id)
def colD (d : Doc) : Doc := ⟨d.nodes.filter (inT d)⟩
theorem sort_pair {l : List Node} : SortN l ↔ l.Pairwise fun a b => a.id < b.id := by
  constructor
  · intro h
    rw [List.pairwise_iff_getElem]
    intro i j hi hj hij
    have := h i j hij hj
    rwa [List.getD_eq_getElem?_getD, List.getD_eq_getElem?_getD, List.getElem?_eq_getElem hi, List.getElem?_eq_getElem hj] at this
  · intro h p q hpq hq
    have := (List.pairwise_iff_getElem.1 h) p q (by omega) hq hpq
    rwa [List.getD_eq_getElem?_getD, List.getD_eq_getElem?_getD, List.getElem?_eq_getElem (by omega), List.getElem?_eq_getElem hq]
theorem has_of {l : List Node} (hs : SortN l) {n : Node} (hn : n ∈ l) : hasN l n.id = true ∧ nodeOf l n.id = n := by
  obtain ⟨j, hj, rfl⟩ := List.mem_iff_getElem.1 hn
  have e : l.getD j default = l[j] := by rw [List.getD_eq_getElem?_getD, List.getElem?_eq_getElem hj]; rfl
  have h1 := lobN_ge (l := l) (k := l[j].id) (m := j) (by rw [e]; omega)
  obtain ⟨s1, s2, s3⟩ := lobN_all l l[j].id
  have h2 : lobN l l[j].id = j := by
    apply Classical.byContradiction; intro q
    have := hs (lobN l l[j].id) j (by omega) hj
    rw [e] at this
    exact s3 (by omega) this
  refine ⟨hasN_iff.2 ⟨by omega, by rw [h2, e]⟩, ?_⟩
  unfold nodeOf; rw [h2, e]
theorem col_srt {d : Doc} (hV : DocV d) : SortN (colD d).nodes := sort_pair.2 ((sort_pair.1 hV.srt).filter _)
theorem col_mem {d : Doc} {n : Node} : n ∈ (colD d).nodes ↔ n ∈ d.nodes ∧ n.id ∈ (treeV d).map Vis.id := by
  unfold colD inT; rw [List.mem_filter, decide_eq_true_eq]
theorem col_has {d : Doc} (hV : DocV d) {k : Int} : hasN (colD d).nodes k = true ↔ k ∈ (treeV d).map Vis.id := by
  constructor
  · intro h
    obtain ⟨h1, h2⟩ := nodeOf_mem h
    rw [← h2]; exact (col_mem.1 h1).2
  · intro h
    obtain ⟨w, hw, e⟩ := List.mem_map.1 h
    have h0 := tree_has hV hw
    rw [e] at h0
    obtain ⟨h1, h2⟩ := nodeOf_mem h0
    have := (has_of (col_srt hV) (col_mem.2 ⟨h1, by rw [h2]; exact h⟩)).1
    rwa [h2] at this
theorem col_node {d : Doc} (hV : DocV d) {k : Int} (h : k ∈ (treeV d).map Vis.id) : nodeOf (colD d).nodes k = nodeOf d.nodes k := by
  obtain ⟨h1, h2⟩ := nodeOf_mem ((col_has hV).2 h)
  have := (has_of hV.srt (col_mem.1 h1).1).2
  rw [h2] at this; exact this.symm
theorem all_has {d : Doc} (hV : DocV d) {k : Int} (h : k ∈ (treeV d).map Vis.id) : hasN d.nodes k = true := by
  obtain ⟨w, hw, e⟩ := List.mem_map.1 h
  rw [← e]; exact tree_has hV hw
theorem fm_congr {α β : Type} {f g : α → Option β} : ∀ {l : List α}, (∀ x ∈ l, f x = g x) → l.filterMap f = l.filterMap g
  | [], _ => rfl
  | x :: l, h => by
    rw [List.filterMap_cons, List.filterMap_cons, h x List.mem_cons_self, fm_congr (fun y hy => h y (List.mem_cons_of_mem _ hy))]
theorem col_items {d : Doc} (hV : DocV d) {v : Vis} (hv : v.id ∈ (treeV d).map Vis.id) : itemsD (colD d).nodes (nodeOf d.nodes v.id) = itemsD d.nodes (nodeOf d.nodes v.id) := by
  have hk : ∀ k, k ∈ itemsD d.nodes (nodeOf d.nodes v.id) → k ∈ (treeV d).map Vis.id := fun k hk =>
    closed_at hV hv (k := kidR v k) (by unfold kidsV; exact List.mem_append_right _ (List.mem_map.2 ⟨k, hk, rfl⟩))
  unfold itemsD at hk ⊢
  generalize shownD (nodeOf d.nodes v.id) = l at hk ⊢
  refine fm_congr (fun x hx => ?_)
  unfold itemD
  cases hn : numF (getA x.attrs keyNode 0) with
  | none => rfl
  | some z =>
    simp only [Option.bind_some]
    by_cases hd : hasN d.nodes z = true ∧ (d.nodes.getD (lobN d.nodes z) default).kind = 1
    · have hz := hk z (List.mem_filterMap.2 ⟨x, hx, by unfold itemD; rw [hn]; simp only [Option.bind_some]; rw [if_pos hd]⟩)
      rw [if_pos hd, if_pos ⟨(col_has hV).2 hz, by have := col_node hV hz; unfold nodeOf at this; rw [this]; exact hd.2⟩]
    · rw [if_neg hd, if_neg]
      rintro ⟨q1, q2⟩
      have hz := (col_has hV).1 q1
      have := col_node hV hz
      unfold nodeOf at this
      rw [this] at q2
      exact hd ⟨all_has hV hz, q2⟩
theorem col_kids {d : Doc} (hV : DocV d) {v : Vis} (hv : v.id ∈ (treeV d).map Vis.id) : kidsV (colD d).nodes v = kidsV d.nodes v := by
  unfold kidsV
  rw [col_node hV hv, col_items hV hv]
theorem col_walk {d : Doc} (hV : DocV d) : ∀ (n : Nat) (S : List Int) (v : Vis), v.id ∈ (treeV d).map Vis.id → walkV (colD d).nodes n S v = walkV d.nodes n S v := by
  intro n
  induction n with
  | zero => intro S v _; rfl
  | succ n ih =>
    intro S v hv
    rw [walkV, walkV]
    split
    · rfl
    · rw [col_kids hV hv]
      congr 1
      exact walkL_congr (S0 := []) (p := fun k => k.id ∈ (treeV d).map Vis.id) (fun S1 k _ hk => ih S1 k hk) _ _ (fun x hx => by cases hx) (fun k hk => closed_at hV hv hk)
theorem root_in (d : Doc) : (1 : Int) ∈ (treeV d).map Vis.id := by
  obtain ⟨M, h, _⟩ := tree_head d
  rw [h]; exact List.mem_cons_self
theorem nodesE_of {l : List Node} (h1 : ∀ n ∈ l, nodeE n = 0) (h2 : SortN l) (h3 : 0 < l.length → (l.getD 0 default).id = 1) : ∀ (n i : Nat), l.length - i = n → nodesE l i = 0
  | 0, i, h => nodesE_end (by omega)
  | n + 1, i, h => by
    have hi : i < l.length := by omega
    rw [nodesE_next hi (h1 _ (getDX_mem hi)) (by
      rintro (⟨q1, q2⟩ | ⟨q1, q2⟩)
      · exact q2 (h3 (by omega))
      · have := h2 (i - 1) i (by omega) hi
        omega)]
    exact nodesE_of h1 h2 h3 n (i + 1) (by omega)
theorem refsE_of {l : List Node} {k : Int} {rs : List Int} (hs : SortN l) (h : ∀ r ∈ rs, hasN l r = true ∧ permB k (nodeOf l r).kind = true) : ∀ (n i : Nat), rs.length - i = n → refsE l k rs i = 0
  | 0, i, hi => refsE_end (by omega)
  | n + 1, i, hi => by
    have hlt : i < rs.length := by omega
    obtain ⟨h1, h2⟩ := h (rs.getD i default) (getDX_mem hlt)
    have hf := find_yes hs h1
    rw [refsE_next hlt (by omega) (by rw [hf]; exact h2)]
    exact refsE_of hs h n (i + 1) (by omega)
theorem refsE_perm {l : List Node} {k : Int} {rs : List Int} (hs : SortN l) : ∀ (n i : Nat), rs.length - i = n → refsE l k rs i = 0 → ∀ j, i ≤ j → j < rs.length → permB k (nodeOf l (rs.getD j default)).kind = true
  | 0, i, h, _ => fun j h1 h2 => by omega
  | n + 1, i, h, he => by
    have hi : i < rs.length := by omega
    intro j q1 q2
    have hh := refsE_all hs _ i rfl he i (Nat.le_refl _) hi
    have hf := find_yes hs hh
    by_cases hp : permB k (l.getD (findD l (rs.getD i default) 0).toNat default).kind = true
    · rw [refsE_next hi (by omega) hp] at he
      by_cases q : j = i
      · subst q; rw [hf] at hp; exact hp
      · exact refsE_perm hs n (i + 1) (by omega) he j (by omega) q2
    · rw [refsE_kind hi (by omega) (by simpa using hp)] at he
      cases he
theorem DocV.perm {d : Doc} (h : DocV d) {n : Node} (hn : n ∈ d.nodes) {r : Int} (hr : r ∈ refsN n) : permB n.kind (nodeOf d.nodes r).kind = true := by
  obtain ⟨k, hk, rfl⟩ := List.mem_iff_getElem.1 hn
  have h1 := allR_all _ 0 rfl h.nodes.2.1 k (Nat.zero_le _) hk
  rw [List.getD_eq_getElem?_getD, List.getElem?_eq_getElem hk] at h1
  simp only [Option.getD_some] at h1
  obtain ⟨j, hj, rfl⟩ := List.mem_iff_getElem.1 hr
  have := refsE_perm h.srt _ 0 rfl h1 j (Nat.zero_le _) hj
  rwa [List.getD_eq_getElem?_getD, List.getElem?_eq_getElem hj] at this
theorem allR_of {l : List Node} (h : ∀ n ∈ l, refsE l n.kind (refsN n) 0 = 0) : ∀ (n i : Nat), l.length - i = n → allRefsE l i = 0
  | 0, i, hi => allR_end (by omega)
  | n + 1, i, hi => by
    have hlt : i < l.length := by omega
    rw [allR_next hlt (h _ (getDX_mem hlt))]
    exact allR_of h n (i + 1) (by omega)
theorem lens_filter (p : Node → Bool) (l : List Node) : lensN (l.filter p) ≤ lensN l := by
  unfold lensN
  induction l with
  | nil => exact Nat.le_refl _
  | cons n l ih =>
    rw [List.filter_cons]
    split
    · simp only [List.map_cons, List.sum_cons]; omega
    · simp only [List.map_cons, List.sum_cons]; omega
theorem col_v {d : Doc} (hV : DocV d) : DocV (colD d) := by
  have hs := col_srt hV
  have h1 := (col_has hV).2 (root_in d)
  refine ⟨⟨Nat.le_trans (List.length_filter_le _ _) hV.b.len, fun n hn => hV.b.all n (col_mem.1 hn).1, Nat.le_trans (lens_filter _ _) hV.b.sum⟩, ?_⟩
  have hpos : 0 < (colD d).nodes.length := by have := (hasN_iff.1 h1).1; omega
  refine docE_refs (by omega) (nodesE_of (fun n hn => hV.node (col_mem.1 hn).1) hs (fun _ => ?_) _ 0 rfl) (allR_of (fun n hn => ?_) _ 0 rfl)
  · -- the first one is the root
    have hm : (colD d).nodes.getD 0 default ∈ (colD d).nodes := getDX_mem hpos
    have hd : 1 ≤ ((colD d).nodes.getD 0 default).id := by
      have := hV.node (col_mem.1 hm).1
      unfold nodeE at this
      split at this
      · cases this
      · omega
    obtain ⟨q1, q2⟩ := hasN_iff.1 h1
    by_cases q : lobN (colD d).nodes 1 = 0
    · rw [q] at q2; exact q2
    · have := hs 0 (lobN (colD d).nodes 1) (by omega) q1
      omega
  · obtain ⟨hn1, hn2⟩ := col_mem.1 hn
    refine refsE_of hs (fun r hr => ?_) _ 0 rfl
    have hh := has_of hV.srt hn1
    have hT : r ∈ (treeV d).map Vis.id := by
      obtain ⟨w, hw, e⟩ := List.mem_map.1 hn2
      have hk : ∃ k ∈ kidsV d.nodes w, k.id = r := by
        unfold kidsV
        rw [e, hh.2]
        rcases List.mem_append.1 hr with hr | hr
        · exact ⟨kidR w r, List.mem_append_left _ (List.mem_append_left _ (List.mem_map.2 ⟨r, hr, rfl⟩)), rfl⟩
        · obtain ⟨c, hc, hx⟩ := List.mem_filterMap.1 hr
          split at hx
          · rename_i q
            cases hx
            exact ⟨⟨c.ref, w.id, visC n.grid w.vis c⟩, List.mem_append_left _ (List.mem_append_right _ (List.mem_flatMap.2 ⟨c, hc, by unfold kidC; rw [if_pos q]; exact List.mem_singleton.2 rfl⟩)), rfl⟩
          · cases hx
      obtain ⟨k, hk, e2⟩ := hk
      rw [← e2]; exact tree_closed hV hw hk
    exact ⟨(col_has hV).2 hT, by rw [col_node hV hT]; exact hV.perm hn1 hr⟩
theorem col_tree {d : Doc} (hV : DocV d) : treeV (colD d) = treeV d := by
  have hl : (colD d).nodes.length ≤ d.nodes.length := List.length_filter_le _ _
  have hm : muS (colD d).nodes [] ≤ (colD d).nodes.length := List.length_filter_le _ _
  unfold treeV
  rw [walkV_fuel (col_v hV) _ (d.nodes.length + 1) [] root9 (col_v hV).one (by omega) (by omega)]
  exact col_walk hV _ _ _ (root_in d)
/-- The nodes that are not in the tree. -/
def looseD (d : Doc) : List Int := (d.nodes.filter fun n => !inT d n).map Node.id
theorem col_loose {d : Doc} (hV : DocV d) : looseD (colD d) = [] := by
  unfold looseD
  rw [List.filter_eq_nil_iff.2]
  · rfl
  · intro n hn
    have := (col_mem.1 hn).2
    unfold inT
    rw [col_tree hV]
    simp only [this, decide_true, Bool.not_true]; decide
end Go.Ch
end
section
set_option linter.unusedVariables false
set_option linter.unusedSimpArgs false
namespace Go.Ch
open Go Go.Ab

theorem filtG_succ {α : Type} [Inhabited α] {p : α → Bool} {l : List α} {i : Nat} (h : i < l.length) : (l.take (i + 1)).filter p = (l.take i).filter p ++ (if p (l.getD i default) = true then [l.getD i default] else []) := by
  rw [takeD h, List.filter_append, List.filter_cons, List.filter_nil]
theorem mem_getDX {α : Type} [Inhabited α] {l : List α} {x : α} (h : x ∈ l) : ∃ j, j < l.length ∧ l.getD j default = x := by
  obtain ⟨j, hj, e⟩ := List.mem_iff_getElem.1 h
  exact ⟨j, hj, by rw [List.getD_eq_getElem?_getD, List.getElem?_eq_getElem hj]; exact e⟩
theorem idxF_spec {α : Type} [Inhabited α] (p : α → Bool) {l : List α} : ∀ (n i : Nat), l.length - i = n → (idxF p l i = -1 ∧ (∀ j, i ≤ j → j < l.length → p (l.getD j default) = false)) ∨
    ∃ k : Nat, idxF p l i = (k : Int) ∧ i ≤ k ∧ k < l.length ∧ p (l.getD k default) = true ∧ ∀ j, i ≤ j → j < k → p (l.getD j default) = false
  | 0, i, h => by rw [idxF, if_neg (by omega)]; exact .inl ⟨rfl, fun j h1 h2 => by omega⟩
  | n + 1, i, h => by
    have hi : i < l.length := by omega
    rw [idxF, if_pos hi]
    by_cases hp : p (l.getD i default) = true
    · rw [if_pos hp]; exact .inr ⟨i, rfl, Nat.le_refl _, hi, hp, fun j h1 h2 => by omega⟩
    · rw [if_neg hp]
      rcases idxF_spec p (l := l) n (i + 1) (by omega) with ⟨e, q⟩ | ⟨k, e, k1, k2, k3, k4⟩
      · refine .inl ⟨e, fun j h1 h2 => ?_⟩
        by_cases ej : i = j
        · rw [← ej]; simpa using hp
        · exact q j (by omega) h2
      · refine .inr ⟨k, e, by omega, k2, k3, fun j h1 h2 => ?_⟩
        by_cases ej : i = j
        · rw [← ej]; simpa using hp
        · exact k4 j (by omega) h2
def delL {α : Type} (p : α → Bool) (l : List α) : List α := l.filter (fun q => !p q)
theorem filt_all {α : Type} [Inhabited α] {p : α → Bool} {l : List α} (h : ∀ j, 0 ≤ j → j < l.length → p (l.getD j default) = false) : delL p l = l := by
  unfold delL
  rw [List.filter_eq_self]
  intro q hq
  obtain ⟨j, hj, rfl⟩ := mem_getDX hq
  rw [h j (by omega) hj]; rfl
/-- What the loop of DeleteFunc keeps. -/
structure DelI {α : Type} [Inhabited α] (p : α → Bool) (l o : List α) (i j : Nat) : Prop where
  len : o.length = l.length
  lt : i < j
  le : j ≤ l.length
  tk : o.take i = delL p (l.take j)
  dr : o.drop j = l.drop j
theorem DelI.start {α : Type} [Inhabited α] {p : α → Bool} {l : List α} {k : Nat} (h1 : k < l.length) (h2 : p (l.getD k default) = true) (h3 : ∀ j, 0 ≤ j → j < k → p (l.getD j default) = false) : DelI p l l k (k + 1) := by
  refine ⟨rfl, by omega, by omega, ?_, rfl⟩
  unfold delL
  rw [filtG_succ h1, if_neg (by rw [h2]; decide), List.append_nil]
  symm
  rw [List.filter_eq_self]
  intro q hq
  obtain ⟨j, hj, rfl⟩ := mem_getDX hq
  rw [List.length_take] at hj
  rw [List.getD_eq_getElem?_getD, List.getElem?_take_of_lt (by omega), ← List.getD_eq_getElem?_getD, h3 j (by omega) (by omega)]; rfl
theorem DelI.at_ {α : Type} [Inhabited α] {p : α → Bool} {l o : List α} {i j : Nat} (h : DelI p l o i j) (hj : j < l.length) : o.getD j default = l.getD j default := by
  have e1 : o.drop j = o.getD j default :: o.drop (j + 1) := drop_succD (by have := h.len; omega)
  have e2 : l.drop j = l.getD j default :: l.drop (j + 1) := drop_succD hj
  have := h.dr
  rw [e1, e2] at this
  exact (List.cons.inj this).1
theorem DelI.skip {α : Type} [Inhabited α] {p : α → Bool} {l o : List α} {i j : Nat} (h : DelI p l o i j) (hj : j < l.length) (hp : p (o.getD j default) = true) : DelI p l o i (j + 1) := by
  have e := h.at_ hj
  rw [e] at hp
  refine ⟨h.len, by have := h.lt; omega, by omega, ?_, ?_⟩
  · rw [h.tk]; unfold delL; rw [filtG_succ hj, if_neg (by rw [hp]; decide), List.append_nil]
  · have := congrArg (List.drop 1) h.dr
    rwa [List.drop_drop, List.drop_drop] at this
theorem DelI.keep {α : Type} [Inhabited α] {p : α → Bool} {l o : List α} {i j : Nat} (h : DelI p l o i j) (hj : j < l.length) (hp : p (o.getD j default) = false) : DelI p l (o.set i (o.getD j default)) (i + 1) (j + 1) := by
  have e := h.at_ hj
  have hlt := h.lt
  have hlen := h.len
  rw [e] at hp ⊢
  refine ⟨by rw [List.length_set]; exact hlen, by omega, by omega, ?_, ?_⟩
  · unfold delL
    rw [filtG_succ hj, if_pos (by rw [hp]; rfl)]
    have : (o.set i (l.getD j default)).take (i + 1) = o.take i ++ [l.getD j default] := by
      rw [List.take_succ_eq_append_getElem (by rw [List.length_set]; omega), List.getElem_set_self, List.take_set_of_le (Nat.le_refl _)]
    rw [this, h.tk]; rfl
  · rw [List.drop_set_of_lt (by omega)]
    have := congrArg (List.drop 1) h.dr
    rwa [List.drop_drop, List.drop_drop] at this
theorem DelI.done {α : Type} [Inhabited α] {p : α → Bool} {l o : List α} {i j : Nat} (h : DelI p l o i j) (hj : ¬ j < l.length) : o.take i = delL p l := by
  rw [h.tk, List.take_of_length_le (by omega)]

/-! ### The set that a walk fills -/
def metT (pre : List (List Tree)) : List Int := pre.foldl (fun S xs => match xs with
  | [.agg (.sc (.int _ i) :: _)] => putK id S i
  | _ => S) []
theorem metT_snoc (pre : List (List Tree)) (v : Vis) : metT (pre ++ [enc1 v]) = putK id (metT pre) v.id := by
  unfold metT; rw [List.foldl_append]; rfl
theorem met_mem (k : Int) : ∀ (l : List Vis) (pre : List (List Tree)), k ∈ metT (pre ++ l.map enc1) ↔ k ∈ metT pre ∨ k ∈ l.map Vis.id
  | [], pre => by simp
  | v :: l, pre => by
    rw [List.map_cons, List.append_cons, met_mem k l, metT_snoc]
    have : ∀ (S : List Int) (x : Int), k ∈ putK id S x ↔ k ∈ S ∨ k = x := by
      intro S x
      induction S with
      | nil => simp [putK]
      | cons y S ih =>
        rw [putK]
        split
        · rename_i q
          simp only [id_eq] at q
          subst q
          simp only [List.mem_cons]
          constructor
          · rintro (h | h); exact .inr h; exact .inl (.inr h)
          · rintro ((h | h) | h); exact .inl h; exact .inr h; exact .inl h
        · simp only [List.mem_cons, ih]
          constructor
          · rintro (h | h | h); exact .inl (.inl h); exact .inl (.inr h); exact .inr h
          · rintro ((h | h) | h); exact .inl h; exact .inr (.inl h); exact .inr (.inr h)
    rw [this, List.map_cons, List.mem_cons]
    constructor
    · rintro ((h | h) | h); exact .inl h; exact .inr (.inl h); exact .inr (.inr h)
    · rintro (h | h | h); exact .inl (.inl h); exact .inl (.inr h); exact .inr h
def metD (d : Doc) : List Int := metT (endP (fun _ => true) [] (treeV d))
theorem cont_true : ∀ (l : List Vis) (pre : List (List Tree)), contY (fun _ => true) pre l = true
  | [], _ => rfl
  | x :: l, pre => by rw [contY, if_pos rfl]; exact cont_true l _
theorem metD_mem {d : Doc} {k : Int} : k ∈ metD d ↔ k ∈ (treeV d).map Vis.id := by
  unfold metD endP
  rw [stop_all (cont_true _ _), met_mem]
  simp [metT]
theorem loose_succ {d : Doc} {i : Nat} (h : i < d.nodes.length) : ((d.nodes.take (i + 1)).filter fun n => !inT d n).map Node.id = ((d.nodes.take i).filter fun n => !inT d n).map Node.id ++ (if inT d (d.nodes.getD i default) = true then [] else [(d.nodes.getD i default).id]) := by
  rw [filtG_succ h, List.map_append]
  cases inT d (d.nodes.getD i default) <;> rfl
/-- What Collect deletes. -/
theorem del_col (d : Doc) : delL (fun n : Node => (looseD d).any (fun y => n.id == y)) d.nodes = (colD d).nodes := by
  unfold delL colD
  refine List.filter_congr (fun n hn => ?_)
  rw [Bool.eq_iff_iff]
  simp only [Bool.not_eq_true', List.any_eq_false, beq_iff_eq]
  constructor
  · intro h
    cases hq : inT d n
    · exact absurd rfl (h n.id (List.mem_map.2 ⟨n, List.mem_filter.2 ⟨hn, by rw [hq]; rfl⟩, rfl⟩))
    · rfl
  · intro h y hy e
    obtain ⟨m, hm, e2⟩ := List.mem_map.1 hy
    obtain ⟨_, h3⟩ := List.mem_filter.1 hm
    have : inT d m = inT d n := by unfold inT; rw [e2, e]
    rw [this, h] at h3
    cases h3
end Go.Ch
end
section
set_option linter.unusedVariables false
set_option linter.unusedSimpArgs false
set_option maxRecDepth 100000
set_option maxHeartbeats 4000000
open Go Go.Proofs Go.Ab
namespace Go.Ch
theorem fc_looseC (v : Vis) (S : List Int) : FC Tryz.prog 44 [.t (visT v), .ptr 0 0] (app emp [(0, .box [.hdl 1]), (1, .mp (List.map onM S) none)]) (VB true) (app emp [(0, .box [.hdl 1]), (1, .mp (List.map onM (putK id S v.id)) none)]) := by
 refine .go Tryz.f44 ?_
 exact .fin [.r [], .r [(3, X (Xmu onM S (putK id S v.id) v.id 1 (.im (TB true))) putS)], .r []] [(0, 0), (1, 1)]

theorem fc_walkS (d : Doc) (hV : DocV d) : FC Tryz.prog 38 [.t (docT d), .fn 44 [.ptr 0 0]] (app emp [(0, .box [.hdl 1]), (1, .mp (List.map onM []) none)]) (.tup []) (app emp [(0, .box [.hdl 1]), (1, .mp (List.map onM (metD d)) none)]) := by
  have h := FC.pack (P := Tryz.prog) (W := 38) (fid := 44) (a1 := [.t (docT d)]) (a2 := []) (caps := [.ptr 0 0]) (R := fun pre => [(0, .box [.hdl 1]), (1, .mp (List.map onM (metT pre)) none)]) (C := []) (pre0 := []) (pre' := endP (fun _ => true) [] (treeV d)) (res := .tup []) (e := 0)
    (G := fun _ => true) (A := fun pre xs => ∃ v, xs = enc1 v)
    (fun pre xs hA => by
      obtain ⟨v, rfl⟩ := hA
      have := fc_looseC v (metT pre)
      rw [← metT_snoc] at this
      exact this)
    (fun Y2 h1 h2 h3 => by
      have := fc_walkY d Y2 h3 hV [] (adm_vis h2)
      rw [h1] at this
      exact this)
    (by kernel_rfl) (by kernel_rfl) rfl (by kernel_rfl) (by kernel_rfl) rfl
  exact h

theorem fc_loose (d : Doc) (hV : DocV d) : FC Tryz.prog 13 [.t (docT d)] (app emp []) (.tup [VL 1 intT (looseD d), VI 0]) (app emp []) := by
 refine .go Tryz.f13 ?_
 have hb := hV.b
 have hl := hb.len
 refine .br [.r [], .r [(1, X (Xc0 (fc_docCk d (by assumption)) X0))], .r []] ((docE d) != 0) (fun h2 => ?_) (fun h2 => ?_)
 ·
  (try simp only [bne_iff_ne, bne_eq_false_iff_eq, ne_eq] at h2)
  exfalso
  exact h2 hV.e
 ·
  (try simp only [bne_iff_ne, bne_eq_false_iff_eq, ne_eq] at h2)
  refine .loop (α := Nat × (List Int)) [.r [], .r [(2, X (Xc3 104 [(0, 72), (1, 64)] (fc_walkS d hV) X0))], .r [], .r [(2, X (Xl nodeT d.nodes))], .le (.nR 6 1)] 153 (fun (i, o) => ([(5, .ptr 72 0), (6, .row 152 o.length), (19, VL 9 nodeT d.nodes), (20, VI (d.nodes.length : Int)), (21, VI (i : Int))], [(64, .mp (List.map onM (metD d)) none), (72, .box [.hdl 64]), (152, OR 1 intT o)])) (fun (i, o) => i ≤ d.nodes.length ∧ o = (((d.nodes.take i).filter fun n => !inT d n).map Node.id)) (fun (i, o) => d.nodes.length - i) (0, []) ?_ ?_
  ·
   exact ⟨by omega, rfl⟩
  rintro ⟨i, o⟩ I8 ih8
  try dsimp only at I8
  have ol : o.length ≤ i := by rw [I8.2, List.length_map]; exact Nat.le_trans (List.length_filter_le _ _) (by rw [List.length_take]; omega)
  refine .br [.r []] (decide ((i : Int) < (d.nodes.length : Int))) (fun h8 => ?_) (fun h8 => ?_)
  ·
   (try simp only [decide_eq_true_eq, decide_eq_false_iff_not, Int.not_lt, Int.not_le] at h8)
   refine .br [.r [(0, X (Xi nodeT d.nodes (i : Int)))], .r [(3, X (Xmt (List.map onM (metD d)) (((d.nodes.getD i default)).id) (TB false) (TB (decide ((d.nodes.getD i default).id ∈ metD d)))) lookS)]] (!(decide ((d.nodes.getD i default).id ∈ metD d))) (fun h10 => ?_) (fun h10 => ?_)
   ·
    (try simp only [decide_eq_true_eq, decide_eq_false_iff_not, Int.not_lt, Int.not_le, Bool.not_eq_true', Bool.not_eq_false'] at h10)
    refine .back [.r [(4, X (rowC intT [((d.nodes.getD i default)).id] (Xap 1 intT 152 o [((d.nodes.getD i default)).id])))], .r [(0, X (Xn ((i : Int) + 1)))]] [(64, 64), (72, 72), (152, 152)] (ih8 ((i + 1), (o ++ [((d.nodes.getD i default)).id])) ?_ ?_)
    ·
     refine ⟨by omega, ?_⟩
     rw [loose_succ (by omega), I8.2]; unfold inT
     first | (rw [if_pos (by rw [decide_eq_true_eq, ← metD_mem]; simpa using h10)]; simp) | (rw [if_neg (by rw [decide_eq_true_eq, ← metD_mem]; simpa using h10)])
    ·
     ((try dsimp only); omega)
   ·
    (try simp only [decide_eq_true_eq, decide_eq_false_iff_not, Int.not_lt, Int.not_le, Bool.not_eq_true', Bool.not_eq_false'] at h10)
    refine .back [.r [(0, X (Xn ((i : Int) + 1)))]] [(64, 64), (72, 72), (152, 152)] (ih8 ((i + 1), o) ?_ ?_)
    ·
     refine ⟨by omega, ?_⟩
     rw [loose_succ (by omega), I8.2]; unfold inT
     first | (rw [if_pos (by rw [decide_eq_true_eq, ← metD_mem]; simpa using h10)]; simp) | (rw [if_neg (by rw [decide_eq_true_eq, ← metD_mem]; simpa using h10)])
    ·
     ((try dsimp only); omega)
  ·
   (try simp only [decide_eq_true_eq, decide_eq_false_iff_not, Int.not_lt, Int.not_le] at h8)
   have e1 : ((looseD d) : List Int) = o := by
    first | exact hV.e.symm | exact hV.e | (rw [I8.2, List.take_of_length_le (by omega)]; rfl)
   exact .finE [.r [], .le (.fr 2 [(o.length : Nat) = (List.map intT o).length] ⟨lm, trivial⟩)] [] (fun z0 => (.tup [VL 1 intT z0, VI 0], [])) (o : List Int) ((looseD d) : List Int) e1
end Go.Ch
end
section
set_option linter.unusedVariables false
set_option linter.unusedSimpArgs false
set_option maxRecDepth 100000
set_option maxHeartbeats 4000000
open Go Go.Proofs Go.Ab
namespace Go.Ch
end Go.Ch
end
section
set_option linter.unusedVariables false
set_option linter.unusedSimpArgs false
set_option maxRecDepth 100000
set_option maxHeartbeats 4000000
open Go Go.Proofs Go.Ab
namespace Go.Ch
theorem fc_colC (n : Node) (r : List Int) : FC Tryz.prog 42 [.t (nodeT n), .ptr 0 0] (app emp [(0, .box [VL 1 intT r])]) (VB (r.any (fun y => n.id == y))) (app emp [(0, .box [VL 1 intT r])]) := by
 refine .go Tryz.f42 ?_
 have e1 : ((r.any (fun y => n.id == y)) : Bool) = ((r).any (fun y => n.id == y)) := by
  rfl
 exact .finE [.r [], .r [(3, X (Xc0 (fc_hasI r n.id) X0))]] [(0, 0)] (fun z0 => (VB z0, [(0, .box [VL 1 intT r])])) (((r).any (fun y => n.id == y)) : Bool) ((r.any (fun y => n.id == y)) : Bool) e1

theorem fc_idxN (l : List Node) (r : List Int) (hn : l.length ≤ 100000000000) : FC Tryz.prog 80 [.row 0 l.length, .fn 42 [.ptr 1 0]] (app emp [(0, OR 9 nodeT l), (1, .box [VL 1 intT r])]) (VI (idxF (fun n : Node => r.any (fun y => n.id == y)) l 0)) (app emp [(0, OR 9 nodeT l), (1, .box [VL 1 intT r])]) := by
 refine .go Tryz.f80 ?_
 refine .loop (α := Nat) [.r [], .r []] 34 (fun i => ([(0, .row 0 l.length), (1, .fn 42 [.ptr 1 0]), (7, VI (l.length : Int)), (8, VI (i : Int))], [(0, OR 9 nodeT l), (1, .box [VL 1 intT r])])) (fun i => i ≤ l.length ∧ idxF (fun n : Node => r.any (fun y => n.id == y)) l 0 = idxF (fun n : Node => r.any (fun y => n.id == y)) l i) (fun i => l.length - i) (0 : Nat) ?_ ?_
 ·
  exact ⟨by omega, rfl⟩
 rintro i I2 ih2
 try dsimp only at I2
 refine .br [.r []] (decide ((i : Int) < (l.length : Int))) (fun h2 => ?_) (fun h2 => ?_)
 ·
  (try simp only [decide_eq_true_eq, decide_eq_false_iff_not, Int.not_lt, Int.not_le] at h2)
  refine .br [.r [], .r [(3, X (Xp nodeT l (i : Int))), (4, X (Xe nodeT l i)), (5, X (Xc4 [(0, 1)] (fc_colC ({ id := ((l.getD i default)).id, kind := ((l.getD i default)).kind, attrs := ((l.getD i default)).attrs, flow := ((l.getD i default)).flow, grid := (((l.getD i default)).grid), draw := ((l.getD i default)).draw } : Node) r) X0))]] ((r).any (fun y => (({ id := ((l.getD i default)).id, kind := ((l.getD i default)).kind, attrs := ((l.getD i default)).attrs, flow := ((l.getD i default)).flow, grid := (((l.getD i default)).grid), draw := ((l.getD i default)).draw } : Node)).id == y)) (fun h4 => ?_) (fun h4 => ?_)
  ·
   (try simp only [beq_iff_eq, beq_eq_false_iff_ne, ne_eq] at h4)
   have e1 : ((idxF (fun n : Node => r.any (fun y => n.id == y)) l 0) : Int) = (i : Int) := by
    rw [I2.2, idxF, if_pos (by omega), if_pos h4]
   exact .finE [.r []] [(0, 0), (1, 1)] (fun z0 => (VI z0, [(0, OR 9 nodeT l), (1, .box [VL 1 intT r])])) ((i : Int) : Int) ((idxF (fun n : Node => r.any (fun y => n.id == y)) l 0) : Int) e1
  ·
   (try simp only [beq_iff_eq, beq_eq_false_iff_ne, ne_eq] at h4)
   refine .back [.r [(0, X (Xn ((i : Int) + 1)))]] [(0, 0), (1, 1)] (ih2 ((i + 1) : Nat) ?_ ?_)
   ·
    refine ⟨by omega, ?_⟩
    rw [I2.2, idxF, if_pos (by omega), if_neg (by rw [h4]; decide)]
   ·
    ((try dsimp only); omega)
 ·
  (try simp only [decide_eq_true_eq, decide_eq_false_iff_not, Int.not_lt, Int.not_le] at h2)
  have e2 : ((idxF (fun n : Node => r.any (fun y => n.id == y)) l 0) : Int) = -1 := by
   rw [I2.2, idxF, if_neg (by omega)]
  exact .finE [.r []] [(0, 0), (1, 1)] (fun z0 => (VI z0, [(0, OR 9 nodeT l), (1, .box [VL 1 intT r])])) (-1 : Int) ((idxF (fun n : Node => r.any (fun y => n.id == y)) l 0) : Int) e2

theorem fc_delN (l : List Node) (r : List Int) (hn : l.length ≤ 100000000000) : FC Tryz.prog 41 [.row 0 l.length, .fn 42 [.ptr 1 0]] (app emp [(0, OR 9 nodeT l), (1, .box [VL 1 intT r])]) (.row 2 ((delL (fun n : Node => r.any (fun y => n.id == y)) l).length)) (app emp [(0, .gone), (1, .box [VL 1 intT r]), (2, OR 9 nodeT (delL (fun n : Node => r.any (fun y => n.id == y)) l))]) := by
 refine .go Tryz.f41 ?_
 have sp := idxF_spec (fun n : Node => r.any (fun y => n.id == y)) (l := l) _ 0 rfl
 refine .mid [.r []] ?_
 by_cases hd : 0 ≤ idxF (fun n : Node => r.any (fun y => n.id == y)) l 0
 ·
  obtain ⟨k, hk, k1, k2, k3, k4⟩ := sp.resolve_left (fun q => by omega)
  refine .br [.r [(2, X (Xc4 [(0, 0), (1, 1)] (fc_idxN l r (by omega)) X0))], .le (.eq 5 (VI (idxF (fun n : Node => (r).any (fun y => n.id == y)) l 0)) (VI (k : Int)) (.of_eq (by rw [hk]))), .r []] ((k : Int) == (-1)) (fun h2 => ?_) (fun h2 => ?_)
  ·
   (try simp only [beq_iff_eq, beq_eq_false_iff_ne, ne_eq] at h2)
   exfalso
   omega
  ·
   (try simp only [beq_iff_eq, beq_eq_false_iff_ne, ne_eq] at h2)
   refine .loop (α := Nat × Nat × (List Node)) [.r [(1, X (Xn ((k : Int) + 1)))]] 82 (fun (i, j, o) => ([(0, .row 0 o.length), (1, .fn 42 [.ptr 1 0]), (5, VI (i : Int)), (6, VI (j : Int))], [(0, OR 9 nodeT o), (1, .box [VL 1 intT r])])) (fun (i, j, o) => DelI (fun n : Node => r.any (fun y => n.id == y)) l o i j) (fun (i, j, o) => l.length - j) (k, (k + 1), l) ?_ ?_
   ·
    exact DelI.start k2 k3 k4
   rintro ⟨i, j, o⟩ I5 ih5
   replace I5 : DelI (fun n : Node => r.any (fun y => n.id == y)) l o i j := I5
   have il := I5.len
   have ilt := I5.lt
   have ile := I5.le
   refine .br [.r []] (decide ((j : Int) < (o.length : Int))) (fun h5 => ?_) (fun h5 => ?_)
   ·
    (try simp only [decide_eq_true_eq, decide_eq_false_iff_not, Int.not_lt, Int.not_le] at h5)
    refine .br [.r [(2, X (Xp nodeT o (j : Int))), (3, X (Xe nodeT o j))], .r [(2, X (Xc4 [(0, 1)] (fc_colC ({ id := ((o.getD j default)).id, kind := ((o.getD j default)).kind, attrs := ((o.getD j default)).attrs, flow := ((o.getD j default)).flow, grid := (((o.getD j default)).grid), draw := ((o.getD j default)).draw } : Node) r) X0))]] (!((r).any (fun y => (({ id := ((o.getD j default)).id, kind := ((o.getD j default)).kind, attrs := ((o.getD j default)).attrs, flow := ((o.getD j default)).flow, grid := (((o.getD j default)).grid), draw := ((o.getD j default)).draw } : Node)).id == y))) (fun h8 => ?_) (fun h8 => ?_)
    ·
     (try simp only [Bool.not_eq_true', Bool.not_eq_false', beq_iff_eq, beq_eq_false_iff_ne, ne_eq] at h8)
     refine .back [.r [(3, X (Xp nodeT o (i : Int))), (4, X (Xs 9 nodeT 0 o i ({ id := ((o.getD j default)).id, kind := ((o.getD j default)).kind, attrs := ((o.getD j default)).attrs, flow := ((o.getD j default)).flow, grid := (((o.getD j default)).grid), draw := ((o.getD j default)).draw } : Node)))], .r [(1, X (Xn ((i : Int) + 1)))], .r [(1, X (Xn ((j : Int) + 1)))], .le (.eq 0 (.row 0 o.length) (.row 0 ((o.set i ({ id := ((o.getD j default)).id, kind := ((o.getD j default)).kind, attrs := ((o.getD j default)).attrs, flow := ((o.getD j default)).flow, grid := (((o.getD j default)).grid), draw := ((o.getD j default)).draw } : Node)).length)) (.of_eq (by simp only [List.length_set])))] [(0, 0), (1, 1)] (ih5 ((i + 1), (j + 1), (o.set i ({ id := ((o.getD j default)).id, kind := ((o.getD j default)).kind, attrs := ((o.getD j default)).attrs, flow := ((o.getD j default)).flow, grid := (((o.getD j default)).grid), draw := ((o.getD j default)).draw } : Node))) ?_ ?_)
     ·
      exact I5.keep (by omega) h8
     ·
      ((try dsimp only); omega)
    ·
     (try simp only [Bool.not_eq_true', Bool.not_eq_false', beq_iff_eq, beq_eq_false_iff_ne, ne_eq] at h8)
     refine .back [.r [(1, X (Xn ((j : Int) + 1)))]] [(0, 0), (1, 1)] (ih5 (i, (j + 1), o) ?_ ?_)
     ·
      exact I5.skip (by omega) h8
     ·
      ((try dsimp only); omega)
   ·
    (try simp only [decide_eq_true_eq, decide_eq_false_iff_not, Int.not_lt, Int.not_le] at h5)
    have hdn := I5.done (by omega)
    have e1 : ((delL (fun n : Node => r.any (fun y => n.id == y)) l) : List Node) = (o.take i) := by
     first | exact hdn.symm | rw [hdn]
    have e2 : ((delL (fun n : Node => r.any (fun y => n.id == y)) l).length : Nat) = (o.take i).length := by
     first | exact hdn.symm | rw [hdn]
    exact .finE [.r [(2, X (Xtl nodeT o.length o (i : Int))), (3, X (Xclr nodeT o.length i o))], .r [(2, X (Xcut' nodeT 9 0 162 o.length i o (.agg [TI 0, TI 0, TN, TN, TI 0, TI 0, TN, TN, TN]) (i : Int)))]] [(0, 0), (1, 1), (162, 2)] (fun (z0, z1) => (.row 2 z1, [(0, .gone), (1, .box [VL 1 intT r]), (2, OR 9 nodeT z0)])) (((o.take i) : List Node), ((o.take i).length : Nat)) (((delL (fun n : Node => r.any (fun y => n.id == y)) l) : List Node), ((delL (fun n : Node => r.any (fun y => n.id == y)) l).length : Nat)) (pr e1 e2)
 ·
  obtain ⟨hk, hall⟩ := sp.resolve_right (fun ⟨k, hk, q⟩ => by omega)
  have e3 : ((delL (fun n : Node => r.any (fun y => n.id == y)) l) : List Node) = l := by
   first | exact filt_all hall | rw [filt_all hall]
  have e4 : ((delL (fun n : Node => r.any (fun y => n.id == y)) l).length : Nat) = l.length := by
   first | exact filt_all hall | rw [filt_all hall]
  exact .finE [.r [(2, X (Xc4 [(0, 0), (1, 1)] (fc_idxN l r (by omega)) X0))], .le (.eq 5 (VI (idxF (fun n : Node => (r).any (fun y => n.id == y)) l 0)) (VI (-1)) (.of_eq (by rw [hk]))), .r [], .t, .le (.mv 0 l.length (List.map nodeT l).length lm), .r []] [(0, 0), (1, 1), (58, 2)] (fun (z0, z1) => (.row 2 z1, [(0, .gone), (1, .box [VL 1 intT r]), (2, OR 9 nodeT z0)])) ((l : List Node), (l.length : Nat)) (((delL (fun n : Node => r.any (fun y => n.id == y)) l) : List Node), ((delL (fun n : Node => r.any (fun y => n.id == y)) l).length : Nat)) (pr e3 e4)

theorem fc_copyDR (d : Doc) (hb : DocB d) : FC Tryz.prog 36 [.t (docT d)] (app emp []) (.agg [.row 1 d.nodes.length]) (app emp [(0, .box [.row 1 d.nodes.length]), (1, OR 9 nodeT d.nodes)]) := by
 refine .go Tryz.f36 ?_
 have hl := hb.len
 refine .loop (α := Nat × (List Node)) [.r [], .r [(2, X (Xl nodeT d.nodes)), (3, X (Xmz 9 nodeT 40 (d.nodes.length : Int) (d.nodes.length : Int) ({ id := 0, kind := 0, attrs := [], flow := [], grid := ({ rows := 0, cols := 0, cells := [], merges := [] } : Grid), draw := [] } : Node) [TI 0, TI 0, TN, TN, TI 0, TI 0, TN, TN, TN] ⟨.inl rfl, ⟨.inl rfl, ⟨tw_nil (by decide), ⟨tw_nil (by decide), ⟨.inl rfl, ⟨.inl rfl, ⟨tw_nil (by decide), ⟨tw_nil (by decide), ⟨tw_nil (by decide), trivial⟩⟩⟩⟩⟩⟩⟩⟩⟩))], .r [(2, X (Xl nodeT d.nodes))], .le (.eb 56 0 (.row 40 d.nodes.length) (.row 40 ((List.replicate d.nodes.length ({ id := 0, kind := 0, attrs := [], flow := [], grid := ({ rows := 0, cols := 0, cells := [], merges := [] } : Grid), draw := [] } : Node)).length)) (by simp only [List.length_replicate]))] 104 (fun (i, o) => ([(2, .ptr 8 0), (3, .ptr 56 0), (12, VL 9 nodeT d.nodes), (13, VI (d.nodes.length : Int)), (14, VI (i : Int))], [(8, .box [VN]), (40, OR 9 nodeT o), (56, .box [.row 40 o.length])])) (fun (i, o) => i ≤ d.nodes.length ∧ o = d.nodes.take i ++ List.replicate (d.nodes.length - i) ({ id := 0, kind := 0, attrs := [], flow := [], grid := ({ rows := 0, cols := 0, cells := [], merges := [] } : Grid), draw := [] } : Node)) (fun (i, o) => d.nodes.length - i) (0, (List.replicate d.nodes.length ({ id := 0, kind := 0, attrs := [], flow := [], grid := ({ rows := 0, cols := 0, cells := [], merges := [] } : Grid), draw := [] } : Node))) ?_ ?_
 ·
  exact ⟨by omega, by simp⟩
 rintro ⟨i, o⟩ I3 ih3
 try dsimp only at I3
 have ol : o.length = d.nodes.length := by rw [I3.2]; simp; omega
 refine .br [.r []] (decide ((i : Int) < (d.nodes.length : Int))) (fun h3 => ?_) (fun h3 => ?_)
 ·
  (try simp only [decide_eq_true_eq, decide_eq_false_iff_not, Int.not_lt, Int.not_le] at h3)
  have hx := hb.all _ (getDN_mem (l := d.nodes) (i := i) (by omega))
  refine .back [.r [(1, X (Xi nodeT d.nodes (i : Int)))], .r [(4, X (Xc1 192 (fc_copyN ({ id := ((d.nodes.getD i default)).id, kind := ((d.nodes.getD i default)).kind, attrs := ((d.nodes.getD i default)).attrs, flow := ((d.nodes.getD i default)).flow, grid := (((d.nodes.getD i default)).grid), draw := ((d.nodes.getD i default)).draw } : Node) (by assumption)) X0)), (5, X (Xp nodeT o (i : Int))), (6, X (Xs 9 nodeT 40 o i ({ id := (({ id := ((d.nodes.getD i default)).id, kind := ((d.nodes.getD i default)).kind, attrs := ((d.nodes.getD i default)).attrs, flow := ((d.nodes.getD i default)).flow, grid := (((d.nodes.getD i default)).grid), draw := ((d.nodes.getD i default)).draw } : Node)).id, kind := (({ id := ((d.nodes.getD i default)).id, kind := ((d.nodes.getD i default)).kind, attrs := ((d.nodes.getD i default)).attrs, flow := ((d.nodes.getD i default)).flow, grid := (((d.nodes.getD i default)).grid), draw := ((d.nodes.getD i default)).draw } : Node)).kind, attrs := (({ id := ((d.nodes.getD i default)).id, kind := ((d.nodes.getD i default)).kind, attrs := ((d.nodes.getD i default)).attrs, flow := ((d.nodes.getD i default)).flow, grid := (((d.nodes.getD i default)).grid), draw := ((d.nodes.getD i default)).draw } : Node)).attrs, flow := (({ id := ((d.nodes.getD i default)).id, kind := ((d.nodes.getD i default)).kind, attrs := ((d.nodes.getD i default)).attrs, flow := ((d.nodes.getD i default)).flow, grid := (((d.nodes.getD i default)).grid), draw := ((d.nodes.getD i default)).draw } : Node)).flow, grid := ((({ id := ((d.nodes.getD i default)).id, kind := ((d.nodes.getD i default)).kind, attrs := ((d.nodes.getD i default)).attrs, flow := ((d.nodes.getD i default)).flow, grid := (((d.nodes.getD i default)).grid), draw := ((d.nodes.getD i default)).draw } : Node)).grid), draw := (({ id := ((d.nodes.getD i default)).id, kind := ((d.nodes.getD i default)).kind, attrs := ((d.nodes.getD i default)).attrs, flow := ((d.nodes.getD i default)).flow, grid := (((d.nodes.getD i default)).grid), draw := ((d.nodes.getD i default)).draw } : Node)).draw } : Node)))], .r [(0, X (Xn ((i : Int) + 1)))], .le (.eb 56 0 (.row 40 o.length) (.row 40 ((o.set i ({ id := (({ id := ((d.nodes.getD i default)).id, kind := ((d.nodes.getD i default)).kind, attrs := ((d.nodes.getD i default)).attrs, flow := ((d.nodes.getD i default)).flow, grid := (((d.nodes.getD i default)).grid), draw := ((d.nodes.getD i default)).draw } : Node)).id, kind := (({ id := ((d.nodes.getD i default)).id, kind := ((d.nodes.getD i default)).kind, attrs := ((d.nodes.getD i default)).attrs, flow := ((d.nodes.getD i default)).flow, grid := (((d.nodes.getD i default)).grid), draw := ((d.nodes.getD i default)).draw } : Node)).kind, attrs := (({ id := ((d.nodes.getD i default)).id, kind := ((d.nodes.getD i default)).kind, attrs := ((d.nodes.getD i default)).attrs, flow := ((d.nodes.getD i default)).flow, grid := (((d.nodes.getD i default)).grid), draw := ((d.nodes.getD i default)).draw } : Node)).attrs, flow := (({ id := ((d.nodes.getD i default)).id, kind := ((d.nodes.getD i default)).kind, attrs := ((d.nodes.getD i default)).attrs, flow := ((d.nodes.getD i default)).flow, grid := (((d.nodes.getD i default)).grid), draw := ((d.nodes.getD i default)).draw } : Node)).flow, grid := ((({ id := ((d.nodes.getD i default)).id, kind := ((d.nodes.getD i default)).kind, attrs := ((d.nodes.getD i default)).attrs, flow := ((d.nodes.getD i default)).flow, grid := (((d.nodes.getD i default)).grid), draw := ((d.nodes.getD i default)).draw } : Node)).grid), draw := (({ id := ((d.nodes.getD i default)).id, kind := ((d.nodes.getD i default)).kind, attrs := ((d.nodes.getD i default)).attrs, flow := ((d.nodes.getD i default)).flow, grid := (((d.nodes.getD i default)).grid), draw := ((d.nodes.getD i default)).draw } : Node)).draw } : Node)).length)) (by simp only [List.length_set]))] [(8, 8), (40, 40), (56, 56)] (ih3 ((i + 1), (o.set i ({ id := (({ id := ((d.nodes.getD i default)).id, kind := ((d.nodes.getD i default)).kind, attrs := ((d.nodes.getD i default)).attrs, flow := ((d.nodes.getD i default)).flow, grid := (((d.nodes.getD i default)).grid), draw := ((d.nodes.getD i default)).draw } : Node)).id, kind := (({ id := ((d.nodes.getD i default)).id, kind := ((d.nodes.getD i default)).kind, attrs := ((d.nodes.getD i default)).attrs, flow := ((d.nodes.getD i default)).flow, grid := (((d.nodes.getD i default)).grid), draw := ((d.nodes.getD i default)).draw } : Node)).kind, attrs := (({ id := ((d.nodes.getD i default)).id, kind := ((d.nodes.getD i default)).kind, attrs := ((d.nodes.getD i default)).attrs, flow := ((d.nodes.getD i default)).flow, grid := (((d.nodes.getD i default)).grid), draw := ((d.nodes.getD i default)).draw } : Node)).attrs, flow := (({ id := ((d.nodes.getD i default)).id, kind := ((d.nodes.getD i default)).kind, attrs := ((d.nodes.getD i default)).attrs, flow := ((d.nodes.getD i default)).flow, grid := (((d.nodes.getD i default)).grid), draw := ((d.nodes.getD i default)).draw } : Node)).flow, grid := ((({ id := ((d.nodes.getD i default)).id, kind := ((d.nodes.getD i default)).kind, attrs := ((d.nodes.getD i default)).attrs, flow := ((d.nodes.getD i default)).flow, grid := (((d.nodes.getD i default)).grid), draw := ((d.nodes.getD i default)).draw } : Node)).grid), draw := (({ id := ((d.nodes.getD i default)).id, kind := ((d.nodes.getD i default)).kind, attrs := ((d.nodes.getD i default)).attrs, flow := ((d.nodes.getD i default)).flow, grid := (((d.nodes.getD i default)).grid), draw := ((d.nodes.getD i default)).draw } : Node)).draw } : Node))) ?_ ?_)
  ·
   refine ⟨by omega, ?_⟩
   rw [I3.2]
   exact set_fill rfl (by omega) rfl
  ·
   ((try dsimp only); omega)
 ·
  (try simp only [decide_eq_true_eq, decide_eq_false_iff_not, Int.not_lt, Int.not_le] at h3)
  have e1 : (d.nodes.length : Nat) = o.length := by
   first | omega | (rw [I3.2, List.take_of_length_le (by omega), show d.nodes.length - i = 0 by omega]; simp)
  have e2 : (d.nodes : List Node) = o := by
   first | omega | (rw [I3.2, List.take_of_length_le (by omega), show d.nodes.length - i = 0 by omega]; simp)
  exact .finE [.r []] [(8, 0), (40, 1)] (fun (z0, z1) => (.agg [.row 1 z0], [(0, .box [.row 1 z0]), (1, OR 9 nodeT z1)])) ((o.length : Nat), (o : List Node)) ((d.nodes.length : Nat), (d.nodes : List Node)) (pr e1 e2)

theorem fc_collect (d : Doc) (hV : DocV d) : FC Tryz.prog 12 [.t (docT d)] (app emp []) (.tup [.t (docT (colD d)), VI 0]) (app emp []) := by
 refine .go Tryz.f12 ?_
 have hb := hV.b
 have hl := hb.len
 have hdc := del_col d
 have e1 : ((colD d) : Doc) = ({ nodes := (delL (fun n : Node => ((looseD d)).any (fun y => n.id == y)) ((d).nodes)) } : Doc) := by
  first | rfl | (rw [hdc])
 exact .finVE [.r [], .r [(1, X (Xc1 32 (fc_loose d (by assumption)) X0))], .r [], .f, .r [(1, X (Xc1 112 (fc_copyDR d (by assumption)) X0))], .r [(3, X (Xc3 160 [(0, 113), (1, 64)] (fc_delN ((d).nodes) (looseD d) (by omega)) X0))], .r []] [.fR 0 [(((delL (fun n : Node => ((looseD d)).any (fun y => n.id == y)) ((d).nodes)).length) : Nat) = (List.map nodeT (delL (fun n : Node => ((looseD d)).any (fun y => n.id == y)) ((d).nodes))).length] ⟨lm, trivial⟩] [] (fun z0 => (.tup [.t (docT z0), VI 0], [])) (({ nodes := (delL (fun n : Node => ((looseD d)).any (fun y => n.id == y)) ((d).nodes)) } : Doc) : Doc) ((colD d) : Doc) e1
end Go.Ch
end
