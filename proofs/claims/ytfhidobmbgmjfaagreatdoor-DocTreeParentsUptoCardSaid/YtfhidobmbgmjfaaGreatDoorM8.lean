/- Documents: what the checks and the document's answers compute, in plain words. -/
import Derived.Test.YtfhidobmbgmjfaaGreatDoorM1
import Derived.Test.YtfhidobmbgmjfaaGreatDoorM2
import Derived.Test.YtfhidobmbgmjfaaGreatDoorM3
import Derived.Test.YtfhidobmbgmjfaaGreatDoorM4
import Derived.Test.YtfhidobmbgmjfaaGreatDoorM5
import Derived.Test.YtfhidobmbgmjfaaGreatDoorM6
import Derived.Test.YtfhidobmbgmjfaaGreatDoorM7
section
set_option linter.unusedVariables false
namespace Go.Ch
open Go Go.Ab

structure Node where
  id : Int
  kind : Int
  attrs : List Attr
  flow : List Elem
  grid : Grid
  draw : List DOp
instance : Inhabited Node := ⟨⟨0, 0, [], [], default, []⟩⟩
def nodeT (n : Node) : Tree := .agg [TI n.id, TI n.kind, .lst 2 (n.attrs.map attrT), .lst 3 (n.flow.map elemT), TI n.grid.rows, TI n.grid.cols, .lst 5 (n.grid.cells.map cellT), .lst 4 (n.grid.merges.map rectT), .lst 8 (n.draw.map dopT)]
structure Doc where
  nodes : List Node
instance : Inhabited Doc := ⟨⟨[]⟩⟩
def docT (d : Doc) : Tree := .agg [.lst 9 (d.nodes.map nodeT)]

/-! ### Kinds -/
def hasT (k : Int) : Bool := ((k == 1 || k == 3) || k == 4) || k == 12
def hasL (k : Int) : Bool := k == 0 || k == 7
def hasG (k : Int) : Bool := k == 2 || k == 6
def hasD (k : Int) : Bool := (k == 8 || k == 9) || k == 10
def zeroG (g : Grid) : Bool := ((g.rows == 0 && g.cols == 0) && (g.cells.length : Int) == 0) && (g.merges.length : Int) == 0
/-- Whether a node of kind p can refer to one of kind k. -/
def permB (p k : Int) : Bool :=
  if k = 1 ∨ k = 6 ∨ k = 7 ∨ k = 11 ∨ k = 12 then p == 0
  else if k = 10 then (p == 0 || p == 1) || p == 3
  else if k = 2 then p == 1
  else if k = 4 then p == 1 || p == 3
  else if k = 5 then hasT p
  else if k = 3 then p == 2
  else if k = 8 ∨ k = 9 then p == 7
  else false

/-! ### The error of a node -/
def flowX (t : Bool) (f : List Elem) (i : Nat) : Int :=
  if i < f.length then
    (if elemE (f.getD i default) ≠ 0 then elemE (f.getD i default) else if t = false ∧ (f.getD i default).ref = 0 then 8 else flowX t f (i + 1))
  else 0
termination_by f.length - i
def flowZ (t : Bool) (f : List Elem) : Int :=
  if flowX t f 0 ≠ 0 then flowX t f 0 else if t = true ∧ (f.length = 0 ∨ (f.getD (f.length - 1) default).char ≠ 10) then 11 else 0
theorem flowX_bad {t : Bool} {f : List Elem} {i : Nat} (h : i < f.length) (he : elemE (f.getD i default) ≠ 0) : flowX t f i = elemE (f.getD i default) := by rw [flowX, if_pos h, if_pos he]
theorem flowX_kind {t : Bool} {f : List Elem} {i : Nat} (h : i < f.length) (he : elemE (f.getD i default) = 0) (hk : t = false ∧ (f.getD i default).ref = 0) : flowX t f i = 8 := by rw [flowX, if_pos h, if_neg (fun q => q he), if_pos hk]
theorem flowX_next {t : Bool} {f : List Elem} {i : Nat} (h : i < f.length) (he : elemE (f.getD i default) = 0) (hk : t = true ∨ (f.getD i default).ref ≠ 0) : flowX t f i = flowX t f (i + 1) := by
  rw [flowX, if_pos h, if_neg (fun q => q he), if_neg]
  rintro ⟨a, b⟩; rcases hk with q | q
  · rw [a] at q; cases q
  · exact q b
theorem flowX_end {t : Bool} {f : List Elem} {i : Nat} (h : ¬ i < f.length) : flowX t f i = 0 := by rw [flowX, if_neg h]
theorem flowZ_bad {t : Bool} {f : List Elem} {e : Int} (h : flowX t f 0 = e) (he : e ≠ 0) : flowZ t f = e := by unfold flowZ; rw [h, if_pos he]
theorem flowZ_end {t : Bool} {f : List Elem} (h : flowX t f 0 = 0) : flowZ t f = if t = true ∧ (f.length = 0 ∨ (f.getD (f.length - 1) default).char ≠ 10) then 11 else 0 := by unfold flowZ; rw [h, if_neg (fun q => q rfl)]
theorem elem_cr {x : Elem} (h : elemE x = 0) : x.char ≠ 0 ↔ x.ref = 0 := by
  have hc : ¬ (x.char = 0 ↔ x.ref = 0) := fun q => by rw [elemE_4 q] at h; exact absurd h (by decide)
  constructor
  · intro a; exact Classical.byContradiction fun b => hc ⟨fun q => absurd q a, fun q => absurd q b⟩
  · intro a b; exact hc ⟨fun _ => a, fun _ => b⟩
def cellK (k : Int) (l : List Cell) (i : Nat) : Int :=
  if i < l.length then
    (if (k = 2 ∧ (seq (l.getD i default).text { data := #[] } = false ∨ 0 < (l.getD i default).attrs.length)) ∨ (k = 6 ∧ (l.getD i default).ref ≠ 0) then 4 else cellK k l (i + 1))
  else 0
termination_by l.length - i
def nodeE (n : Node) : Int :=
  if n.id < 1 ∨ 1073741824 < n.id then 2
  else if n.kind < 0 ∨ 12 < n.kind ∨ (n.id = 1 ∧ n.kind ≠ 0) ∨ (n.id ≠ 1 ∧ n.kind = 0) then 8
  else if chkA false n.attrs 0 ≠ 0 then chkA false n.attrs 0
  else if (0 < n.flow.length ∧ hasT n.kind = false ∧ hasL n.kind = false) ∨ (zeroG n.grid = false ∧ hasG n.kind = false) ∨ (0 < n.draw.length ∧ hasD n.kind = false) then 4
  else if hasT n.kind = true ∨ hasL n.kind = true then flowZ (hasT n.kind) n.flow
  else if hasG n.kind = true then (if gridE n.grid ≠ 0 then gridE n.grid else cellK n.kind n.grid.cells 0)
  else drawE n.draw 0

/-! ### References -/
def findD (l : List Node) (k : Int) (i : Nat) : Int := if i < l.length then (if (l.getD i default).id = k then (i : Int) else findD l k (i + 1)) else -1
termination_by l.length - i
def refsF (f : List Elem) : List Int := f.filterMap fun x => if x.ref ≠ 0 then some x.ref else none
def refsC (l : List Cell) : List Int := l.filterMap fun x => if x.ref ≠ 0 then some x.ref else none
def refsN (n : Node) : List Int := refsF n.flow ++ refsC n.grid.cells
def refsE (l : List Node) (k : Int) (rs : List Int) (i : Nat) : Int :=
  if i < rs.length then
    (if findD l (rs.getD i default) 0 < 0 then 7
     else if permB k (l.getD (findD l (rs.getD i default) 0).toNat default).kind = false then 8
     else refsE l k rs (i + 1))
  else 0
termination_by rs.length - i

/-! ### The error of a document -/
def nodesE (l : List Node) (i : Nat) : Int :=
  if i < l.length then
    (if nodeE (l.getD i default) ≠ 0 then nodeE (l.getD i default)
     else if (i = 0 ∧ (l.getD 0 default).id ≠ 1) ∨ (0 < i ∧ (l.getD i default).id ≤ (l.getD (i - 1) default).id) then 5
     else nodesE l (i + 1))
  else 0
termination_by l.length - i
def allRefsE (l : List Node) (i : Nat) : Int :=
  if i < l.length then
    (if refsE l (l.getD i default).kind (refsN (l.getD i default)) 0 ≠ 0 then refsE l (l.getD i default).kind (refsN (l.getD i default)) 0 else allRefsE l (i + 1))
  else 0
termination_by l.length - i
def docE (d : Doc) : Int :=
  if d.nodes.length = 0 then 11
  else if nodesE d.nodes 0 ≠ 0 then nodesE d.nodes 0
  else allRefsE d.nodes 0

def drawZ (l : List DOp) (i : Nat) : Int := drawE l i
theorem nodesE_bad {l : List Node} {i : Nat} (h : i < l.length) (he : nodeE (l.getD i default) ≠ 0) : nodesE l i = nodeE (l.getD i default) := by rw [nodesE, if_pos h, if_pos he]
theorem nodesE_ord {l : List Node} {i : Nat} (h : i < l.length) (he : nodeE (l.getD i default) = 0) (ho : (i = 0 ∧ (l.getD 0 default).id ≠ 1) ∨ (0 < i ∧ (l.getD i default).id ≤ (l.getD (i - 1) default).id)) : nodesE l i = 5 := by rw [nodesE, if_pos h, if_neg (fun q => q he), if_pos ho]
theorem nodesE_next {l : List Node} {i : Nat} (h : i < l.length) (he : nodeE (l.getD i default) = 0) (ho : ¬ ((i = 0 ∧ (l.getD 0 default).id ≠ 1) ∨ (0 < i ∧ (l.getD i default).id ≤ (l.getD (i - 1) default).id))) : nodesE l i = nodesE l (i + 1) := by rw [nodesE, if_pos h, if_neg (fun q => q he), if_neg ho]
theorem nodesE_end {l : List Node} {i : Nat} (h : ¬ i < l.length) : nodesE l i = 0 := by rw [nodesE, if_neg h]
theorem allR_bad {l : List Node} {i : Nat} (h : i < l.length) (he : refsE l (l.getD i default).kind (refsN (l.getD i default)) 0 ≠ 0) : allRefsE l i = refsE l (l.getD i default).kind (refsN (l.getD i default)) 0 := by rw [allRefsE, if_pos h, if_pos he]
theorem allR_next {l : List Node} {i : Nat} (h : i < l.length) (he : refsE l (l.getD i default).kind (refsN (l.getD i default)) 0 = 0) : allRefsE l i = allRefsE l (i + 1) := by rw [allRefsE, if_pos h, if_neg (fun q => q he)]
theorem allR_end {l : List Node} {i : Nat} (h : ¬ i < l.length) : allRefsE l i = 0 := by rw [allRefsE, if_neg h]
theorem docE_short {d : Doc} (h : d.nodes.length = 0) : docE d = 11 := by unfold docE; rw [if_pos h]
theorem docE_node {d : Doc} (h : ¬ d.nodes.length = 0) {e : Int} (he : nodesE d.nodes 0 = e) (hn : e ≠ 0) : docE d = e := by unfold docE; rw [if_neg h, he, if_pos hn]
theorem docE_refs {d : Doc} (h : ¬ d.nodes.length = 0) {e : Int} (he : nodesE d.nodes 0 = 0) (hr : allRefsE d.nodes 0 = e) : docE d = e := by unfold docE; rw [if_neg h, he, if_neg (fun q => q rfl), hr]
theorem refsE_none {l : List Node} {k : Int} {rs : List Int} {i : Nat} (h : i < rs.length) (he : findD l (rs.getD i default) 0 < 0) : refsE l k rs i = 7 := by rw [refsE, if_pos h, if_pos he]
theorem refsE_kind {l : List Node} {k : Int} {rs : List Int} {i : Nat} (h : i < rs.length) (he : 0 ≤ findD l (rs.getD i default) 0) (hp : permB k (l.getD (findD l (rs.getD i default) 0).toNat default).kind = false) : refsE l k rs i = 8 := by rw [refsE, if_pos h, if_neg (by omega), if_pos hp]
theorem refsE_next {l : List Node} {k : Int} {rs : List Int} {i : Nat} (h : i < rs.length) (he : 0 ≤ findD l (rs.getD i default) 0) (hp : permB k (l.getD (findD l (rs.getD i default) 0).toNat default).kind = true) : refsE l k rs i = refsE l k rs (i + 1) := by rw [refsE, if_pos h, if_neg (by omega), if_neg (by rw [hp]; decide)]
theorem refsE_end {l : List Node} {k : Int} {rs : List Int} {i : Nat} (h : ¬ i < rs.length) : refsE l k rs i = 0 := by rw [refsE, if_neg h]
theorem findD_lt {l : List Node} {k : Int} : ∀ (n i : Nat), l.length - i = n → findD l k i < l.length
  | 0, i, h => by rw [findD, if_neg (by omega)]; omega
  | n + 1, i, h => by
    rw [findD, if_pos (by omega)]
    split
    · omega
    · exact findD_lt n (i + 1) (by omega)
/-! ### Sizes -/
structure NodeB (n : Node) : Prop where
  at1 : Szd n.attrs
  at2 : n.attrs.length ≤ 1048576
  fl1 : SzE n.flow
  fl2 : n.flow.length ≤ 1048576
  fl3 : ∀ x ∈ n.flow, x.attrs.length ≤ 1048576
  ce1 : SzC n.grid.cells
  ce2 : n.grid.cells.length ≤ 1048576
  ce3 : ∀ c ∈ n.grid.cells, c.attrs.length ≤ 1048576
  me : n.grid.merges.length ≤ 1048576
  dr1 : n.draw.length ≤ 1048576
  dr2 : ∀ o ∈ n.draw, o.plc.size ≤ 1048576 ∧ o.nm.size ≤ 1048576 ∧ o.vl.size ≤ 1048576
def lenN (n : Node) : Nat := n.flow.length + n.grid.cells.length + n.draw.length
def lensN (l : List Node) : Nat := (l.map lenN).sum
structure DocB (d : Doc) : Prop where
  len : d.nodes.length ≤ 1048576
  all : ∀ n ∈ d.nodes, NodeB n
  sum : lensN d.nodes ≤ 1048576
def smallG (l : List Node) (i : Nat) : Bool :=
  if i < l.length then (if 30 < (l.getD i default).grid.rows ∨ 30 < (l.getD i default).grid.cols then false else smallG l (i + 1)) else true
termination_by l.length - i
def smallD (d : Doc) : Bool := smallG d.nodes 0 && decide (d.nodes.length + lensN d.nodes ≤ 400)
theorem getDN_mem {l : List Node} {i : Nat} (h : i < l.length) : l.getD i default ∈ l := getDX_mem h
theorem lens_at {l : List Node} {i : Nat} (h : i < l.length) : lensN (l.take (i + 1)) = lensN (l.take i) + lenN (l.getD i default) := by
  unfold lensN
  have e : l.getD i default = l[i] := by rw [List.getD_eq_getElem?_getD, List.getElem?_eq_getElem h]; rfl
  rw [List.take_succ_eq_append_getElem h, List.map_append, List.sum_append, e]; simp
theorem lens_le (l : List Node) (i : Nat) : lensN (l.take i) ≤ lensN l := by
  unfold lensN
  conv => rhs; rw [← List.take_append_drop i l]
  rw [List.map_append, List.sum_append]; omega
theorem filM_succ {α β : Type} [Inhabited α] {l : List α} {i : Nat} (g : α → Option β) (h : i < l.length) : (l.take (i + 1)).filterMap g = (l.take i).filterMap g ++ (g (l.getD i default)).toList := by
  have e : l.getD i default = l[i] := by rw [List.getD_eq_getElem?_getD, List.getElem?_eq_getElem h]; rfl
  rw [List.take_succ_eq_append_getElem h, List.filterMap_append, e]
  congr 1
end Go.Ch
end
section
set_option linter.unusedVariables false
set_option linter.unusedSimpArgs false
set_option maxRecDepth 100000
set_option maxHeartbeats 4000000
open Go Go.Proofs Go.Ab
namespace Go.Ch
theorem fc_HasText (k : Int) : FC Tryz.prog 62 [VI k] (app emp []) (VB (hasT k)) (app emp []) := by
 refine .go Tryz.f62 ?_
 have e1 : ((hasT k) : Bool) = ((((k == 1) || (k == 3)) || (k == 4)) || (k == 12)) := by
  rfl
 exact .finE [.r [], .r [(4, Xv 1 (!(k == 1)) X0), (5, X (Xk' (k == 1))), (8, Xv 1 (!((k == 1) || (k == 3))) X0), (9, X (Xk' ((k == 1) || (k == 3)))), (12, Xv 1 (!(((k == 1) || (k == 3)) || (k == 4))) X0), (13, X (Xk' (((k == 1) || (k == 3)) || (k == 4))))]] [] (fun z0 => (VB z0, [])) (((((k == 1) || (k == 3)) || (k == 4)) || (k == 12)) : Bool) ((hasT k) : Bool) e1

theorem fc_HasList (k : Int) : FC Tryz.prog 63 [VI k] (app emp []) (VB (hasL k)) (app emp []) := by
 refine .go Tryz.f63 ?_
 have e1 : ((hasL k) : Bool) = ((k == 0) || (k == 7)) := by
  rfl
 exact .finE [.r [], .r [(4, Xv 1 (!(k == 0)) X0), (5, X (Xk' (k == 0)))]] [] (fun z0 => (VB z0, [])) (((k == 0) || (k == 7)) : Bool) ((hasL k) : Bool) e1

theorem fc_HasGrid (k : Int) : FC Tryz.prog 65 [VI k] (app emp []) (VB (hasG k)) (app emp []) := by
 refine .go Tryz.f65 ?_
 have e1 : ((hasG k) : Bool) = ((k == 2) || (k == 6)) := by
  rfl
 exact .finE [.r [], .r [(4, Xv 1 (!(k == 2)) X0), (5, X (Xk' (k == 2)))]] [] (fun z0 => (VB z0, [])) (((k == 2) || (k == 6)) : Bool) ((hasG k) : Bool) e1

theorem fc_HasDraw (k : Int) : FC Tryz.prog 66 [VI k] (app emp []) (VB (hasD k)) (app emp []) := by
 refine .go Tryz.f66 ?_
 have e1 : ((hasD k) : Bool) = (((k == 8) || (k == 9)) || (k == 10)) := by
  rfl
 exact .finE [.r [], .r [(4, Xv 1 (!(k == 8)) X0), (5, X (Xk' (k == 8))), (8, Xv 1 (!((k == 8) || (k == 9))) X0), (9, X (Xk' ((k == 8) || (k == 9))))]] [] (fun z0 => (VB z0, [])) ((((k == 8) || (k == 9)) || (k == 10)) : Bool) ((hasD k) : Bool) e1

theorem fc_Texts (k : Int) : FC Tryz.prog 82 [VI k] (app emp []) (VB (hasT k)) (app emp []) := by
 refine .go Tryz.f82 ?_
 have e1 : ((hasT k) : Bool) = ((((k == 1) || (k == 3)) || (k == 4)) || (k == 12)) := by
  rfl
 exact .finE [.r [], .r [(4, Xv 1 (!(k == 1)) X0), (5, X (Xk' (k == 1))), (8, Xv 1 (!((k == 1) || (k == 3))) X0), (9, X (Xk' ((k == 1) || (k == 3)))), (12, Xv 1 (!(((k == 1) || (k == 3)) || (k == 4))) X0), (13, X (Xk' (((k == 1) || (k == 3)) || (k == 4))))]] [] (fun z0 => (VB z0, [])) (((((k == 1) || (k == 3)) || (k == 4)) || (k == 12)) : Bool) ((hasT k) : Bool) e1

theorem fc_Lists (k : Int) : FC Tryz.prog 83 [VI k] (app emp []) (VB (hasL k)) (app emp []) := by
 refine .go Tryz.f83 ?_
 have e1 : ((hasL k) : Bool) = ((k == 0) || (k == 7)) := by
  rfl
 exact .finE [.r [], .r [(4, Xv 1 (!(k == 0)) X0), (5, X (Xk' (k == 0)))]] [] (fun z0 => (VB z0, [])) (((k == 0) || (k == 7)) : Bool) ((hasL k) : Bool) e1

theorem fc_Grids (k : Int) : FC Tryz.prog 84 [VI k] (app emp []) (VB (hasG k)) (app emp []) := by
 refine .go Tryz.f84 ?_
 have e1 : ((hasG k) : Bool) = ((k == 2) || (k == 6)) := by
  rfl
 exact .finE [.r [], .r [(4, Xv 1 (!(k == 2)) X0), (5, X (Xk' (k == 2)))]] [] (fun z0 => (VB z0, [])) (((k == 2) || (k == 6)) : Bool) ((hasG k) : Bool) e1

theorem fc_Draws (k : Int) : FC Tryz.prog 86 [VI k] (app emp []) (VB (hasD k)) (app emp []) := by
 refine .go Tryz.f86 ?_
 have e1 : ((hasD k) : Bool) = (((k == 8) || (k == 9)) || (k == 10)) := by
  rfl
 exact .finE [.r [], .r [(4, Xv 1 (!(k == 8)) X0), (5, X (Xk' (k == 8))), (8, Xv 1 (!((k == 8) || (k == 9))) X0), (9, X (Xk' ((k == 8) || (k == 9))))]] [] (fun z0 => (VB z0, [])) ((((k == 8) || (k == 9)) || (k == 10)) : Bool) ((hasD k) : Bool) e1

theorem fc_zeroGrid (g : Grid) : FC Tryz.prog 64 [.t (gridT g)] (app emp []) (VB (zeroG g)) (app emp []) := by
 refine .go Tryz.f64 ?_
 have e1 : ((zeroG g) : Bool) = ((((g.rows == 0) && (g.cols == 0)) && ((g.cells.length : Int) == 0)) && ((g.merges.length : Int) == 0)) := by
  rfl
 exact .finE [.r [], .r [(5, Xv 1 (g.rows == 0) X0), (6, Xv 1 (g.rows == 0) X0), (7, X (Xk (g.rows == 0))), (10, Xv 1 ((g.rows == 0) && (g.cols == 0)) X0), (11, Xv 1 ((g.rows == 0) && (g.cols == 0)) (Xl cellT g.cells)), (12, Xv 1 ((g.rows == 0) && (g.cols == 0)) X0), (13, X (Xk ((g.rows == 0) && (g.cols == 0)))), (16, Xv 1 (((g.rows == 0) && (g.cols == 0)) && ((g.cells.length : Int) == 0)) X0), (17, Xv 1 (((g.rows == 0) && (g.cols == 0)) && ((g.cells.length : Int) == 0)) (Xl rectT g.merges)), (18, Xv 1 (((g.rows == 0) && (g.cols == 0)) && ((g.cells.length : Int) == 0)) X0), (19, X (Xk (((g.rows == 0) && (g.cols == 0)) && ((g.cells.length : Int) == 0))))]] [] (fun z0 => (VB z0, [])) (((((g.rows == 0) && (g.cols == 0)) && ((g.cells.length : Int) == 0)) && ((g.merges.length : Int) == 0)) : Bool) ((zeroG g) : Bool) e1

theorem fc_permR (p k : Int) : FC Tryz.prog 72 [VI p, VI k] (app emp []) (VB (permB p k)) (app emp []) := by
 refine .go Tryz.f72 ?_
 refine .br [.r [], .r [], .r []] (k == 1) (fun h2 => ?_) (fun h2 => ?_)
 ·
  (try simp only [beq_iff_eq, beq_eq_false_iff_ne, ne_eq] at h2)
  refine .br [] (k == 1) (fun h2 => ?_) (fun h2 => ?_)
  ·
   (try simp only [beq_iff_eq, beq_eq_false_iff_ne, ne_eq] at h2)
   have e1 : ((permB p k) : Bool) = (p == 0) := by
    unfold permB; (repeat' split) <;> first | rfl | omega | (exfalso; omega) | (simp_all; done) | (exfalso; simp_all; omega)
   exact .finE [.r []] [] (fun z0 => (VB z0, [])) ((p == 0) : Bool) ((permB p k) : Bool) e1
  ·
   (try simp only [beq_iff_eq, beq_eq_false_iff_ne, ne_eq] at h2)
   refine .br [.r []] (k == 10) (fun h8 => ?_) (fun h8 => ?_)
   ·
    (try simp only [beq_iff_eq, beq_eq_false_iff_ne, ne_eq] at h8)
    have e2 : ((permB p k) : Bool) = (((p == 0) || (p == 1)) || (p == 3)) := by
     unfold permB; (repeat' split) <;> first | rfl | omega | (exfalso; omega) | (simp_all; done) | (exfalso; simp_all; omega)
    exact .finE [.r [(4, Xv 1 (!(p == 0)) X0), (5, X (Xk' (p == 0))), (8, Xv 1 (!((p == 0) || (p == 1))) X0), (9, X (Xk' ((p == 0) || (p == 1))))]] [] (fun z0 => (VB z0, [])) ((((p == 0) || (p == 1)) || (p == 3)) : Bool) ((permB p k) : Bool) e2
   ·
    (try simp only [beq_iff_eq, beq_eq_false_iff_ne, ne_eq] at h8)
    refine .br [.r []] (k == 2) (fun h10 => ?_) (fun h10 => ?_)
    ·
     (try simp only [beq_iff_eq, beq_eq_false_iff_ne, ne_eq] at h10)
     have e3 : ((permB p k) : Bool) = (p == 1) := by
      unfold permB; (repeat' split) <;> first | rfl | omega | (exfalso; omega) | (simp_all; done) | (exfalso; simp_all; omega)
     exact .finE [.r []] [] (fun z0 => (VB z0, [])) ((p == 1) : Bool) ((permB p k) : Bool) e3
    ·
     (try simp only [beq_iff_eq, beq_eq_false_iff_ne, ne_eq] at h10)
     refine .br [.r []] (k == 4) (fun h12 => ?_) (fun h12 => ?_)
     ·
      (try simp only [beq_iff_eq, beq_eq_false_iff_ne, ne_eq] at h12)
      have e4 : ((permB p k) : Bool) = ((p == 1) || (p == 3)) := by
       unfold permB; (repeat' split) <;> first | rfl | omega | (exfalso; omega) | (simp_all; done) | (exfalso; simp_all; omega)
      exact .finE [.r [(4, Xv 1 (!(p == 1)) X0), (5, X (Xk' (p == 1)))]] [] (fun z0 => (VB z0, [])) (((p == 1) || (p == 3)) : Bool) ((permB p k) : Bool) e4
     ·
      (try simp only [beq_iff_eq, beq_eq_false_iff_ne, ne_eq] at h12)
      refine .br [.r []] (k == 5) (fun h14 => ?_) (fun h14 => ?_)
      ·
       (try simp only [beq_iff_eq, beq_eq_false_iff_ne, ne_eq] at h14)
       have e5 : ((permB p k) : Bool) = (hasT p) := by
        unfold permB; (repeat' split) <;> first | rfl | omega | (exfalso; omega) | (simp_all; done) | (exfalso; simp_all; omega)
       exact .finE [.r [(1, X (Xc0 (fc_HasText p) X0))]] [] (fun z0 => (VB z0, [])) ((hasT p) : Bool) ((permB p k) : Bool) e5
      ·
       (try simp only [beq_iff_eq, beq_eq_false_iff_ne, ne_eq] at h14)
       refine .br [.r []] (k == 3) (fun h16 => ?_) (fun h16 => ?_)
       ·
        (try simp only [beq_iff_eq, beq_eq_false_iff_ne, ne_eq] at h16)
        have e6 : ((permB p k) : Bool) = (p == 2) := by
         unfold permB; (repeat' split) <;> first | rfl | omega | (exfalso; omega) | (simp_all; done) | (exfalso; simp_all; omega)
        exact .finE [.r []] [] (fun z0 => (VB z0, [])) ((p == 2) : Bool) ((permB p k) : Bool) e6
       ·
        (try simp only [beq_iff_eq, beq_eq_false_iff_ne, ne_eq] at h16)
        refine .br [.r []] (k == 8) (fun h18 => ?_) (fun h18 => ?_)
        ·
         (try simp only [beq_iff_eq, beq_eq_false_iff_ne, ne_eq] at h18)
         refine .br [] (k == 8) (fun h18 => ?_) (fun h18 => ?_)
         ·
          (try simp only [beq_iff_eq, beq_eq_false_iff_ne, ne_eq] at h18)
          have e7 : ((permB p k) : Bool) = (p == 7) := by
           unfold permB; (repeat' split) <;> first | rfl | omega | (exfalso; omega) | (simp_all; done) | (exfalso; simp_all; omega)
          exact .finE [.r []] [] (fun z0 => (VB z0, [])) ((p == 7) : Bool) ((permB p k) : Bool) e7
         ·
          (try simp only [beq_iff_eq, beq_eq_false_iff_ne, ne_eq] at h18)
          have e8 : ((permB p k) : Bool) = false := by
           unfold permB; (repeat' split) <;> first | rfl | omega | (exfalso; omega) | (simp_all; done) | (exfalso; simp_all; omega)
          exact .finE [.r []] [] (fun z0 => (VB z0, [])) (false : Bool) ((permB p k) : Bool) e8
        ·
         (try simp only [beq_iff_eq, beq_eq_false_iff_ne, ne_eq] at h18)
         refine .br [.r []] (k == 9) (fun h19 => ?_) (fun h19 => ?_)
         ·
          (try simp only [beq_iff_eq, beq_eq_false_iff_ne, ne_eq] at h19)
          have e9 : ((permB p k) : Bool) = (p == 7) := by
           unfold permB; (repeat' split) <;> first | rfl | omega | (exfalso; omega) | (simp_all; done) | (exfalso; simp_all; omega)
          exact .finE [.r []] [] (fun z0 => (VB z0, [])) ((p == 7) : Bool) ((permB p k) : Bool) e9
         ·
          (try simp only [beq_iff_eq, beq_eq_false_iff_ne, ne_eq] at h19)
          have e10 : ((permB p k) : Bool) = false := by
           unfold permB; (repeat' split) <;> first | rfl | omega | (exfalso; omega) | (simp_all; done) | (exfalso; simp_all; omega)
          exact .finE [.r []] [] (fun z0 => (VB z0, [])) (false : Bool) ((permB p k) : Bool) e10
 ·
  (try simp only [beq_iff_eq, beq_eq_false_iff_ne, ne_eq] at h2)
  refine .br [.r []] (k == 6) (fun h3 => ?_) (fun h3 => ?_)
  ·
   (try simp only [beq_iff_eq, beq_eq_false_iff_ne, ne_eq] at h3)
   refine .br [] (k == 6) (fun h3 => ?_) (fun h3 => ?_)
   ·
    (try simp only [beq_iff_eq, beq_eq_false_iff_ne, ne_eq] at h3)
    have e11 : ((permB p k) : Bool) = (p == 0) := by
     unfold permB; (repeat' split) <;> first | rfl | omega | (exfalso; omega) | (simp_all; done) | (exfalso; simp_all; omega)
    exact .finE [.r []] [] (fun z0 => (VB z0, [])) ((p == 0) : Bool) ((permB p k) : Bool) e11
   ·
    (try simp only [beq_iff_eq, beq_eq_false_iff_ne, ne_eq] at h3)
    refine .br [.r []] (k == 10) (fun h8 => ?_) (fun h8 => ?_)
    ·
     (try simp only [beq_iff_eq, beq_eq_false_iff_ne, ne_eq] at h8)
     have e12 : ((permB p k) : Bool) = (((p == 0) || (p == 1)) || (p == 3)) := by
      unfold permB; (repeat' split) <;> first | rfl | omega | (exfalso; omega) | (simp_all; done) | (exfalso; simp_all; omega)
     exact .finE [.r [(4, Xv 1 (!(p == 0)) X0), (5, X (Xk' (p == 0))), (8, Xv 1 (!((p == 0) || (p == 1))) X0), (9, X (Xk' ((p == 0) || (p == 1))))]] [] (fun z0 => (VB z0, [])) ((((p == 0) || (p == 1)) || (p == 3)) : Bool) ((permB p k) : Bool) e12
    ·
     (try simp only [beq_iff_eq, beq_eq_false_iff_ne, ne_eq] at h8)
     refine .br [.r []] (k == 2) (fun h10 => ?_) (fun h10 => ?_)
     ·
      (try simp only [beq_iff_eq, beq_eq_false_iff_ne, ne_eq] at h10)
      have e13 : ((permB p k) : Bool) = (p == 1) := by
       unfold permB; (repeat' split) <;> first | rfl | omega | (exfalso; omega) | (simp_all; done) | (exfalso; simp_all; omega)
      exact .finE [.r []] [] (fun z0 => (VB z0, [])) ((p == 1) : Bool) ((permB p k) : Bool) e13
     ·
      (try simp only [beq_iff_eq, beq_eq_false_iff_ne, ne_eq] at h10)
      refine .br [.r []] (k == 4) (fun h12 => ?_) (fun h12 => ?_)
      ·
       (try simp only [beq_iff_eq, beq_eq_false_iff_ne, ne_eq] at h12)
       have e14 : ((permB p k) : Bool) = ((p == 1) || (p == 3)) := by
        unfold permB; (repeat' split) <;> first | rfl | omega | (exfalso; omega) | (simp_all; done) | (exfalso; simp_all; omega)
       exact .finE [.r [(4, Xv 1 (!(p == 1)) X0), (5, X (Xk' (p == 1)))]] [] (fun z0 => (VB z0, [])) (((p == 1) || (p == 3)) : Bool) ((permB p k) : Bool) e14
      ·
       (try simp only [beq_iff_eq, beq_eq_false_iff_ne, ne_eq] at h12)
       refine .br [.r []] (k == 5) (fun h14 => ?_) (fun h14 => ?_)
       ·
        (try simp only [beq_iff_eq, beq_eq_false_iff_ne, ne_eq] at h14)
        have e15 : ((permB p k) : Bool) = (hasT p) := by
         unfold permB; (repeat' split) <;> first | rfl | omega | (exfalso; omega) | (simp_all; done) | (exfalso; simp_all; omega)
        exact .finE [.r [(1, X (Xc0 (fc_HasText p) X0))]] [] (fun z0 => (VB z0, [])) ((hasT p) : Bool) ((permB p k) : Bool) e15
       ·
        (try simp only [beq_iff_eq, beq_eq_false_iff_ne, ne_eq] at h14)
        refine .br [.r []] (k == 3) (fun h16 => ?_) (fun h16 => ?_)
        ·
         (try simp only [beq_iff_eq, beq_eq_false_iff_ne, ne_eq] at h16)
         have e16 : ((permB p k) : Bool) = (p == 2) := by
          unfold permB; (repeat' split) <;> first | rfl | omega | (exfalso; omega) | (simp_all; done) | (exfalso; simp_all; omega)
         exact .finE [.r []] [] (fun z0 => (VB z0, [])) ((p == 2) : Bool) ((permB p k) : Bool) e16
        ·
         (try simp only [beq_iff_eq, beq_eq_false_iff_ne, ne_eq] at h16)
         refine .br [.r []] (k == 8) (fun h18 => ?_) (fun h18 => ?_)
         ·
          (try simp only [beq_iff_eq, beq_eq_false_iff_ne, ne_eq] at h18)
          refine .br [] (k == 8) (fun h18 => ?_) (fun h18 => ?_)
          ·
           (try simp only [beq_iff_eq, beq_eq_false_iff_ne, ne_eq] at h18)
           have e17 : ((permB p k) : Bool) = (p == 7) := by
            unfold permB; (repeat' split) <;> first | rfl | omega | (exfalso; omega) | (simp_all; done) | (exfalso; simp_all; omega)
           exact .finE [.r []] [] (fun z0 => (VB z0, [])) ((p == 7) : Bool) ((permB p k) : Bool) e17
          ·
           (try simp only [beq_iff_eq, beq_eq_false_iff_ne, ne_eq] at h18)
           have e18 : ((permB p k) : Bool) = false := by
            unfold permB; (repeat' split) <;> first | rfl | omega | (exfalso; omega) | (simp_all; done) | (exfalso; simp_all; omega)
           exact .finE [.r []] [] (fun z0 => (VB z0, [])) (false : Bool) ((permB p k) : Bool) e18
         ·
          (try simp only [beq_iff_eq, beq_eq_false_iff_ne, ne_eq] at h18)
          refine .br [.r []] (k == 9) (fun h19 => ?_) (fun h19 => ?_)
          ·
           (try simp only [beq_iff_eq, beq_eq_false_iff_ne, ne_eq] at h19)
           have e19 : ((permB p k) : Bool) = (p == 7) := by
            unfold permB; (repeat' split) <;> first | rfl | omega | (exfalso; omega) | (simp_all; done) | (exfalso; simp_all; omega)
           exact .finE [.r []] [] (fun z0 => (VB z0, [])) ((p == 7) : Bool) ((permB p k) : Bool) e19
          ·
           (try simp only [beq_iff_eq, beq_eq_false_iff_ne, ne_eq] at h19)
           have e20 : ((permB p k) : Bool) = false := by
            unfold permB; (repeat' split) <;> first | rfl | omega | (exfalso; omega) | (simp_all; done) | (exfalso; simp_all; omega)
           exact .finE [.r []] [] (fun z0 => (VB z0, [])) (false : Bool) ((permB p k) : Bool) e20
  ·
   (try simp only [beq_iff_eq, beq_eq_false_iff_ne, ne_eq] at h3)
   refine .br [.r []] (k == 7) (fun h4 => ?_) (fun h4 => ?_)
   ·
    (try simp only [beq_iff_eq, beq_eq_false_iff_ne, ne_eq] at h4)
    refine .br [] (k == 7) (fun h4 => ?_) (fun h4 => ?_)
    ·
     (try simp only [beq_iff_eq, beq_eq_false_iff_ne, ne_eq] at h4)
     have e21 : ((permB p k) : Bool) = (p == 0) := by
      unfold permB; (repeat' split) <;> first | rfl | omega | (exfalso; omega) | (simp_all; done) | (exfalso; simp_all; omega)
     exact .finE [.r []] [] (fun z0 => (VB z0, [])) ((p == 0) : Bool) ((permB p k) : Bool) e21
    ·
     (try simp only [beq_iff_eq, beq_eq_false_iff_ne, ne_eq] at h4)
     refine .br [.r []] (k == 10) (fun h8 => ?_) (fun h8 => ?_)
     ·
      (try simp only [beq_iff_eq, beq_eq_false_iff_ne, ne_eq] at h8)
      have e22 : ((permB p k) : Bool) = (((p == 0) || (p == 1)) || (p == 3)) := by
       unfold permB; (repeat' split) <;> first | rfl | omega | (exfalso; omega) | (simp_all; done) | (exfalso; simp_all; omega)
      exact .finE [.r [(4, Xv 1 (!(p == 0)) X0), (5, X (Xk' (p == 0))), (8, Xv 1 (!((p == 0) || (p == 1))) X0), (9, X (Xk' ((p == 0) || (p == 1))))]] [] (fun z0 => (VB z0, [])) ((((p == 0) || (p == 1)) || (p == 3)) : Bool) ((permB p k) : Bool) e22
     ·
      (try simp only [beq_iff_eq, beq_eq_false_iff_ne, ne_eq] at h8)
      refine .br [.r []] (k == 2) (fun h10 => ?_) (fun h10 => ?_)
      ·
       (try simp only [beq_iff_eq, beq_eq_false_iff_ne, ne_eq] at h10)
       have e23 : ((permB p k) : Bool) = (p == 1) := by
        unfold permB; (repeat' split) <;> first | rfl | omega | (exfalso; omega) | (simp_all; done) | (exfalso; simp_all; omega)
       exact .finE [.r []] [] (fun z0 => (VB z0, [])) ((p == 1) : Bool) ((permB p k) : Bool) e23
      ·
       (try simp only [beq_iff_eq, beq_eq_false_iff_ne, ne_eq] at h10)
       refine .br [.r []] (k == 4) (fun h12 => ?_) (fun h12 => ?_)
       ·
        (try simp only [beq_iff_eq, beq_eq_false_iff_ne, ne_eq] at h12)
        have e24 : ((permB p k) : Bool) = ((p == 1) || (p == 3)) := by
         unfold permB; (repeat' split) <;> first | rfl | omega | (exfalso; omega) | (simp_all; done) | (exfalso; simp_all; omega)
        exact .finE [.r [(4, Xv 1 (!(p == 1)) X0), (5, X (Xk' (p == 1)))]] [] (fun z0 => (VB z0, [])) (((p == 1) || (p == 3)) : Bool) ((permB p k) : Bool) e24
       ·
        (try simp only [beq_iff_eq, beq_eq_false_iff_ne, ne_eq] at h12)
        refine .br [.r []] (k == 5) (fun h14 => ?_) (fun h14 => ?_)
        ·
         (try simp only [beq_iff_eq, beq_eq_false_iff_ne, ne_eq] at h14)
         have e25 : ((permB p k) : Bool) = (hasT p) := by
          unfold permB; (repeat' split) <;> first | rfl | omega | (exfalso; omega) | (simp_all; done) | (exfalso; simp_all; omega)
         exact .finE [.r [(1, X (Xc0 (fc_HasText p) X0))]] [] (fun z0 => (VB z0, [])) ((hasT p) : Bool) ((permB p k) : Bool) e25
        ·
         (try simp only [beq_iff_eq, beq_eq_false_iff_ne, ne_eq] at h14)
         refine .br [.r []] (k == 3) (fun h16 => ?_) (fun h16 => ?_)
         ·
          (try simp only [beq_iff_eq, beq_eq_false_iff_ne, ne_eq] at h16)
          have e26 : ((permB p k) : Bool) = (p == 2) := by
           unfold permB; (repeat' split) <;> first | rfl | omega | (exfalso; omega) | (simp_all; done) | (exfalso; simp_all; omega)
          exact .finE [.r []] [] (fun z0 => (VB z0, [])) ((p == 2) : Bool) ((permB p k) : Bool) e26
         ·
          (try simp only [beq_iff_eq, beq_eq_false_iff_ne, ne_eq] at h16)
          refine .br [.r []] (k == 8) (fun h18 => ?_) (fun h18 => ?_)
          ·
           (try simp only [beq_iff_eq, beq_eq_false_iff_ne, ne_eq] at h18)
           refine .br [] (k == 8) (fun h18 => ?_) (fun h18 => ?_)
           ·
            (try simp only [beq_iff_eq, beq_eq_false_iff_ne, ne_eq] at h18)
            have e27 : ((permB p k) : Bool) = (p == 7) := by
             unfold permB; (repeat' split) <;> first | rfl | omega | (exfalso; omega) | (simp_all; done) | (exfalso; simp_all; omega)
            exact .finE [.r []] [] (fun z0 => (VB z0, [])) ((p == 7) : Bool) ((permB p k) : Bool) e27
           ·
            (try simp only [beq_iff_eq, beq_eq_false_iff_ne, ne_eq] at h18)
            have e28 : ((permB p k) : Bool) = false := by
             unfold permB; (repeat' split) <;> first | rfl | omega | (exfalso; omega) | (simp_all; done) | (exfalso; simp_all; omega)
            exact .finE [.r []] [] (fun z0 => (VB z0, [])) (false : Bool) ((permB p k) : Bool) e28
          ·
           (try simp only [beq_iff_eq, beq_eq_false_iff_ne, ne_eq] at h18)
           refine .br [.r []] (k == 9) (fun h19 => ?_) (fun h19 => ?_)
           ·
            (try simp only [beq_iff_eq, beq_eq_false_iff_ne, ne_eq] at h19)
            have e29 : ((permB p k) : Bool) = (p == 7) := by
             unfold permB; (repeat' split) <;> first | rfl | omega | (exfalso; omega) | (simp_all; done) | (exfalso; simp_all; omega)
            exact .finE [.r []] [] (fun z0 => (VB z0, [])) ((p == 7) : Bool) ((permB p k) : Bool) e29
           ·
            (try simp only [beq_iff_eq, beq_eq_false_iff_ne, ne_eq] at h19)
            have e30 : ((permB p k) : Bool) = false := by
             unfold permB; (repeat' split) <;> first | rfl | omega | (exfalso; omega) | (simp_all; done) | (exfalso; simp_all; omega)
            exact .finE [.r []] [] (fun z0 => (VB z0, [])) (false : Bool) ((permB p k) : Bool) e30
   ·
    (try simp only [beq_iff_eq, beq_eq_false_iff_ne, ne_eq] at h4)
    refine .br [.r []] (k == 11) (fun h5 => ?_) (fun h5 => ?_)
    ·
     (try simp only [beq_iff_eq, beq_eq_false_iff_ne, ne_eq] at h5)
     refine .br [] (k == 11) (fun h5 => ?_) (fun h5 => ?_)
     ·
      (try simp only [beq_iff_eq, beq_eq_false_iff_ne, ne_eq] at h5)
      have e31 : ((permB p k) : Bool) = (p == 0) := by
       unfold permB; (repeat' split) <;> first | rfl | omega | (exfalso; omega) | (simp_all; done) | (exfalso; simp_all; omega)
      exact .finE [.r []] [] (fun z0 => (VB z0, [])) ((p == 0) : Bool) ((permB p k) : Bool) e31
     ·
      (try simp only [beq_iff_eq, beq_eq_false_iff_ne, ne_eq] at h5)
      refine .br [.r []] (k == 10) (fun h8 => ?_) (fun h8 => ?_)
      ·
       (try simp only [beq_iff_eq, beq_eq_false_iff_ne, ne_eq] at h8)
       have e32 : ((permB p k) : Bool) = (((p == 0) || (p == 1)) || (p == 3)) := by
        unfold permB; (repeat' split) <;> first | rfl | omega | (exfalso; omega) | (simp_all; done) | (exfalso; simp_all; omega)
       exact .finE [.r [(4, Xv 1 (!(p == 0)) X0), (5, X (Xk' (p == 0))), (8, Xv 1 (!((p == 0) || (p == 1))) X0), (9, X (Xk' ((p == 0) || (p == 1))))]] [] (fun z0 => (VB z0, [])) ((((p == 0) || (p == 1)) || (p == 3)) : Bool) ((permB p k) : Bool) e32
      ·
       (try simp only [beq_iff_eq, beq_eq_false_iff_ne, ne_eq] at h8)
       refine .br [.r []] (k == 2) (fun h10 => ?_) (fun h10 => ?_)
       ·
        (try simp only [beq_iff_eq, beq_eq_false_iff_ne, ne_eq] at h10)
        have e33 : ((permB p k) : Bool) = (p == 1) := by
         unfold permB; (repeat' split) <;> first | rfl | omega | (exfalso; omega) | (simp_all; done) | (exfalso; simp_all; omega)
        exact .finE [.r []] [] (fun z0 => (VB z0, [])) ((p == 1) : Bool) ((permB p k) : Bool) e33
       ·
        (try simp only [beq_iff_eq, beq_eq_false_iff_ne, ne_eq] at h10)
        refine .br [.r []] (k == 4) (fun h12 => ?_) (fun h12 => ?_)
        ·
         (try simp only [beq_iff_eq, beq_eq_false_iff_ne, ne_eq] at h12)
         have e34 : ((permB p k) : Bool) = ((p == 1) || (p == 3)) := by
          unfold permB; (repeat' split) <;> first | rfl | omega | (exfalso; omega) | (simp_all; done) | (exfalso; simp_all; omega)
         exact .finE [.r [(4, Xv 1 (!(p == 1)) X0), (5, X (Xk' (p == 1)))]] [] (fun z0 => (VB z0, [])) (((p == 1) || (p == 3)) : Bool) ((permB p k) : Bool) e34
        ·
         (try simp only [beq_iff_eq, beq_eq_false_iff_ne, ne_eq] at h12)
         refine .br [.r []] (k == 5) (fun h14 => ?_) (fun h14 => ?_)
         ·
          (try simp only [beq_iff_eq, beq_eq_false_iff_ne, ne_eq] at h14)
          have e35 : ((permB p k) : Bool) = (hasT p) := by
           unfold permB; (repeat' split) <;> first | rfl | omega | (exfalso; omega) | (simp_all; done) | (exfalso; simp_all; omega)
          exact .finE [.r [(1, X (Xc0 (fc_HasText p) X0))]] [] (fun z0 => (VB z0, [])) ((hasT p) : Bool) ((permB p k) : Bool) e35
         ·
          (try simp only [beq_iff_eq, beq_eq_false_iff_ne, ne_eq] at h14)
          refine .br [.r []] (k == 3) (fun h16 => ?_) (fun h16 => ?_)
          ·
           (try simp only [beq_iff_eq, beq_eq_false_iff_ne, ne_eq] at h16)
           have e36 : ((permB p k) : Bool) = (p == 2) := by
            unfold permB; (repeat' split) <;> first | rfl | omega | (exfalso; omega) | (simp_all; done) | (exfalso; simp_all; omega)
           exact .finE [.r []] [] (fun z0 => (VB z0, [])) ((p == 2) : Bool) ((permB p k) : Bool) e36
          ·
           (try simp only [beq_iff_eq, beq_eq_false_iff_ne, ne_eq] at h16)
           refine .br [.r []] (k == 8) (fun h18 => ?_) (fun h18 => ?_)
           ·
            (try simp only [beq_iff_eq, beq_eq_false_iff_ne, ne_eq] at h18)
            refine .br [] (k == 8) (fun h18 => ?_) (fun h18 => ?_)
            ·
             (try simp only [beq_iff_eq, beq_eq_false_iff_ne, ne_eq] at h18)
             have e37 : ((permB p k) : Bool) = (p == 7) := by
              unfold permB; (repeat' split) <;> first | rfl | omega | (exfalso; omega) | (simp_all; done) | (exfalso; simp_all; omega)
             exact .finE [.r []] [] (fun z0 => (VB z0, [])) ((p == 7) : Bool) ((permB p k) : Bool) e37
            ·
             (try simp only [beq_iff_eq, beq_eq_false_iff_ne, ne_eq] at h18)
             have e38 : ((permB p k) : Bool) = false := by
              unfold permB; (repeat' split) <;> first | rfl | omega | (exfalso; omega) | (simp_all; done) | (exfalso; simp_all; omega)
             exact .finE [.r []] [] (fun z0 => (VB z0, [])) (false : Bool) ((permB p k) : Bool) e38
           ·
            (try simp only [beq_iff_eq, beq_eq_false_iff_ne, ne_eq] at h18)
            refine .br [.r []] (k == 9) (fun h19 => ?_) (fun h19 => ?_)
            ·
             (try simp only [beq_iff_eq, beq_eq_false_iff_ne, ne_eq] at h19)
             have e39 : ((permB p k) : Bool) = (p == 7) := by
              unfold permB; (repeat' split) <;> first | rfl | omega | (exfalso; omega) | (simp_all; done) | (exfalso; simp_all; omega)
             exact .finE [.r []] [] (fun z0 => (VB z0, [])) ((p == 7) : Bool) ((permB p k) : Bool) e39
            ·
             (try simp only [beq_iff_eq, beq_eq_false_iff_ne, ne_eq] at h19)
             have e40 : ((permB p k) : Bool) = false := by
              unfold permB; (repeat' split) <;> first | rfl | omega | (exfalso; omega) | (simp_all; done) | (exfalso; simp_all; omega)
             exact .finE [.r []] [] (fun z0 => (VB z0, [])) (false : Bool) ((permB p k) : Bool) e40
    ·
     (try simp only [beq_iff_eq, beq_eq_false_iff_ne, ne_eq] at h5)
     refine .br [.r []] (k == 12) (fun h6 => ?_) (fun h6 => ?_)
     ·
      (try simp only [beq_iff_eq, beq_eq_false_iff_ne, ne_eq] at h6)
      have e41 : ((permB p k) : Bool) = (p == 0) := by
       unfold permB; (repeat' split) <;> first | rfl | omega | (exfalso; omega) | (simp_all; done) | (exfalso; simp_all; omega)
      exact .finE [.r []] [] (fun z0 => (VB z0, [])) ((p == 0) : Bool) ((permB p k) : Bool) e41
     ·
      (try simp only [beq_iff_eq, beq_eq_false_iff_ne, ne_eq] at h6)
      refine .br [.r []] (k == 10) (fun h8 => ?_) (fun h8 => ?_)
      ·
       (try simp only [beq_iff_eq, beq_eq_false_iff_ne, ne_eq] at h8)
       have e42 : ((permB p k) : Bool) = (((p == 0) || (p == 1)) || (p == 3)) := by
        unfold permB; (repeat' split) <;> first | rfl | omega | (exfalso; omega) | (simp_all; done) | (exfalso; simp_all; omega)
       exact .finE [.r [(4, Xv 1 (!(p == 0)) X0), (5, X (Xk' (p == 0))), (8, Xv 1 (!((p == 0) || (p == 1))) X0), (9, X (Xk' ((p == 0) || (p == 1))))]] [] (fun z0 => (VB z0, [])) ((((p == 0) || (p == 1)) || (p == 3)) : Bool) ((permB p k) : Bool) e42
      ·
       (try simp only [beq_iff_eq, beq_eq_false_iff_ne, ne_eq] at h8)
       refine .br [.r []] (k == 2) (fun h10 => ?_) (fun h10 => ?_)
       ·
        (try simp only [beq_iff_eq, beq_eq_false_iff_ne, ne_eq] at h10)
        have e43 : ((permB p k) : Bool) = (p == 1) := by
         unfold permB; (repeat' split) <;> first | rfl | omega | (exfalso; omega) | (simp_all; done) | (exfalso; simp_all; omega)
        exact .finE [.r []] [] (fun z0 => (VB z0, [])) ((p == 1) : Bool) ((permB p k) : Bool) e43
       ·
        (try simp only [beq_iff_eq, beq_eq_false_iff_ne, ne_eq] at h10)
        refine .br [.r []] (k == 4) (fun h12 => ?_) (fun h12 => ?_)
        ·
         (try simp only [beq_iff_eq, beq_eq_false_iff_ne, ne_eq] at h12)
         have e44 : ((permB p k) : Bool) = ((p == 1) || (p == 3)) := by
          unfold permB; (repeat' split) <;> first | rfl | omega | (exfalso; omega) | (simp_all; done) | (exfalso; simp_all; omega)
         exact .finE [.r [(4, Xv 1 (!(p == 1)) X0), (5, X (Xk' (p == 1)))]] [] (fun z0 => (VB z0, [])) (((p == 1) || (p == 3)) : Bool) ((permB p k) : Bool) e44
        ·
         (try simp only [beq_iff_eq, beq_eq_false_iff_ne, ne_eq] at h12)
         refine .br [.r []] (k == 5) (fun h14 => ?_) (fun h14 => ?_)
         ·
          (try simp only [beq_iff_eq, beq_eq_false_iff_ne, ne_eq] at h14)
          have e45 : ((permB p k) : Bool) = (hasT p) := by
           unfold permB; (repeat' split) <;> first | rfl | omega | (exfalso; omega) | (simp_all; done) | (exfalso; simp_all; omega)
          exact .finE [.r [(1, X (Xc0 (fc_HasText p) X0))]] [] (fun z0 => (VB z0, [])) ((hasT p) : Bool) ((permB p k) : Bool) e45
         ·
          (try simp only [beq_iff_eq, beq_eq_false_iff_ne, ne_eq] at h14)
          refine .br [.r []] (k == 3) (fun h16 => ?_) (fun h16 => ?_)
          ·
           (try simp only [beq_iff_eq, beq_eq_false_iff_ne, ne_eq] at h16)
           have e46 : ((permB p k) : Bool) = (p == 2) := by
            unfold permB; (repeat' split) <;> first | rfl | omega | (exfalso; omega) | (simp_all; done) | (exfalso; simp_all; omega)
           exact .finE [.r []] [] (fun z0 => (VB z0, [])) ((p == 2) : Bool) ((permB p k) : Bool) e46
          ·
           (try simp only [beq_iff_eq, beq_eq_false_iff_ne, ne_eq] at h16)
           refine .br [.r []] (k == 8) (fun h18 => ?_) (fun h18 => ?_)
           ·
            (try simp only [beq_iff_eq, beq_eq_false_iff_ne, ne_eq] at h18)
            refine .br [] (k == 8) (fun h18 => ?_) (fun h18 => ?_)
            ·
             (try simp only [beq_iff_eq, beq_eq_false_iff_ne, ne_eq] at h18)
             have e47 : ((permB p k) : Bool) = (p == 7) := by
              unfold permB; (repeat' split) <;> first | rfl | omega | (exfalso; omega) | (simp_all; done) | (exfalso; simp_all; omega)
             exact .finE [.r []] [] (fun z0 => (VB z0, [])) ((p == 7) : Bool) ((permB p k) : Bool) e47
            ·
             (try simp only [beq_iff_eq, beq_eq_false_iff_ne, ne_eq] at h18)
             have e48 : ((permB p k) : Bool) = false := by
              unfold permB; (repeat' split) <;> first | rfl | omega | (exfalso; omega) | (simp_all; done) | (exfalso; simp_all; omega)
             exact .finE [.r []] [] (fun z0 => (VB z0, [])) (false : Bool) ((permB p k) : Bool) e48
           ·
            (try simp only [beq_iff_eq, beq_eq_false_iff_ne, ne_eq] at h18)
            refine .br [.r []] (k == 9) (fun h19 => ?_) (fun h19 => ?_)
            ·
             (try simp only [beq_iff_eq, beq_eq_false_iff_ne, ne_eq] at h19)
             have e49 : ((permB p k) : Bool) = (p == 7) := by
              unfold permB; (repeat' split) <;> first | rfl | omega | (exfalso; omega) | (simp_all; done) | (exfalso; simp_all; omega)
             exact .finE [.r []] [] (fun z0 => (VB z0, [])) ((p == 7) : Bool) ((permB p k) : Bool) e49
            ·
             (try simp only [beq_iff_eq, beq_eq_false_iff_ne, ne_eq] at h19)
             have e50 : ((permB p k) : Bool) = false := by
              unfold permB; (repeat' split) <;> first | rfl | omega | (exfalso; omega) | (simp_all; done) | (exfalso; simp_all; omega)
             exact .finE [.r []] [] (fun z0 => (VB z0, [])) (false : Bool) ((permB p k) : Bool) e50

theorem fc_cellK (k : Int) (l : List Cell) : FC Tryz.prog 69 [VI k, VL 5 cellT l] (app emp []) (VI (cellK k l 0)) (app emp []) := by
 refine .go Tryz.f69 ?_
 refine .len 1 (fun hl1 => ?_)
 refine .loop (α := Nat) [.r [], .r [(1, X (Xl cellT l))]] 32 (fun i => ([(0, VI k), (1, VL 5 cellT l), (7, VI (l.length : Int)), (8, VI (i : Int))], [])) (fun i => i ≤ l.length ∧ cellK k l 0 = cellK k l i) (fun i => l.length - i) (0 : Nat) ?_ ?_
 ·
  exact ⟨by omega, rfl⟩
 rintro i I2 ih2
 try dsimp only at I2
 refine .br [.r []] (decide ((i : Int) < (l.length : Int))) (fun h2 => ?_) (fun h2 => ?_)
 ·
  (try simp only [decide_eq_true_eq, decide_eq_false_iff_not, Int.not_lt, Int.not_le] at h2)
  refine .br [.r [], .r [(5, Xv 2 (k == 2) (Xi cellT l (i : Int))), (6, Xv 1 (k == 2) X0), (7, Xv 1 (k == 2) X0), (8, Xv 1 (k == 2) X0), (9, Xv 1 (k == 2) X0), (12, Xv 2 ((k == 2) && !(!(seq (((l.getD i default)).text) ({ data := #[] })))) (Xi cellT l (i : Int))), (13, Xv 1 ((k == 2) && !(!(seq (((l.getD i default)).text) ({ data := #[] })))) X0), (14, Xv 1 ((k == 2) && !(!(seq (((l.getD i default)).text) ({ data := #[] })))) X0), (15, Xv 1 ((k == 2) && !(!(seq (((l.getD i default)).text) ({ data := #[] })))) (Xl attrT (((l.getD i default)).attrs))), (16, Xv 1 ((k == 2) && !(!(seq (((l.getD i default)).text) ({ data := #[] })))) X0), (17, Xko (k == 2) (!(seq (((l.getD i default)).text) ({ data := #[] })))), (18, X (Xk (k == 2))), (21, Xv 1 (!((k == 2) && (!(seq (((l.getD i default)).text) ({ data := #[] })) || decide (((((l.getD i default)).attrs).length : Int) > 0)))) X0), (22, Xv 1 (!((k == 2) && (!(seq (((l.getD i default)).text) ({ data := #[] })) || decide (((((l.getD i default)).attrs).length : Int) > 0)))) X0), (25, Xv 2 ((!((k == 2) && (!(seq (((l.getD i default)).text) ({ data := #[] })) || decide (((((l.getD i default)).attrs).length : Int) > 0)))) && (k == 6)) (Xi cellT l (i : Int))), (26, Xv 1 ((!((k == 2) && (!(seq (((l.getD i default)).text) ({ data := #[] })) || decide (((((l.getD i default)).attrs).length : Int) > 0)))) && (k == 6)) X0), (27, Xv 1 ((!((k == 2) && (!(seq (((l.getD i default)).text) ({ data := #[] })) || decide (((((l.getD i default)).attrs).length : Int) > 0)))) && (k == 6)) X0), (28, Xv 1 ((!((k == 2) && (!(seq (((l.getD i default)).text) ({ data := #[] })) || decide (((((l.getD i default)).attrs).length : Int) > 0)))) && (k == 6)) X0), (29, Xka (!((k == 2) && (!(seq (((l.getD i default)).text) ({ data := #[] })) || decide (((((l.getD i default)).attrs).length : Int) > 0)))) (k == 6)), (30, X (Xk' ((k == 2) && (!(seq (((l.getD i default)).text) ({ data := #[] })) || decide (((((l.getD i default)).attrs).length : Int) > 0)))))]] (((k == 2) && (!(seq (((l.getD i default)).text) ({ data := #[] })) || decide (((((l.getD i default)).attrs).length : Int) > 0))) || ((k == 6) && ((((l.getD i default)).ref) != 0))) (fun h4 => ?_) (fun h4 => ?_)
  ·
   (try simp only [decide_eq_true_eq, decide_eq_false_iff_not, Int.not_lt, Int.not_le, gt_iff_lt, Bool.not_eq_true', Bool.not_eq_false', Bool.and_eq_true, Bool.and_eq_false_iff, Bool.or_eq_true, Bool.or_eq_false_iff, beq_iff_eq, beq_eq_false_iff_ne, ne_eq, bne_iff_ne, bne_eq_false_iff_eq] at h4)
   have e1 : ((cellK k l 0) : Int) = 4 := by
    rw [I2.2, cellK, if_pos (by omega), if_pos]
    exact h4.imp (fun q => ⟨q.1, q.2.imp id (fun z => by omega)⟩) id
   exact .finE [.r []] [] (fun z0 => (VI z0, [])) (4 : Int) ((cellK k l 0) : Int) e1
  ·
   (try simp only [decide_eq_true_eq, decide_eq_false_iff_not, Int.not_lt, Int.not_le, gt_iff_lt, Bool.not_eq_true', Bool.not_eq_false', Bool.and_eq_true, Bool.and_eq_false_iff, Bool.or_eq_true, Bool.or_eq_false_iff, beq_iff_eq, beq_eq_false_iff_ne, ne_eq, bne_iff_ne, bne_eq_false_iff_eq] at h4)
   refine .back [.r [(0, X (Xn ((i : Int) + 1)))]] [] (ih2 ((i + 1) : Nat) ?_ ?_)
   ·
    refine ⟨by omega, ?_⟩
    rw [I2.2, cellK, if_pos (by omega), if_neg]
    rintro (⟨a, b | b⟩ | ⟨a, b⟩)
    · rcases h4.1 with q | q
      · exact q a
      · rw [q.1] at b; cases b
    · rcases h4.1 with q | q
      · exact q a
      · omega
    · rcases h4.2 with q | q
      · exact q a
      · exact b q
   ·
    ((try dsimp only); omega)
 ·
  (try simp only [decide_eq_true_eq, decide_eq_false_iff_not, Int.not_lt, Int.not_le] at h2)
  have e2 : ((cellK k l 0) : Int) = 0 := by
   rw [I2.2, cellK, if_neg (by omega)]
  exact .finE [.r []] [] (fun z0 => (VI z0, [])) (0 : Int) ((cellK k l 0) : Int) e2
end Go.Ch
end
section
set_option linter.unusedVariables false
set_option linter.unusedSimpArgs false
set_option maxRecDepth 100000
set_option maxHeartbeats 4000000
open Go Go.Proofs Go.Ab
namespace Go.Ch
theorem fc_flowCheckX (f : List Elem) (t : Bool) : FC Tryz.prog 87 [VL 3 elemT f, VB t] (app emp []) (VI (flowZ t f)) (app emp []) := by
 refine .go Tryz.f87 ?_
 refine .len 0 (fun hl0 => ?_)
 refine .loop (α := Nat) [.r [], .r [(1, X (Xl elemT f))]] 32 (fun i => ([(0, VL 3 elemT f), (1, VB t), (8, VL 3 elemT f), (9, VI (f.length : Int)), (10, VI (i : Int))], [])) (fun i => i ≤ f.length ∧ flowX t f 0 = flowX t f i) (fun i => f.length - i) (0 : Nat) ?_ ?_
 ·
  exact ⟨by omega, rfl⟩
 rintro i I2 ih2
 try dsimp only at I2
 refine .br [.r []] (decide ((i : Int) < (f.length : Int))) (fun h2 => ?_) (fun h2 => ?_)
 ·
  (try simp only [decide_eq_true_eq, decide_eq_false_iff_not, Int.not_lt, Int.not_le] at h2)
  refine .br [.r [(0, X (Xi elemT f (i : Int)))], .r [(1, X (Xc0 (fc_elem ((f.getD i default))) X0))], .r []] ((elemE ((f.getD i default))) != 0) (fun h5 => ?_) (fun h5 => ?_)
  ·
   (try simp only [bne_iff_ne, bne_eq_false_iff_eq, ne_eq] at h5)
   have e1 : ((flowZ t f) : Int) = (elemE ((f.getD i default))) := by
    exact flowZ_bad (I2.2.trans (flowX_bad (by omega) (by omega))) (by omega)
   exact .finE [.r []] [] (fun z0 => (VI z0, [])) ((elemE ((f.getD i default))) : Int) ((flowZ t f) : Int) e1
  ·
   (try simp only [bne_iff_ne, bne_eq_false_iff_eq, ne_eq] at h5)
   refine .br [.r [(4, Xv 1 (!t) X0), (5, Xv 1 (!t) X0), (6, X (Xk (!t)))]] (!t && ((((f.getD i default)).ref) == 0)) (fun h7 => ?_) (fun h7 => ?_)
   ·
    (try simp only [Bool.not_eq_true', Bool.not_eq_false', Bool.and_eq_true, Bool.and_eq_false_iff, beq_iff_eq, beq_eq_false_iff_ne, ne_eq] at h7)
    have e2 : ((flowZ t f) : Int) = 8 := by
     exact flowZ_bad (I2.2.trans (flowX_kind (by omega) (by omega) h7)) (by decide)
    exact .finE [.r []] [] (fun z0 => (VI z0, [])) (8 : Int) ((flowZ t f) : Int) e2
   ·
    (try simp only [Bool.not_eq_true', Bool.not_eq_false', Bool.and_eq_true, Bool.and_eq_false_iff, beq_iff_eq, beq_eq_false_iff_ne, ne_eq] at h7)
    refine .back [.r [(0, X (Xn ((i : Int) + 1)))]] [] (ih2 ((i + 1) : Nat) ?_ ?_)
    ·
     exact ⟨by omega, I2.2.trans (flowX_next (by omega) (by omega) h7)⟩
    ·
     ((try dsimp only); omega)
 ·
  (try simp only [decide_eq_true_eq, decide_eq_false_iff_not, Int.not_lt, Int.not_le] at h2)
  refine .br [.r [(3, Xv 1 t (Xl elemT f)), (4, Xv 1 t X0), (5, Xv 1 t X0), (8, Xv 1 (t && !((f.length : Int) == 0)) (Xl elemT f)), (9, Xv 1 (t && !((f.length : Int) == 0)) (Xn ((f.length : Int) - 1))), (10, Xv 2 (t && !((f.length : Int) == 0)) (Xi' elemT f ((f.length : Int) - 1) (f.length - 1)) (fun hg => by (try simp only [Bool.not_eq_true', Bool.not_eq_false', Bool.and_eq_true, Bool.and_eq_false_iff, beq_iff_eq, beq_eq_false_iff_ne, ne_eq] at hg); exact ⟨(by omega), (by omega)⟩)), (11, Xv 1 (t && !((f.length : Int) == 0)) X0), (12, Xv 1 (t && !((f.length : Int) == 0)) X0), (13, Xv 1 (t && !((f.length : Int) == 0)) X0), (14, Xko t ((f.length : Int) == 0)), (15, X (Xk t))]] (t && (((f.length : Int) == 0) || ((((f.getD (f.length - 1) default)).char) != 10))) (fun h10 => ?_) (fun h10 => ?_)
  ·
   (try simp only [Bool.and_eq_true, Bool.and_eq_false_iff, Bool.not_eq_true', Bool.not_eq_false', Bool.or_eq_true, Bool.or_eq_false_iff, beq_iff_eq, beq_eq_false_iff_ne, ne_eq, bne_iff_ne, bne_eq_false_iff_eq] at h10)
   have e3 : ((flowZ t f) : Int) = 11 := by
    rw [flowZ_end (I2.2.trans (flowX_end (by omega))), if_pos (by refine ⟨h10.1, ?_⟩; rcases h10.2 with h | h; (left; omega); (right; exact h))]
   exact .finE [.r []] [] (fun z0 => (VI z0, [])) (11 : Int) ((flowZ t f) : Int) e3
  ·
   (try simp only [Bool.and_eq_true, Bool.and_eq_false_iff, Bool.not_eq_true', Bool.not_eq_false', Bool.or_eq_true, Bool.or_eq_false_iff, beq_iff_eq, beq_eq_false_iff_ne, ne_eq, bne_iff_ne, bne_eq_false_iff_eq] at h10)
   have e4 : ((flowZ t f) : Int) = 0 := by
    rw [flowZ_end (I2.2.trans (flowX_end (by omega))), if_neg (by rintro ⟨q1, q2⟩; rcases h10 with h | h; (rw [q1] at h; cases h); (rcases q2 with q | q; (omega); (exact q h.2)))]
   exact .finE [.r []] [] (fun z0 => (VI z0, [])) (0 : Int) ((flowZ t f) : Int) e4

theorem fc_flowErrorX (f : List Elem) (t : Bool) (hz : SzE f) : FC Tryz.prog 67 [VL 3 elemT f, VB t] (app emp []) (VI (flowZ t f)) (app emp []) := by
 refine .go Tryz.f67 ?_
 refine .len 0 (fun hl0 => ?_)
 refine .loop (α := Nat) [.r [], .r [(1, X (Xl elemT f))]] 32 (fun i => ([(0, VL 3 elemT f), (1, VB t), (8, VI (f.length : Int)), (9, VI (i : Int))], [])) (fun i => i ≤ f.length ∧ flowX t f 0 = flowX t f i) (fun i => f.length - i) (0 : Nat) ?_ ?_
 ·
  exact ⟨by omega, rfl⟩
 rintro i I2 ih2
 try dsimp only at I2
 refine .br [.r []] (decide ((i : Int) < (f.length : Int))) (fun h2 => ?_) (fun h2 => ?_)
 ·
  (try simp only [decide_eq_true_eq, decide_eq_false_iff_not, Int.not_lt, Int.not_le] at h2)
  have hx := hz _ (getDE_mem (l := f) (k := i) (by omega))
  refine .br [.r [], .r [(2, X (Xi elemT f (i : Int))), (4, X (Xc0 (fc_elemError ((f.getD i default)) (by assumption)) X0))], .r []] ((elemE ((f.getD i default))) != 0) (fun h5 => ?_) (fun h5 => ?_)
  ·
   (try simp only [bne_iff_ne, bne_eq_false_iff_eq, ne_eq] at h5)
   have e1 : ((flowZ t f) : Int) = (elemE ((f.getD i default))) := by
    exact flowZ_bad (I2.2.trans (flowX_bad (by omega) (by omega))) (by omega)
   exact .finE [.r []] [] (fun z0 => (VI z0, [])) ((elemE ((f.getD i default))) : Int) ((flowZ t f) : Int) e1
  ·
   (try simp only [bne_iff_ne, bne_eq_false_iff_eq, ne_eq] at h5)
   refine .br [.r [(5, Xv 2 (!t) (Xi elemT f (i : Int))), (6, Xv 1 (!t) X0), (7, Xv 1 (!t) X0), (8, Xv 1 (!t) X0), (9, X (Xk (!t)))]] (!t && ((((f.getD i default)).char) != 0)) (fun h7 => ?_) (fun h7 => ?_)
   ·
    (try simp only [Bool.not_eq_true', Bool.not_eq_false', Bool.and_eq_true, Bool.and_eq_false_iff, bne_iff_ne, bne_eq_false_iff_eq, ne_eq] at h7)
    have e2 : ((flowZ t f) : Int) = 8 := by
     have hc := elem_cr h5
     exact flowZ_bad (I2.2.trans (flowX_kind (by omega) (by omega) ⟨h7.1, hc.1 h7.2⟩)) (by decide)
    exact .finE [.r []] [] (fun z0 => (VI z0, [])) (8 : Int) ((flowZ t f) : Int) e2
   ·
    (try simp only [Bool.not_eq_true', Bool.not_eq_false', Bool.and_eq_true, Bool.and_eq_false_iff, bne_iff_ne, bne_eq_false_iff_eq, ne_eq] at h7)
    refine .back [.r [(0, X (Xn ((i : Int) + 1)))]] [] (ih2 ((i + 1) : Nat) ?_ ?_)
    ·
     have hc := elem_cr h5
     exact ⟨by omega, I2.2.trans (flowX_next (by omega) (by omega) (h7.imp id (fun q a => (hc.2 a) q)))⟩
    ·
     ((try dsimp only); omega)
 ·
  (try simp only [decide_eq_true_eq, decide_eq_false_iff_not, Int.not_lt, Int.not_le] at h2)
  refine .br [.r [(3, Xv 1 t (Xl elemT f)), (4, Xv 1 t X0), (5, Xv 1 t X0), (8, Xv 1 (t && !((f.length : Int) == 0)) (Xl elemT f)), (9, Xv 1 (t && !((f.length : Int) == 0)) (Xn ((f.length : Int) - 1))), (10, Xv 2 (t && !((f.length : Int) == 0)) (Xi' elemT f ((f.length : Int) - 1) (f.length - 1)) (fun hg => by (try simp only [Bool.not_eq_true', Bool.not_eq_false', Bool.and_eq_true, Bool.and_eq_false_iff, beq_iff_eq, beq_eq_false_iff_ne, ne_eq] at hg); exact ⟨(by omega), (by omega)⟩)), (11, Xv 1 (t && !((f.length : Int) == 0)) X0), (12, Xv 1 (t && !((f.length : Int) == 0)) X0), (13, Xv 1 (t && !((f.length : Int) == 0)) X0), (14, Xko t ((f.length : Int) == 0)), (15, X (Xk t))]] (t && (((f.length : Int) == 0) || ((((f.getD (f.length - 1) default)).char) != 10))) (fun h10 => ?_) (fun h10 => ?_)
  ·
   (try simp only [Bool.and_eq_true, Bool.and_eq_false_iff, Bool.not_eq_true', Bool.not_eq_false', Bool.or_eq_true, Bool.or_eq_false_iff, beq_iff_eq, beq_eq_false_iff_ne, ne_eq, bne_iff_ne, bne_eq_false_iff_eq] at h10)
   have e3 : ((flowZ t f) : Int) = 11 := by
    rw [flowZ_end (I2.2.trans (flowX_end (by omega))), if_pos (by refine ⟨h10.1, ?_⟩; rcases h10.2 with h | h; (left; omega); (right; exact h))]
   exact .finE [.r []] [] (fun z0 => (VI z0, [])) (11 : Int) ((flowZ t f) : Int) e3
  ·
   (try simp only [Bool.and_eq_true, Bool.and_eq_false_iff, Bool.not_eq_true', Bool.not_eq_false', Bool.or_eq_true, Bool.or_eq_false_iff, beq_iff_eq, beq_eq_false_iff_ne, ne_eq, bne_iff_ne, bne_eq_false_iff_eq] at h10)
   have e4 : ((flowZ t f) : Int) = 0 := by
    rw [flowZ_end (I2.2.trans (flowX_end (by omega))), if_neg (by rintro ⟨q1, q2⟩; rcases h10 with h | h; (rw [q1] at h; cases h); (rcases q2 with q | q; (omega); (exact q h.2)))]
   exact .finE [.r []] [] (fun z0 => (VI z0, [])) (0 : Int) ((flowZ t f) : Int) e4

theorem fc_placeR (s : ByteArray) (hs : s.size ≤ 9223372036854775807) : FC Tryz.prog 108 [VS s] (app emp []) (VB (placeB s)) (app emp []) := by
 refine .go Tryz.f108 ?_
 refine .loop (α := Nat) [.r [], .r []] 32 (fun i => ([(0, VS s), (5, VI (s.size : Int)), (6, VI (i : Int))], [])) (fun i => i ≤ s.size ∧ plS s 0 = plS s i) (fun i => s.size - i) (0 : Nat) ?_ ?_
 ·
  exact ⟨by omega, rfl⟩
 rintro i I2 ih2
 try dsimp only at I2
 refine .br [.r []] (decide ((i : Int) < (s.size : Int))) (fun h2 => ?_) (fun h2 => ?_)
 ·
  (try simp only [decide_eq_true_eq, decide_eq_false_iff_not, Int.not_lt, Int.not_le] at h2)
  refine .br [.r [], .r [(2, X (Xb s (i : Int))), (7, Xv 2 (!(decide (((((s[i]?).getD 0).toNat : Nat) : Int) < 97))) (Xb s (i : Int))), (8, Xv 1 (!(decide (((((s[i]?).getD 0).toNat : Nat) : Int) < 97))) X0), (9, X (Xk' (decide (((((s[i]?).getD 0).toNat : Nat) : Int) < 97))))]] (decide (((((s[i]?).getD 0).toNat : Nat) : Int) < 97) || decide (((((s[i]?).getD 0).toNat : Nat) : Int) > 122)) (fun h4 => ?_) (fun h4 => ?_)
  ·
   (try simp only [decide_eq_true_eq, decide_eq_false_iff_not, Int.not_lt, Int.not_le, gt_iff_lt, Bool.or_eq_true, Bool.or_eq_false_iff] at h4)
   have e1 : ((placeB s) : Bool) = false := by
    simp only [byt0] at h4; unfold placeB; rw [I2.2, plS, if_pos (by omega), if_pos (by omega)]; simp
   exact .finE [.r []] [] (fun z0 => (VB z0, [])) (false : Bool) ((placeB s) : Bool) e1
  ·
   (try simp only [decide_eq_true_eq, decide_eq_false_iff_not, Int.not_lt, Int.not_le, gt_iff_lt, Bool.or_eq_true, Bool.or_eq_false_iff] at h4)
   refine .back [.r [(0, X (Xn ((i : Int) + 1)))]] [] (ih2 ((i + 1) : Nat) ?_ ?_)
   ·
    simp only [byt0] at h4; refine ⟨by omega, ?_⟩; rw [I2.2, plS, if_pos (by omega), if_neg (by omega)]
   ·
    ((try dsimp only); omega)
 ·
  (try simp only [decide_eq_true_eq, decide_eq_false_iff_not, Int.not_lt, Int.not_le] at h2)
  have e2 : ((placeB s) : Bool) = ((decide ((s.size : Int) ≥ 1) && decide ((s.size : Int) ≤ 200)) && (((((s[(Int.toNat ((s.size : Int) - 1))]?).getD 0).toNat : Nat) : Int) != 97)) := by
   unfold placeB; rw [I2.2, plS, if_neg (by omega), Bool.eq_iff_iff]; simp only [byt0, Bool.and_true, Bool.and_eq_true, decide_eq_true_eq, bne_iff_ne, ne_eq, show ((s.size : Int) - 1).toNat = s.size - 1 by omega]; omega
  exact .finE [.r [(5, Xv 1 (decide ((s.size : Int) ≥ 1)) X0), (6, Xv 1 (decide ((s.size : Int) ≥ 1)) X0), (7, X (Xk (decide ((s.size : Int) ≥ 1)))), (11, Xv 1 (decide ((s.size : Int) ≥ 1) && decide ((s.size : Int) ≤ 200)) X0), (12, Xv 1 (decide ((s.size : Int) ≥ 1) && decide ((s.size : Int) ≤ 200)) (Xn ((s.size : Int) - 1))), (13, Xv 2 (decide ((s.size : Int) ≥ 1) && decide ((s.size : Int) ≤ 200)) (Xb s ((s.size : Int) - 1)) (fun hg => by (try simp only [decide_eq_true_eq, decide_eq_false_iff_not, Int.not_lt, Int.not_le, ge_iff_le, Bool.and_eq_true, Bool.and_eq_false_iff, Bool.not_eq_true', Bool.not_eq_false'] at hg); exact ⟨(by omega), (by omega)⟩)), (14, Xv 1 (decide ((s.size : Int) ≥ 1) && decide ((s.size : Int) ≤ 200)) X0), (15, X (Xk (decide ((s.size : Int) ≥ 1) && decide ((s.size : Int) ≤ 200))))]] [] (fun z0 => (VB z0, [])) (((decide ((s.size : Int) ≥ 1) && decide ((s.size : Int) ≤ 200)) && (((((s[(Int.toNat ((s.size : Int) - 1))]?).getD 0).toNat : Nat) : Int) != 97)) : Bool) ((placeB s) : Bool) e2
end Go.Ch
end
section
set_option linter.unusedVariables false
namespace Go.Ch
open Go Go.Ab

def SortN (l : List Node) : Prop := ∀ p q, p < q → q < l.length → (l.getD p default).id < (l.getD q default).id
def cmpN9 (n : Node) (k : Int) : Int := if n.id < k then -1 else if n.id > k then 1 else 0
def lobN (l : List Node) (k : Int) : Nat := (l.takeWhile (fun n => decide (n.id < k))).length
theorem lobN_all : ∀ (l : List Node) (k : Int), lobN l k ≤ l.length ∧ (∀ i, i < lobN l k → (l.getD i default).id < k) ∧ (lobN l k < l.length → ¬ (l.getD (lobN l k) default).id < k)
  | [], k => ⟨Nat.zero_le _, fun i hi => absurd hi (by simp [lobN]), fun h => absurd h (by simp [lobN])⟩
  | c :: l, k => by
    obtain ⟨h1, h2, h3⟩ := lobN_all l k
    by_cases hc : c.id < k
    · have e : lobN (c :: l) k = lobN l k + 1 := by unfold lobN; rw [List.takeWhile_cons, if_pos (decide_eq_true hc)]; rfl
      rw [e]
      refine ⟨by simp; omega, fun i hi => ?_, fun h => ?_⟩
      · cases i with
        | zero => exact hc
        | succ i => exact h2 i (by omega)
      · exact h3 (by simpa using h)
    · have e : lobN (c :: l) k = 0 := by unfold lobN; rw [List.takeWhile_cons, if_neg (by simpa using hc)]; rfl
      rw [e]
      exact ⟨Nat.zero_le _, fun i hi => absurd hi (by omega), fun _ => hc⟩
theorem lobN_lt {l : List Node} {k : Int} {m : Nat} (hs : SortN l) (hm : m < l.length) (h : (l.getD m default).id < k) : m < lobN l k := by
  obtain ⟨h1, h2, h3⟩ := lobN_all l k
  apply Classical.byContradiction; intro q
  have h4 := h3 (by omega)
  by_cases e : lobN l k = m
  · rw [e] at h4; exact h4 h
  · have h5 := hs (lobN l k) m (by omega) hm
    omega
theorem lobN_ge {l : List Node} {k : Int} {m : Nat} (h : ¬ (l.getD m default).id < k) : lobN l k ≤ m := by
  obtain ⟨h1, h2, h3⟩ := lobN_all l k
  apply Classical.byContradiction; intro q
  exact h (h2 m (by omega))
def hasN (l : List Node) (k : Int) : Bool := decide ((lobN l k : Int) < (l.length : Int)) && (cmpN9 (l.getD (lobN l k) default) k == 0)
theorem cmpN9_lt {n : Node} {k : Int} : cmpN9 n k < 0 ↔ n.id < k := by unfold cmpN9; split <;> (try split) <;> omega
theorem cmpN9_eq {n : Node} {k : Int} : cmpN9 n k = 0 ↔ n.id = k := by unfold cmpN9; split <;> (try split) <;> omega
theorem hasN_iff {l : List Node} {k : Int} : hasN l k = true ↔ lobN l k < l.length ∧ (l.getD (lobN l k) default).id = k := by
  unfold hasN; rw [Bool.and_eq_true, decide_eq_true_eq, beq_iff_eq, cmpN9_eq]; omega
/-- The document's search, one by one. -/
theorem findD_all (l : List Node) (k : Int) : ∀ (n i : Nat), l.length - i = n → (findD l k i = -1 ∧ ∀ j, i ≤ j → j < l.length → (l.getD j default).id ≠ k) ∨ ∃ j : Nat, findD l k i = j ∧ i ≤ j ∧ j < l.length ∧ (l.getD j default).id = k
  | 0, i, h => by rw [findD, if_neg (by omega)]; exact .inl ⟨rfl, fun j h1 h2 => by omega⟩
  | n + 1, i, h => by
    have hi : i < l.length := by omega
    rw [findD, if_pos hi]
    by_cases e : (l.getD i default).id = k
    · rw [if_pos e]; exact .inr ⟨i, rfl, Nat.le_refl _, hi, e⟩
    · rw [if_neg e]
      rcases findD_all l k n (i + 1) (by omega) with ⟨a, b⟩ | ⟨j, a, b, c, d⟩
      · refine .inl ⟨a, fun j h1 h2 => ?_⟩
        by_cases q : j = i
        · subst q; exact e
        · exact b j (by omega) h2
      · exact .inr ⟨j, a, by omega, c, d⟩
theorem find_yes {l : List Node} {k : Int} (hs : SortN l) (h : hasN l k = true) : findD l k 0 = (lobN l k : Int) := by
  obtain ⟨h1, h2⟩ := hasN_iff.1 h
  rcases findD_all l k _ 0 rfl with ⟨a, b⟩ | ⟨j, a, b, c, d⟩
  · exact absurd h2 (b _ (Nat.zero_le _) h1)
  · rw [a]
    rcases Nat.lt_trichotomy j (lobN l k) with q | q | q
    · have := hs j _ q h1; omega
    · rw [q]
    · have := hs _ j q c; omega
theorem find_no {l : List Node} {k : Int} (hs : SortN l) (h : hasN l k = false) : findD l k 0 < 0 := by
  rcases findD_all l k _ 0 rfl with ⟨a, b⟩ | ⟨j, a, b, c, d⟩
  · rw [a]; decide
  · exfalso
    have h1 := lobN_ge (l := l) (k := k) (m := j) (by omega)
    obtain ⟨s1, s2, s3⟩ := lobN_all l k
    have h2 : lobN l k = j := by
      apply Classical.byContradiction; intro q
      have := hs (lobN l k) j (by omega) c
      exact s3 (by omega) (by omega)
    have : hasN l k = true := hasN_iff.2 ⟨by omega, by rw [h2]; exact d⟩
    rw [h] at this; cases this

/-! ### What an error that is none says -/
theorem nodesE_all {l : List Node} : ∀ (n i : Nat), l.length - i = n → nodesE l i = 0 → (∀ j, i ≤ j → j < l.length → nodeE (l.getD j default) = 0) ∧ (∀ j, i ≤ j → j < l.length → (j = 0 → (l.getD 0 default).id = 1) ∧ (0 < j → (l.getD (j - 1) default).id < (l.getD j default).id))
  | 0, i, h, _ => ⟨fun j h1 h2 => by omega, fun j h1 h2 => by omega⟩
  | n + 1, i, h, he => by
    have hi : i < l.length := by omega
    rw [nodesE, if_pos hi] at he
    by_cases h1 : nodeE (l.getD i default) ≠ 0
    · rw [if_pos h1] at he; exact absurd he h1
    · rw [if_neg h1] at he
      split at he
      · cases he
      · rename_i h2
        obtain ⟨a, b⟩ := nodesE_all n (i + 1) (by omega) he
        refine ⟨fun j q1 q2 => ?_, fun j q1 q2 => ?_⟩
        · by_cases q : j = i
          · subst q; exact Classical.byContradiction h1
          · exact a j (by omega) q2
        · by_cases q : j = i
          · subst q
            exact ⟨fun q3 => by omega, fun q3 => by omega⟩
          · exact b j (by omega) q2
theorem sort_of {l : List Node} (h : nodesE l 0 = 0) : SortN l := by
  have h2 := (nodesE_all _ 0 rfl h).2
  have key : ∀ d p, p + d + 1 < l.length → (l.getD p default).id < (l.getD (p + d + 1) default).id := by
    intro d
    induction d with
    | zero => intro p hp; have := (h2 (p + 1) (Nat.zero_le _) hp).2 (by omega); rwa [show p + 1 - 1 = p by omega] at this
    | succ d ih =>
      intro p hp
      have h3 := ih p (by omega)
      have h4 := (h2 (p + (d + 1) + 1) (Nat.zero_le _) hp).2 (by omega)
      rw [show p + (d + 1) + 1 - 1 = p + d + 1 by omega] at h4
      omega
  intro p q hpq hq
  have := key (q - p - 1) p (by omega)
  rwa [show p + (q - p - 1) + 1 = q by omega] at this
/-- A part of the order up to a place. -/
def SortTo (l : List Node) (i : Nat) : Prop := ∀ j, j < i → nodeE (l.getD j default) = 0
end Go.Ch
end
section
set_option linter.unusedVariables false
set_option linter.unusedSimpArgs false
set_option maxRecDepth 100000
set_option maxHeartbeats 4000000
open Go Go.Proofs Go.Ab
namespace Go.Ch
theorem fc_earlier (a b : DOp) : FC Tryz.prog 109 [.t (dopT a), .t (dopT b)] (app emp []) (VB (decide (ltO a b))) (app emp []) := by
 refine .go Tryz.f109 ?_
 have e1 : ((decide (ltO a b)) : Bool) = (decide (a.clock < b.clock) || ((a.clock == b.clock) && decide (a.site < b.site))) := by
  rw [Bool.eq_iff_iff, decide_eq_true_eq]; unfold ltO; simp only [Bool.or_eq_true, Bool.and_eq_true, decide_eq_true_eq, beq_iff_eq]
 exact .finE [.r [], .r [(7, Xv 1 (!(decide (a.clock < b.clock))) X0), (9, Xv 1 (!(decide (a.clock < b.clock))) X0), (10, Xv 2 (!(decide (a.clock < b.clock))) X0), (11, Xv 1 (!(decide (a.clock < b.clock))) X0), (13, Xv 1 ((!(decide (a.clock < b.clock))) && (a.clock == b.clock)) X0), (15, Xv 1 ((!(decide (a.clock < b.clock))) && (a.clock == b.clock)) X0), (16, Xv 2 ((!(decide (a.clock < b.clock))) && (a.clock == b.clock)) X0), (17, Xka (!(decide (a.clock < b.clock))) (a.clock == b.clock)), (18, X (Xk' (decide (a.clock < b.clock))))]] [] (fun z0 => (VB z0, [])) ((decide (a.clock < b.clock) || ((a.clock == b.clock) && decide (a.site < b.site))) : Bool) ((decide (ltO a b)) : Bool) e1

theorem fc_drawR (l : List DOp) (hz : ∀ o ∈ l, o.plc.size ≤ 1048576 ∧ o.nm.size ≤ 1048576 ∧ o.vl.size ≤ 1048576) : FC Tryz.prog 70 [VL 8 dopT l] (app emp []) (VI (drawE l 0)) (app emp []) := by
 refine .go Tryz.f70 ?_
 refine .len 0 (fun hl0 => ?_)
 refine .loop (α := Nat) [.r [], .r [(1, X (Xl dopT l))]] 32 (fun i => ([(0, VL 8 dopT l), (6, VI (l.length : Int)), (7, VI (i : Int))], [])) (fun i => i ≤ l.length ∧ drawE l 0 = drawE l i) (fun i => l.length - i) (0 : Nat) ?_ ?_
 ·
  exact ⟨by omega, rfl⟩
 rintro i I2 ih2
 try dsimp only at I2
 refine .br [.r []] (decide ((i : Int) < (l.length : Int))) (fun h2 => ?_) (fun h2 => ?_)
 ·
  (try simp only [decide_eq_true_eq, decide_eq_false_iff_not, Int.not_lt, Int.not_le] at h2)
  have hm := hz _ (getDO_mem (l := l) (i := i) (by omega))
  have hx : drawE l i = _ := drawE.eq_1 l i
  rw [if_pos (by omega)] at hx
  have ho : opE (l.getD i default) = _ := opE.eq_1 _
  refine .br [.r [], .r [(2, X (Xi dopT l (i : Int)))], .r [(5, Xv 1 ((((l.getD i default)).kind) != 0) X0), (6, Xv 1 ((((l.getD i default)).kind) != 0) X0), (7, X (Xk ((((l.getD i default)).kind) != 0)))]] (((((l.getD i default)).kind) != 0) && ((((l.getD i default)).kind) != 1)) (fun h5 => ?_) (fun h5 => ?_)
  ·
   (try simp only [Bool.and_eq_true, Bool.and_eq_false_iff, Bool.not_eq_true', Bool.not_eq_false', bne_iff_ne, bne_eq_false_iff_eq, ne_eq] at h5)
   have e1 : ((drawE l 0) : Int) = 8 := by
    first | (rw [I2.2, drawE, if_neg (by omega)]; done) | (rw [I2.2, hx, ho]; (try simp only [nameRf_eq, valRf_eq] at *); clear hx ho; (repeat' split) <;> first | rfl | omega | (exfalso; omega) | (simp_all; done) | (exfalso; simp_all; done) | (exfalso; simp_all; omega))
   exact .finE [.r []] [] (fun z0 => (VI z0, [])) (8 : Int) ((drawE l 0) : Int) e1
  ·
   (try simp only [Bool.and_eq_true, Bool.and_eq_false_iff, Bool.not_eq_true', Bool.not_eq_false', bne_iff_ne, bne_eq_false_iff_eq, ne_eq] at h5)
   refine .br [.r [(2, X (Xc0 (fc_in (((l.getD i default)).clock) 1 1073741824) X0)), (6, Xv 1 (!(!(decide (1 ≤ (((l.getD i default)).clock) ∧ (((l.getD i default)).clock) ≤ 1073741824)))) X0), (7, Xv 1 (!(!(decide (1 ≤ (((l.getD i default)).clock) ∧ (((l.getD i default)).clock) ≤ 1073741824)))) (Xc0 (fc_in (((l.getD i default)).site) 0 1000) X0)), (8, Xv 1 (!(!(decide (1 ≤ (((l.getD i default)).clock) ∧ (((l.getD i default)).clock) ≤ 1073741824)))) X0), (9, X (Xk' (!(decide (1 ≤ (((l.getD i default)).clock) ∧ (((l.getD i default)).clock) ≤ 1073741824))))), (12, Xv 1 (!(!(decide (1 ≤ (((l.getD i default)).clock) ∧ (((l.getD i default)).clock) ≤ 1073741824)) || !(decide (0 ≤ (((l.getD i default)).site) ∧ (((l.getD i default)).site) ≤ 1000)))) X0), (13, Xv 1 (!(!(decide (1 ≤ (((l.getD i default)).clock) ∧ (((l.getD i default)).clock) ≤ 1073741824)) || !(decide (0 ≤ (((l.getD i default)).site) ∧ (((l.getD i default)).site) ≤ 1000)))) (Xc0 (fc_in (((l.getD i default)).itm) 1 1073741824) X0)), (14, Xv 1 (!(!(decide (1 ≤ (((l.getD i default)).clock) ∧ (((l.getD i default)).clock) ≤ 1073741824)) || !(decide (0 ≤ (((l.getD i default)).site) ∧ (((l.getD i default)).site) ≤ 1000)))) X0), (15, X (Xk' (!(decide (1 ≤ (((l.getD i default)).clock) ∧ (((l.getD i default)).clock) ≤ 1073741824)) || !(decide (0 ≤ (((l.getD i default)).site) ∧ (((l.getD i default)).site) ≤ 1000)))))]] ((!(decide (1 ≤ (((l.getD i default)).clock) ∧ (((l.getD i default)).clock) ≤ 1073741824)) || !(decide (0 ≤ (((l.getD i default)).site) ∧ (((l.getD i default)).site) ≤ 1000))) || !(decide (1 ≤ (((l.getD i default)).itm) ∧ (((l.getD i default)).itm) ≤ 1073741824))) (fun h7 => ?_) (fun h7 => ?_)
   ·
    (try simp only [decide_eq_true_eq, decide_eq_false_iff_not, Int.not_lt, Int.not_le, Bool.not_eq_true', Bool.not_eq_false', Bool.or_eq_true, Bool.or_eq_false_iff] at h7)
    have e2 : ((drawE l 0) : Int) = 2 := by
     first | (rw [I2.2, drawE, if_neg (by omega)]; done) | (rw [I2.2, hx, ho]; (try simp only [nameRf_eq, valRf_eq] at *); clear hx ho; (repeat' split) <;> first | rfl | omega | (exfalso; omega) | (simp_all; done) | (exfalso; simp_all; done) | (exfalso; simp_all; omega))
    exact .finE [.r []] [] (fun z0 => (VI z0, [])) (2 : Int) ((drawE l 0) : Int) e2
   ·
    (try simp only [decide_eq_true_eq, decide_eq_false_iff_not, Int.not_lt, Int.not_le, Bool.not_eq_true', Bool.not_eq_false', Bool.or_eq_true, Bool.or_eq_false_iff] at h7)
    refine .br [.r []] ((((l.getD i default)).kind) == 0) (fun h9 => ?_) (fun h9 => ?_)
    ·
     (try simp only [beq_iff_eq, beq_eq_false_iff_ne, ne_eq] at h9)
     refine .br [.r [(5, Xv 1 (!(!(seq (((l.getD i default)).nm) ({ data := #[] })))) X0), (6, Xv 1 (!(!(seq (((l.getD i default)).nm) ({ data := #[] })))) X0), (7, X (Xk' (!(seq (((l.getD i default)).nm) ({ data := #[] })))))]] (!(seq (((l.getD i default)).nm) ({ data := #[] })) || !(seq (((l.getD i default)).vl) ({ data := #[] }))) (fun h10 => ?_) (fun h10 => ?_)
     ·
      (try simp only [Bool.not_eq_true', Bool.not_eq_false', Bool.or_eq_true, Bool.or_eq_false_iff] at h10)
      have e3 : ((drawE l 0) : Int) = 4 := by
       first | (rw [I2.2, drawE, if_neg (by omega)]; done) | (rw [I2.2, hx, ho]; (try simp only [nameRf_eq, valRf_eq] at *); clear hx ho; (repeat' split) <;> first | rfl | omega | (exfalso; omega) | (simp_all; done) | (exfalso; simp_all; done) | (exfalso; simp_all; omega))
      exact .finE [.r []] [] (fun z0 => (VI z0, [])) (4 : Int) ((drawE l 0) : Int) e3
     ·
      (try simp only [Bool.not_eq_true', Bool.not_eq_false', Bool.or_eq_true, Bool.or_eq_false_iff] at h10)
      refine .br [.r [(2, X (Xc0 (fc_in (((l.getD i default)).prt) (-1) 1073741824) X0))]] (!(decide ((-1) ≤ (((l.getD i default)).prt) ∧ (((l.getD i default)).prt) ≤ 1073741824))) (fun h12 => ?_) (fun h12 => ?_)
      ·
       (try simp only [decide_eq_true_eq, decide_eq_false_iff_not, Int.not_lt, Int.not_le, Bool.not_eq_true', Bool.not_eq_false'] at h12)
       have e4 : ((drawE l 0) : Int) = 2 := by
        first | (rw [I2.2, drawE, if_neg (by omega)]; done) | (rw [I2.2, hx, ho]; (try simp only [nameRf_eq, valRf_eq] at *); clear hx ho; (repeat' split) <;> first | rfl | omega | (exfalso; omega) | (simp_all; done) | (exfalso; simp_all; done) | (exfalso; simp_all; omega))
       exact .finE [.r []] [] (fun z0 => (VI z0, [])) (2 : Int) ((drawE l 0) : Int) e4
      ·
       (try simp only [decide_eq_true_eq, decide_eq_false_iff_not, Int.not_lt, Int.not_le, Bool.not_eq_true', Bool.not_eq_false'] at h12)
       refine .br [.r [(2, X (Xc0 (fc_placeR (((l.getD i default)).plc) (by omega)) X0))]] (!(placeB (((l.getD i default)).plc))) (fun h14 => ?_) (fun h14 => ?_)
       ·
        (try simp only [Bool.not_eq_true', Bool.not_eq_false'] at h14)
        have e5 : ((drawE l 0) : Int) = 9 := by
         first | (rw [I2.2, drawE, if_neg (by omega)]; done) | (rw [I2.2, hx, ho]; (try simp only [nameRf_eq, valRf_eq] at *); clear hx ho; (repeat' split) <;> first | rfl | omega | (exfalso; omega) | (simp_all; done) | (exfalso; simp_all; done) | (exfalso; simp_all; omega))
        exact .finE [.r []] [] (fun z0 => (VI z0, [])) (9 : Int) ((drawE l 0) : Int) e5
       ·
        (try simp only [Bool.not_eq_true', Bool.not_eq_false'] at h14)
        refine .br [.r [(5, Xv 1 (decide ((i : Int) > 0)) (Xn ((i : Int) - 1))), (6, Xv 2 (decide ((i : Int) > 0)) (Xi' dopT l ((i : Int) - 1) (i - 1))), (7, Xv 1 (decide ((i : Int) > 0)) X0), (9, Xv 2 (decide ((i : Int) > 0)) (Xc0 (fc_earlier ((l.getD (i - 1) default)) ((l.getD i default))) X0)), (10, Xv 1 (decide ((i : Int) > 0)) X0), (11, X (Xk (decide ((i : Int) > 0))))]] (decide ((i : Int) > 0) && !(decide (ltO ((l.getD (i - 1) default)) ((l.getD i default))))) (fun h22 => ?_) (fun h22 => ?_)
        ·
         (try simp only [decide_eq_true_eq, decide_eq_false_iff_not, Int.not_lt, Int.not_le, gt_iff_lt, Bool.not_eq_true', Bool.not_eq_false', Bool.and_eq_true, Bool.and_eq_false_iff] at h22)
         have e6 : ((drawE l 0) : Int) = 5 := by
          first | (rw [I2.2, drawE, if_neg (by omega)]; done) | (rw [I2.2, hx, ho]; (try simp only [nameRf_eq, valRf_eq] at *); clear hx ho; (repeat' split) <;> first | rfl | omega | (exfalso; omega) | (simp_all; done) | (exfalso; simp_all; done) | (exfalso; simp_all; omega))
         exact .finE [.r []] [] (fun z0 => (VI z0, [])) (5 : Int) ((drawE l 0) : Int) e6
        ·
         (try simp only [decide_eq_true_eq, decide_eq_false_iff_not, Int.not_lt, Int.not_le, gt_iff_lt, Bool.not_eq_true', Bool.not_eq_false', Bool.and_eq_true, Bool.and_eq_false_iff] at h22)
         refine .back [.r [(0, X (Xn ((i : Int) + 1)))]] [] (ih2 ((i + 1) : Nat) ?_ ?_)
         ·
          refine ⟨by omega, ?_⟩; rw [I2.2, hx, ho]; (try simp only [nameRf_eq, valRf_eq] at *); clear hx ho; (repeat' split) <;> first | rfl | omega | (exfalso; omega) | (simp_all; done) | (exfalso; simp_all; done) | (exfalso; simp_all; omega)
         ·
          ((try dsimp only); omega)
    ·
     (try simp only [beq_iff_eq, beq_eq_false_iff_ne, ne_eq] at h9)
     refine .br [.r [(5, Xv 1 (!((((l.getD i default)).prt) != 0)) X0), (6, Xv 1 (!((((l.getD i default)).prt) != 0)) X0), (7, X (Xk' ((((l.getD i default)).prt) != 0)))]] (((((l.getD i default)).prt) != 0) || !(seq (((l.getD i default)).plc) ({ data := #[] }))) (fun h16 => ?_) (fun h16 => ?_)
     ·
      (try simp only [Bool.not_eq_true', Bool.not_eq_false', Bool.or_eq_true, Bool.or_eq_false_iff, bne_iff_ne, bne_eq_false_iff_eq, ne_eq] at h16)
      have e7 : ((drawE l 0) : Int) = 4 := by
       first | (rw [I2.2, drawE, if_neg (by omega)]; done) | (rw [I2.2, hx, ho]; (try simp only [nameRf_eq, valRf_eq] at *); clear hx ho; (repeat' split) <;> first | rfl | omega | (exfalso; omega) | (simp_all; done) | (exfalso; simp_all; done) | (exfalso; simp_all; omega))
      exact .finE [.r []] [] (fun z0 => (VI z0, [])) (4 : Int) ((drawE l 0) : Int) e7
     ·
      (try simp only [Bool.not_eq_true', Bool.not_eq_false', Bool.or_eq_true, Bool.or_eq_false_iff, bne_iff_ne, bne_eq_false_iff_eq, ne_eq] at h16)
      refine .br [.r [(2, X (Xc0 (fc_nameR (((l.getD i default)).nm) (by (first | omega | with_reducible exact fun h => h | (intro hq; rw [hq]; done) | (intro hq; rw [hq]; rfl) | (simp only [List.length_map]; done) | (simp only [List.length_map]; omega) | (simp; omega) | (simp; done)))) X0))]] (!(nameRf (((l.getD i default)).nm))) (fun h18 => ?_) (fun h18 => ?_)
      ·
       (try simp only [Bool.not_eq_true', Bool.not_eq_false'] at h18)
       have e8 : ((drawE l 0) : Int) = 9 := by
        first | (rw [I2.2, drawE, if_neg (by omega)]; done) | (rw [I2.2, hx, ho]; (try simp only [nameRf_eq, valRf_eq] at *); clear hx ho; (repeat' split) <;> first | rfl | omega | (exfalso; omega) | (simp_all; done) | (exfalso; simp_all; done) | (exfalso; simp_all; omega))
       exact .finE [.r []] [] (fun z0 => (VI z0, [])) (9 : Int) ((drawE l 0) : Int) e8
      ·
       (try simp only [Bool.not_eq_true', Bool.not_eq_false'] at h18)
       refine .br [.r [(5, Xv 1 (!(seq (((l.getD i default)).vl) ({ data := #[] }))) X0), (6, Xv 1 (!(seq (((l.getD i default)).vl) ({ data := #[] }))) (Xc0 (fc_valueR (((l.getD i default)).vl) (by (first | omega | with_reducible exact fun h => h | (intro hq; rw [hq]; done) | (intro hq; rw [hq]; rfl) | (simp only [List.length_map]; done) | (simp only [List.length_map]; omega) | (simp; omega) | (simp; done)))) X0)), (7, Xv 1 (!(seq (((l.getD i default)).vl) ({ data := #[] }))) X0), (8, X (Xk (!(seq (((l.getD i default)).vl) ({ data := #[] })))))]] (!(seq (((l.getD i default)).vl) ({ data := #[] })) && !(valRf (((l.getD i default)).vl))) (fun h20 => ?_) (fun h20 => ?_)
       ·
        (try simp only [Bool.not_eq_true', Bool.not_eq_false', Bool.and_eq_true, Bool.and_eq_false_iff] at h20)
        have e9 : ((drawE l 0) : Int) = 23 := by
         first | (rw [I2.2, drawE, if_neg (by omega)]; done) | (rw [I2.2, hx, ho]; (try simp only [nameRf_eq, valRf_eq] at *); clear hx ho; (repeat' split) <;> first | rfl | omega | (exfalso; omega) | (simp_all; done) | (exfalso; simp_all; done) | (exfalso; simp_all; omega))
        exact .finE [.r []] [] (fun z0 => (VI z0, [])) (23 : Int) ((drawE l 0) : Int) e9
       ·
        (try simp only [Bool.not_eq_true', Bool.not_eq_false', Bool.and_eq_true, Bool.and_eq_false_iff] at h20)
        refine .br [.r [(5, Xv 1 (decide ((i : Int) > 0)) (Xn ((i : Int) - 1))), (6, Xv 2 (decide ((i : Int) > 0)) (Xi' dopT l ((i : Int) - 1) (i - 1))), (7, Xv 1 (decide ((i : Int) > 0)) X0), (9, Xv 2 (decide ((i : Int) > 0)) (Xc0 (fc_earlier ((l.getD (i - 1) default)) ((l.getD i default))) X0)), (10, Xv 1 (decide ((i : Int) > 0)) X0), (11, X (Xk (decide ((i : Int) > 0))))]] (decide ((i : Int) > 0) && !(decide (ltO ((l.getD (i - 1) default)) ((l.getD i default))))) (fun h22 => ?_) (fun h22 => ?_)
        ·
         (try simp only [decide_eq_true_eq, decide_eq_false_iff_not, Int.not_lt, Int.not_le, gt_iff_lt, Bool.not_eq_true', Bool.not_eq_false', Bool.and_eq_true, Bool.and_eq_false_iff] at h22)
         have e10 : ((drawE l 0) : Int) = 5 := by
          first | (rw [I2.2, drawE, if_neg (by omega)]; done) | (rw [I2.2, hx, ho]; (try simp only [nameRf_eq, valRf_eq] at *); clear hx ho; (repeat' split) <;> first | rfl | omega | (exfalso; omega) | (simp_all; done) | (exfalso; simp_all; done) | (exfalso; simp_all; omega))
         exact .finE [.r []] [] (fun z0 => (VI z0, [])) (5 : Int) ((drawE l 0) : Int) e10
        ·
         (try simp only [decide_eq_true_eq, decide_eq_false_iff_not, Int.not_lt, Int.not_le, gt_iff_lt, Bool.not_eq_true', Bool.not_eq_false', Bool.and_eq_true, Bool.and_eq_false_iff] at h22)
         refine .back [.r [(0, X (Xn ((i : Int) + 1)))]] [] (ih2 ((i + 1) : Nat) ?_ ?_)
         ·
          refine ⟨by omega, ?_⟩; rw [I2.2, hx, ho]; (try simp only [nameRf_eq, valRf_eq] at *); clear hx ho; (repeat' split) <;> first | rfl | omega | (exfalso; omega) | (simp_all; done) | (exfalso; simp_all; done) | (exfalso; simp_all; omega)
         ·
          ((try dsimp only); omega)
 ·
  (try simp only [decide_eq_true_eq, decide_eq_false_iff_not, Int.not_lt, Int.not_le] at h2)
  have e11 : ((drawE l 0) : Int) = 0 := by
   first | (rw [I2.2, drawE, if_neg (by omega)]; done) | (rw [I2.2, hx, ho]; (try simp only [nameRf_eq, valRf_eq] at *); clear hx ho; (repeat' split) <;> first | rfl | omega | (exfalso; omega) | (simp_all; done) | (exfalso; simp_all; done) | (exfalso; simp_all; omega))
  exact .finE [.r []] [] (fun z0 => (VI z0, [])) (0 : Int) ((drawE l 0) : Int) e11
end Go.Ch
end
section
set_option linter.unusedVariables false
set_option linter.unusedSimpArgs false
set_option maxRecDepth 100000
set_option maxHeartbeats 4000000
open Go Go.Proofs Go.Ab
namespace Go.Ch
theorem fc_nodeR (n : Node) (hb : NodeB n) : FC Tryz.prog 29 [.t (nodeT n)] (app emp []) (VI (nodeE n)) (app emp []) := by
 refine .go Tryz.f29 ?_
 have b1 := hb.at1
 have b2 := hb.fl1
 have b3 := hb.ce1
 have b4 := hb.me
 have b5 := hb.dr2
 refine .br [.r [], .r [(2, X (Xc0 (fc_in n.id 1 1073741824) X0))]] (!(decide (1 ≤ n.id ∧ n.id ≤ 1073741824))) (fun h1 => ?_) (fun h1 => ?_)
 ·
  (try simp only [decide_eq_true_eq, decide_eq_false_iff_not, Int.not_lt, Int.not_le, Bool.not_eq_true', Bool.not_eq_false'] at h1)
  have e1 : ((nodeE n) : Int) = 2 := by
   (try rw [errA_eq false n.attrs _ 0 rfl] at *)
   unfold nodeE
   (repeat' split) <;> first | rfl | omega | (exfalso; omega) | (simp_all; done) | (exfalso; simp_all; done) | (exfalso; simp_all; omega) | grind
  exact .finE [.r []] [] (fun z0 => (VI z0, [])) (2 : Int) ((nodeE n) : Int) e1
 ·
  (try simp only [decide_eq_true_eq, decide_eq_false_iff_not, Int.not_lt, Int.not_le, Bool.not_eq_true', Bool.not_eq_false'] at h1)
  refine .br [.r [(2, X (Xc0 (fc_in n.kind 0 12) X0)), (6, Xv 1 (!(!(decide (0 ≤ n.kind ∧ n.kind ≤ 12)))) X0), (7, Xv 1 (!(!(decide (0 ≤ n.kind ∧ n.kind ≤ 12)))) X0), (8, Xv 1 (!(!(decide (0 ≤ n.kind ∧ n.kind ≤ 12)))) X0), (10, Xv 1 ((!(!(decide (0 ≤ n.kind ∧ n.kind ≤ 12)))) && (n.id == 1)) X0), (11, Xv 1 ((!(!(decide (0 ≤ n.kind ∧ n.kind ≤ 12)))) && (n.id == 1)) X0), (12, Xka (!(!(decide (0 ≤ n.kind ∧ n.kind ≤ 12)))) (n.id == 1)), (13, X (Xk' (!(decide (0 ≤ n.kind ∧ n.kind ≤ 12))))), (16, Xv 1 (!(!(decide (0 ≤ n.kind ∧ n.kind ≤ 12)) || ((n.id == 1) && (n.kind != 0)))) X0), (17, Xv 1 (!(!(decide (0 ≤ n.kind ∧ n.kind ≤ 12)) || ((n.id == 1) && (n.kind != 0)))) X0), (18, Xv 1 (!(!(decide (0 ≤ n.kind ∧ n.kind ≤ 12)) || ((n.id == 1) && (n.kind != 0)))) X0), (20, Xv 1 ((!(!(decide (0 ≤ n.kind ∧ n.kind ≤ 12)) || ((n.id == 1) && (n.kind != 0)))) && (n.id != 1)) X0), (21, Xv 1 ((!(!(decide (0 ≤ n.kind ∧ n.kind ≤ 12)) || ((n.id == 1) && (n.kind != 0)))) && (n.id != 1)) X0), (22, Xka (!(!(decide (0 ≤ n.kind ∧ n.kind ≤ 12)) || ((n.id == 1) && (n.kind != 0)))) (n.id != 1)), (23, X (Xk' (!(decide (0 ≤ n.kind ∧ n.kind ≤ 12)) || ((n.id == 1) && (n.kind != 0)))))]] ((!(decide (0 ≤ n.kind ∧ n.kind ≤ 12)) || ((n.id == 1) && (n.kind != 0))) || ((n.id != 1) && (n.kind == 0))) (fun h3 => ?_) (fun h3 => ?_)
  ·
   (try simp only [decide_eq_true_eq, decide_eq_false_iff_not, Int.not_lt, Int.not_le, Bool.not_eq_true', Bool.not_eq_false', Bool.and_eq_true, Bool.and_eq_false_iff, Bool.or_eq_true, Bool.or_eq_false_iff, beq_iff_eq, beq_eq_false_iff_ne, ne_eq, bne_iff_ne, bne_eq_false_iff_eq] at h3)
   have e2 : ((nodeE n) : Int) = 8 := by
    (try rw [errA_eq false n.attrs _ 0 rfl] at *)
    unfold nodeE
    (repeat' split) <;> first | rfl | omega | (exfalso; omega) | (simp_all; done) | (exfalso; simp_all; done) | (exfalso; simp_all; omega) | grind
   exact .finE [.r []] [] (fun z0 => (VI z0, [])) (8 : Int) ((nodeE n) : Int) e2
  ·
   (try simp only [decide_eq_true_eq, decide_eq_false_iff_not, Int.not_lt, Int.not_le, Bool.not_eq_true', Bool.not_eq_false', Bool.and_eq_true, Bool.and_eq_false_iff, Bool.or_eq_true, Bool.or_eq_false_iff, beq_iff_eq, beq_eq_false_iff_ne, ne_eq, bne_iff_ne, bne_eq_false_iff_eq] at h3)
   refine .br [.r [(2, X (Xc0 (fc_attrsError n.attrs false (by assumption)) X0))], .r []] ((errA false n.attrs 0) != 0) (fun h6 => ?_) (fun h6 => ?_)
   ·
    (try simp only [bne_iff_ne, bne_eq_false_iff_eq, ne_eq] at h6)
    have e3 : ((nodeE n) : Int) = (errA false n.attrs 0) := by
     (try rw [errA_eq false n.attrs _ 0 rfl] at *)
     unfold nodeE
     (repeat' split) <;> first | rfl | omega | (exfalso; omega) | (simp_all; done) | (exfalso; simp_all; done) | (exfalso; simp_all; omega) | grind
    exact .finE [.r []] [] (fun z0 => (VI z0, [])) ((errA false n.attrs 0) : Int) ((nodeE n) : Int) e3
   ·
    (try simp only [bne_iff_ne, bne_eq_false_iff_eq, ne_eq] at h6)
    refine .br [.r [(2, X (Xc0 (fc_HasText n.kind) X0)), (5, Xv 1 (!(hasT n.kind)) X0), (6, Xv 1 (!(hasT n.kind)) (Xc0 (fc_HasList n.kind) X0)), (7, X (Xk' (hasT n.kind)))], .r [(2, X (Xl elemT n.flow)), (6, Xv 1 (decide ((n.flow.length : Int) > 0)) X0), (7, X (Xk (decide ((n.flow.length : Int) > 0)))), (10, Xv 1 (!(decide ((n.flow.length : Int) > 0) && !((hasT n.kind) || (hasL n.kind)))) X0), (11, Xv 1 (!(decide ((n.flow.length : Int) > 0) && !((hasT n.kind) || (hasL n.kind)))) (Xc0 (fc_zeroGrid n.grid) X0)), (12, Xv 1 (!(decide ((n.flow.length : Int) > 0) && !((hasT n.kind) || (hasL n.kind)))) X0), (13, Xv 1 (!(decide ((n.flow.length : Int) > 0) && !((hasT n.kind) || (hasL n.kind)))) X0), (15, Xv 1 ((!(decide ((n.flow.length : Int) > 0) && !((hasT n.kind) || (hasL n.kind)))) && (!(zeroG n.grid))) X0), (16, Xv 1 ((!(decide ((n.flow.length : Int) > 0) && !((hasT n.kind) || (hasL n.kind)))) && (!(zeroG n.grid))) (Xc0 (fc_HasGrid n.kind) X0)), (17, Xv 1 ((!(decide ((n.flow.length : Int) > 0) && !((hasT n.kind) || (hasL n.kind)))) && (!(zeroG n.grid))) X0), (18, Xka (!(decide ((n.flow.length : Int) > 0) && !((hasT n.kind) || (hasL n.kind)))) (!(zeroG n.grid))), (19, X (Xk' (decide ((n.flow.length : Int) > 0) && !((hasT n.kind) || (hasL n.kind))))), (22, Xv 1 (!((decide ((n.flow.length : Int) > 0) && !((hasT n.kind) || (hasL n.kind))) || (!(zeroG n.grid) && !(hasG n.kind)))) X0), (23, Xv 1 (!((decide ((n.flow.length : Int) > 0) && !((hasT n.kind) || (hasL n.kind))) || (!(zeroG n.grid) && !(hasG n.kind)))) (Xl dopT n.draw)), (24, Xv 1 (!((decide ((n.flow.length : Int) > 0) && !((hasT n.kind) || (hasL n.kind))) || (!(zeroG n.grid) && !(hasG n.kind)))) X0), (25, Xv 1 (!((decide ((n.flow.length : Int) > 0) && !((hasT n.kind) || (hasL n.kind))) || (!(zeroG n.grid) && !(hasG n.kind)))) X0), (27, Xv 1 ((!((decide ((n.flow.length : Int) > 0) && !((hasT n.kind) || (hasL n.kind))) || (!(zeroG n.grid) && !(hasG n.kind)))) && (decide ((n.draw.length : Int) > 0))) X0), (28, Xv 1 ((!((decide ((n.flow.length : Int) > 0) && !((hasT n.kind) || (hasL n.kind))) || (!(zeroG n.grid) && !(hasG n.kind)))) && (decide ((n.draw.length : Int) > 0))) (Xc0 (fc_HasDraw n.kind) X0)), (29, Xv 1 ((!((decide ((n.flow.length : Int) > 0) && !((hasT n.kind) || (hasL n.kind))) || (!(zeroG n.grid) && !(hasG n.kind)))) && (decide ((n.draw.length : Int) > 0))) X0), (30, Xka (!((decide ((n.flow.length : Int) > 0) && !((hasT n.kind) || (hasL n.kind))) || (!(zeroG n.grid) && !(hasG n.kind)))) (decide ((n.draw.length : Int) > 0))), (31, X (Xk' ((decide ((n.flow.length : Int) > 0) && !((hasT n.kind) || (hasL n.kind))) || (!(zeroG n.grid) && !(hasG n.kind)))))]] (((decide ((n.flow.length : Int) > 0) && !((hasT n.kind) || (hasL n.kind))) || (!(zeroG n.grid) && !(hasG n.kind))) || (decide ((n.draw.length : Int) > 0) && !(hasD n.kind))) (fun h9 => ?_) (fun h9 => ?_)
    ·
     (try simp only [decide_eq_true_eq, decide_eq_false_iff_not, Int.not_lt, Int.not_le, gt_iff_lt, Bool.not_eq_true', Bool.not_eq_false', Bool.and_eq_true, Bool.and_eq_false_iff, Bool.or_eq_true, Bool.or_eq_false_iff] at h9)
     have e4 : ((nodeE n) : Int) = 4 := by
      (try rw [errA_eq false n.attrs _ 0 rfl] at *)
      unfold nodeE
      (repeat' split) <;> first | rfl | omega | (exfalso; omega) | (simp_all; done) | (exfalso; simp_all; done) | (exfalso; simp_all; omega) | grind
     exact .finE [.r []] [] (fun z0 => (VI z0, [])) (4 : Int) ((nodeE n) : Int) e4
    ·
     (try simp only [decide_eq_true_eq, decide_eq_false_iff_not, Int.not_lt, Int.not_le, gt_iff_lt, Bool.not_eq_true', Bool.not_eq_false', Bool.and_eq_true, Bool.and_eq_false_iff, Bool.or_eq_true, Bool.or_eq_false_iff] at h9)
     refine .br [.r []] ((hasT n.kind) || (hasL n.kind)) (fun h11 => ?_) (fun h11 => ?_)
     ·
      (try simp only [Bool.or_eq_true, Bool.or_eq_false_iff] at h11)
      have e5 : ((nodeE n) : Int) = (flowZ (hasT n.kind) n.flow) := by
       (try rw [errA_eq false n.attrs _ 0 rfl] at *)
       unfold nodeE
       (repeat' split) <;> first | rfl | omega | (exfalso; omega) | (simp_all; done) | (exfalso; simp_all; done) | (exfalso; simp_all; omega) | grind
      exact .finE [.r [(4, X (Xc0 (fc_HasText n.kind) X0)), (5, X (Xc0 (fc_flowErrorX n.flow (hasT n.kind) (by assumption)) X0))]] [] (fun z0 => (VI z0, [])) ((flowZ (hasT n.kind) n.flow) : Int) ((nodeE n) : Int) e5
     ·
      (try simp only [Bool.or_eq_true, Bool.or_eq_false_iff] at h11)
      refine .br [.r [(2, X (Xc0 (fc_HasGrid n.kind) X0))]] (hasG n.kind) (fun h13 => ?_) (fun h13 => ?_)
      ·
       refine .br [.r [(2, X (Xc0 (fc_gridError n.grid (by omega) (by assumption)) X0))], .r []] ((gridE n.grid) != 0) (fun h15 => ?_) (fun h15 => ?_)
       ·
        (try simp only [bne_iff_ne, bne_eq_false_iff_eq, ne_eq] at h15)
        have e6 : ((nodeE n) : Int) = (gridE n.grid) := by
         (try rw [errA_eq false n.attrs _ 0 rfl] at *)
         unfold nodeE
         (repeat' split) <;> first | rfl | omega | (exfalso; omega) | (simp_all; done) | (exfalso; simp_all; done) | (exfalso; simp_all; omega) | grind
        exact .finE [.r []] [] (fun z0 => (VI z0, [])) ((gridE n.grid) : Int) ((nodeE n) : Int) e6
       ·
        (try simp only [bne_iff_ne, bne_eq_false_iff_eq, ne_eq] at h15)
        have e7 : ((nodeE n) : Int) = (cellK n.kind n.grid.cells 0) := by
         (try rw [errA_eq false n.attrs _ 0 rfl] at *)
         unfold nodeE
         (repeat' split) <;> first | rfl | omega | (exfalso; omega) | (simp_all; done) | (exfalso; simp_all; done) | (exfalso; simp_all; omega) | grind
        exact .finE [.r [(5, X (Xc0 (fc_cellK n.kind n.grid.cells) X0))]] [] (fun z0 => (VI z0, [])) ((cellK n.kind n.grid.cells 0) : Int) ((nodeE n) : Int) e7
      ·
       have e8 : ((nodeE n) : Int) = (drawE n.draw 0) := by
        (try rw [errA_eq false n.attrs _ 0 rfl] at *)
        unfold nodeE
        (repeat' split) <;> first | rfl | omega | (exfalso; omega) | (simp_all; done) | (exfalso; simp_all; done) | (exfalso; simp_all; omega) | grind
       exact .finE [.r [(2, X (Xc0 (fc_drawR n.draw (by assumption)) X0))]] [] (fun z0 => (VI z0, [])) ((drawE n.draw 0) : Int) ((nodeE n) : Int) e8

theorem fc_findR (d : Doc) (k : Int) (hl : d.nodes.length ≤ 1048576) : FC Tryz.prog 71 [.t (docT d), VI k] (app emp []) (VI (findD d.nodes k 0)) (app emp []) := by
 refine .go Tryz.f71 ?_
 refine .loop (α := Nat) [.r [], .r [(2, X (Xl nodeT d.nodes))]] 48 (fun i => ([(1, VI k), (2, .ptr 0 0), (8, VI (d.nodes.length : Int)), (9, VI (i : Int))], [(0, .box [VL 9 nodeT d.nodes])])) (fun i => i ≤ d.nodes.length ∧ findD d.nodes k 0 = findD d.nodes k i) (fun i => d.nodes.length - i) (0 : Nat) ?_ ?_
 ·
  exact ⟨by omega, rfl⟩
 rintro i I2 ih2
 try dsimp only at I2
 refine .br [.r []] (decide ((i : Int) < (d.nodes.length : Int))) (fun h2 => ?_) (fun h2 => ?_)
 ·
  (try simp only [decide_eq_true_eq, decide_eq_false_iff_not, Int.not_lt, Int.not_le] at h2)
  refine .br [.r [], .r [(3, X (Xi nodeT d.nodes (i : Int)))]] ((((d.nodes.getD i default)).id) == k) (fun h4 => ?_) (fun h4 => ?_)
  ·
   (try simp only [beq_iff_eq, beq_eq_false_iff_ne, ne_eq] at h4)
   have e1 : ((findD d.nodes k 0) : Int) = (i : Int) := by
    rw [I2.2, findD, if_pos (by omega), if_pos (by omega)]
   exact .finE [.r []] [] (fun z0 => (VI z0, [])) ((i : Int) : Int) ((findD d.nodes k 0) : Int) e1
  ·
   (try simp only [beq_iff_eq, beq_eq_false_iff_ne, ne_eq] at h4)
   refine .back [.r [(0, X (Xn ((i : Int) + 1)))]] [(0, 0)] (ih2 ((i + 1) : Nat) ?_ ?_)
   ·
    exact ⟨by omega, by rw [I2.2, findD, if_pos (by omega), if_neg (by omega)]⟩
   ·
    ((try dsimp only); omega)
 ·
  (try simp only [decide_eq_true_eq, decide_eq_false_iff_not, Int.not_lt, Int.not_le] at h2)
  have e2 : ((findD d.nodes k 0) : Int) = -1 := by
   rw [I2.2, findD, if_neg (by omega)]
  exact .finE [.r []] [] (fun z0 => (VI z0, [])) (-1 : Int) ((findD d.nodes k 0) : Int) e2

theorem fc_refsOf (n : Node) (hb : NodeB n) : FC Tryz.prog 31 [.t (nodeT n)] (app emp []) (VL 1 intT (refsN n)) (app emp []) := by
 refine .go Tryz.f31 ?_
 have b1 := hb.fl2
 have b2 := hb.ce2
 refine .loop (α := Nat × (List Int)) [.r [], .r [], .r [(2, X (Xl elemT n.flow))], .le (.nR 3 1)] 57 (fun (i, o) => ([(1, .ptr 0 0), (3, .row 56 o.length), (8, VI (n.flow.length : Int)), (9, VI (i : Int))], [(0, .box [VI n.id, VI n.kind, VL 2 attrT n.attrs, VL 3 elemT n.flow, VI n.grid.rows, VI n.grid.cols, VL 5 cellT n.grid.cells, VL 4 rectT n.grid.merges, VL 8 dopT n.draw]), (56, OR 1 intT o)])) (fun (i, o) => i ≤ n.flow.length ∧ o = refsF (n.flow.take i)) (fun (i, o) => n.flow.length - i) (0, []) ?_ ?_
 ·
  exact ⟨by omega, rfl⟩
 rintro ⟨i, o⟩ I3 ih3
 try dsimp only at I3
 have ol : o.length ≤ i := by rw [I3.2]; unfold refsF; exact Nat.le_trans (List.length_filterMap_le _ _) (by rw [List.length_take]; omega)
 refine .br [.r []] (decide ((i : Int) < (n.flow.length : Int))) (fun h3 => ?_) (fun h3 => ?_)
 ·
  (try simp only [decide_eq_true_eq, decide_eq_false_iff_not, Int.not_lt, Int.not_le] at h3)
  refine .br [.r [], .r [(3, X (Xi elemT n.flow (i : Int)))]] ((((n.flow.getD i default)).ref) != 0) (fun h5 => ?_) (fun h5 => ?_)
  ·
   (try simp only [bne_iff_ne, bne_eq_false_iff_eq, ne_eq] at h5)
   refine .back [.r [(4, X (Xi elemT n.flow (i : Int))), (8, X (rowC intT [((n.flow.getD i default)).ref] (Xap 1 intT 56 o [((n.flow.getD i default)).ref])))], .r [(0, X (Xn ((i : Int) + 1)))]] [(0, 0), (56, 56)] (ih3 ((i + 1), (o ++ [((n.flow.getD i default)).ref])) ?_ ?_)
   ·
    refine ⟨by omega, ?_⟩
    rw [I3.2]; unfold refsF; rw [filM_succ _ (by omega)]
    first | (rw [if_pos (by omega)]; rfl) | (rw [if_neg (by omega)]; simp)
   ·
    ((try dsimp only); omega)
  ·
   (try simp only [bne_iff_ne, bne_eq_false_iff_eq, ne_eq] at h5)
   refine .back [.r [(0, X (Xn ((i : Int) + 1)))]] [(0, 0), (56, 56)] (ih3 ((i + 1), o) ?_ ?_)
   ·
    refine ⟨by omega, ?_⟩
    rw [I3.2]; unfold refsF; rw [filM_succ _ (by omega)]
    first | (rw [if_pos (by omega)]; rfl) | (rw [if_neg (by omega)]; simp)
   ·
    ((try dsimp only); omega)
 ·
  (try simp only [decide_eq_true_eq, decide_eq_false_iff_not, Int.not_lt, Int.not_le] at h3)
  refine .loop (α := Nat × (List Int)) [.r [(3, X (Xl cellT n.grid.cells))]] 105 (fun (j, p) => ([(1, .ptr 0 0), (3, .row 56 p.length), (32, VI (n.grid.cells.length : Int)), (33, VI (j : Int))], [(0, .box [VI n.id, VI n.kind, VL 2 attrT n.attrs, VL 3 elemT n.flow, VI n.grid.rows, VI n.grid.cols, VL 5 cellT n.grid.cells, VL 4 rectT n.grid.merges, VL 8 dopT n.draw]), (56, OR 1 intT p)])) (fun (j, p) => j ≤ n.grid.cells.length ∧ p = refsF n.flow ++ refsC (n.grid.cells.take j)) (fun (j, p) => n.grid.cells.length - j) (0, o) ?_ ?_
  ·
   exact ⟨by omega, by rw [I3.2, List.take_of_length_le (by omega)]; simp [refsC]⟩
  rintro ⟨j, p⟩ I9 ih9
  try dsimp only at I9
  have ol2 : p.length ≤ n.flow.length + j := by rw [I9.2, List.length_append]; unfold refsF refsC; have q1 := List.length_filterMap_le (fun x : Elem => if x.ref ≠ 0 then some x.ref else none) n.flow; have q2 := List.length_filterMap_le (fun x : Cell => if x.ref ≠ 0 then some x.ref else none) (n.grid.cells.take j); rw [List.length_take] at q2; omega
  refine .br [.r []] (decide ((j : Int) < (n.grid.cells.length : Int))) (fun h9 => ?_) (fun h9 => ?_)
  ·
   (try simp only [decide_eq_true_eq, decide_eq_false_iff_not, Int.not_lt, Int.not_le] at h9)
   refine .br [.r [], .r [(4, X (Xi cellT n.grid.cells (j : Int)))]] ((((n.grid.cells.getD j default)).ref) != 0) (fun h11 => ?_) (fun h11 => ?_)
   ·
    (try simp only [bne_iff_ne, bne_eq_false_iff_eq, ne_eq] at h11)
    refine .back [.r [(5, X (Xi cellT n.grid.cells (j : Int))), (9, X (rowC intT [((n.grid.cells.getD j default)).ref] (Xap 1 intT 56 p [((n.grid.cells.getD j default)).ref])))], .r [(0, X (Xn ((j : Int) + 1)))]] [(0, 0), (56, 56)] (ih9 ((j + 1), (p ++ [((n.grid.cells.getD j default)).ref])) ?_ ?_)
    ·
     refine ⟨by omega, ?_⟩
     rw [I9.2]; unfold refsC; rw [filM_succ _ (by omega), ← List.append_assoc]
     first | (rw [if_pos (by omega)]; rfl) | (rw [if_neg (by omega)]; simp)
    ·
     ((try dsimp only); omega)
   ·
    (try simp only [bne_iff_ne, bne_eq_false_iff_eq, ne_eq] at h11)
    refine .back [.r [(0, X (Xn ((j : Int) + 1)))]] [(0, 0), (56, 56)] (ih9 ((j + 1), p) ?_ ?_)
    ·
     refine ⟨by omega, ?_⟩
     rw [I9.2]; unfold refsC; rw [filM_succ _ (by omega), ← List.append_assoc]
     first | (rw [if_pos (by omega)]; rfl) | (rw [if_neg (by omega)]; simp)
    ·
     ((try dsimp only); omega)
  ·
   (try simp only [decide_eq_true_eq, decide_eq_false_iff_not, Int.not_lt, Int.not_le] at h9)
   have e1 : ((refsN n) : List Int) = p := by
    rw [I9.2, List.take_of_length_le (by omega)]; rfl
   exact .finE [.r [], .le (.fr 2 [(p.length : Nat) = (List.map intT p).length] ⟨lm, trivial⟩)] [] (fun z0 => (VL 1 intT z0, [])) (p : List Int) ((refsN n) : List Int) e1

theorem fc_refsR (d : Doc) (k : Int) (rs : List Int) (hl : d.nodes.length ≤ 1048576) : FC Tryz.prog 30 [.t (docT d), VI k, VL 1 intT rs] (app emp []) (VI (refsE d.nodes k rs 0)) (app emp []) := by
 refine .go Tryz.f30 ?_
 refine .len 2 (fun hl2 => ?_)
 refine .loop (α := Nat) [.r [], .r [(1, X (Xl intT rs))]] 40 (fun i => ([(1, VI k), (2, VL 1 intT rs), (3, .ptr 0 0), (10, VI (rs.length : Int)), (11, VI (i : Int))], [(0, .box [VL 9 nodeT d.nodes])])) (fun i => i ≤ rs.length ∧ refsE d.nodes k rs 0 = refsE d.nodes k rs i) (fun i => rs.length - i) (0 : Nat) ?_ ?_
 ·
  exact ⟨by omega, rfl⟩
 rintro i I2 ih2
 try dsimp only at I2
 refine .br [.r []] (decide ((i : Int) < (rs.length : Int))) (fun h2 => ?_) (fun h2 => ?_)
 ·
  (try simp only [decide_eq_true_eq, decide_eq_false_iff_not, Int.not_lt, Int.not_le] at h2)
  have hlt := findD_lt (l := d.nodes) (k := rs.getD i default) _ 0 rfl
  refine .br [.r [], .r [(3, X (Xi intT rs (i : Int))), (5, X (Xc0 (fc_findR d (rs.getD i default) (by assumption)) X0))], .r []] (decide ((findD (d).nodes (rs.getD i default) 0) < 0)) (fun h5 => ?_) (fun h5 => ?_)
  ·
   (try simp only [decide_eq_true_eq, decide_eq_false_iff_not, Int.not_lt, Int.not_le] at h5)
   have e1 : ((refsE d.nodes k rs 0) : Int) = 7 := by
    exact I2.2.trans (refsE_none (by omega) h5)
   exact .finE [.r []] [] (fun z0 => (VI z0, [])) (7 : Int) ((refsE d.nodes k rs 0) : Int) e1
  ·
   (try simp only [decide_eq_true_eq, decide_eq_false_iff_not, Int.not_lt, Int.not_le] at h5)
   refine .br [.r [(4, X (Xi nodeT d.nodes (findD (d).nodes (rs.getD i default) 0))), (7, X (Xc0 (fc_permR k (((d.nodes.getD (Int.toNat (findD (d).nodes (rs.getD i default) 0)) default)).kind)) X0))]] (!(permB k (((d.nodes.getD (Int.toNat (findD (d).nodes (rs.getD i default) 0)) default)).kind))) (fun h7 => ?_) (fun h7 => ?_)
   ·
    (try simp only [Bool.not_eq_true', Bool.not_eq_false'] at h7)
    have e2 : ((refsE d.nodes k rs 0) : Int) = 8 := by
     exact I2.2.trans (refsE_kind (by omega) h5 h7)
    exact .finE [.r []] [] (fun z0 => (VI z0, [])) (8 : Int) ((refsE d.nodes k rs 0) : Int) e2
   ·
    (try simp only [Bool.not_eq_true', Bool.not_eq_false'] at h7)
    refine .back [.r [(0, X (Xn ((i : Int) + 1)))]] [(0, 0)] (ih2 ((i + 1) : Nat) ?_ ?_)
    ·
     exact ⟨by omega, I2.2.trans (refsE_next (by omega) h5 h7)⟩
    ·
     ((try dsimp only); omega)
 ·
  (try simp only [decide_eq_true_eq, decide_eq_false_iff_not, Int.not_lt, Int.not_le] at h2)
  have e3 : ((refsE d.nodes k rs 0) : Int) = 0 := by
   exact I2.2.trans (refsE_end (by omega))
  exact .finE [.r []] [] (fun z0 => (VI z0, [])) (0 : Int) ((refsE d.nodes k rs 0) : Int) e3
end Go.Ch
end
section
set_option linter.unusedVariables false
set_option linter.unusedSimpArgs false
set_option maxRecDepth 100000
set_option maxHeartbeats 4000000
open Go Go.Proofs Go.Ab
namespace Go.Ch
theorem fc_docR (d : Doc) (hb : DocB d) : FC Tryz.prog 8 [.t (docT d)] (app emp []) (VI (docE d)) (app emp []) := by
 refine .go Tryz.f8 ?_
 have hl := hb.len
 refine .br [.r [], .r [(2, X (Xl nodeT d.nodes))]] ((d.nodes.length : Int) == 0) (fun h1 => ?_) (fun h1 => ?_)
 ·
  (try simp only [beq_iff_eq, beq_eq_false_iff_ne, ne_eq] at h1)
  have e1 : ((docE d) : Int) = 11 := by
   exact docE_short (by omega)
  exact .finE [.r []] [] (fun z0 => (VI z0, [])) (11 : Int) ((docE d) : Int) e1
 ·
  (try simp only [beq_iff_eq, beq_eq_false_iff_ne, ne_eq] at h1)
  refine .loop (α := Nat) [.r [(2, X (Xl nodeT d.nodes))]] 80 (fun i => ([(1, .ptr 0 0), (13, VI (d.nodes.length : Int)), (14, VI (i : Int))], [(0, .box [VL 9 nodeT d.nodes])])) (fun i => i ≤ d.nodes.length ∧ nodesE d.nodes 0 = nodesE d.nodes i) (fun i => d.nodes.length - i) (0 : Nat) ?_ ?_
  ·
   exact ⟨by omega, rfl⟩
  rintro i I4 ih4
  try dsimp only at I4
  refine .br [.r []] (decide ((i : Int) < (d.nodes.length : Int))) (fun h4 => ?_) (fun h4 => ?_)
  ·
   (try simp only [decide_eq_true_eq, decide_eq_false_iff_not, Int.not_lt, Int.not_le] at h4)
   have hn := hb.all _ (getDN_mem (l := d.nodes) (i := i) (by omega))
   refine .br [.r [], .r [(3, X (Xi nodeT d.nodes (i : Int))), (5, X (Xc0 (fc_nodeR ({ id := ((d.nodes.getD i default)).id, kind := ((d.nodes.getD i default)).kind, attrs := ((d.nodes.getD i default)).attrs, flow := ((d.nodes.getD i default)).flow, grid := (((d.nodes.getD i default)).grid), draw := ((d.nodes.getD i default)).draw } : Node) (by assumption)) X0))], .r []] ((nodeE ({ id := ((d.nodes.getD i default)).id, kind := ((d.nodes.getD i default)).kind, attrs := ((d.nodes.getD i default)).attrs, flow := ((d.nodes.getD i default)).flow, grid := (((d.nodes.getD i default)).grid), draw := ((d.nodes.getD i default)).draw } : Node)) != 0) (fun h7 => ?_) (fun h7 => ?_)
   ·
    (try simp only [bne_iff_ne, bne_eq_false_iff_eq, ne_eq] at h7)
    have e2 : ((docE d) : Int) = (nodeE ({ id := ((d.nodes.getD i default)).id, kind := ((d.nodes.getD i default)).kind, attrs := ((d.nodes.getD i default)).attrs, flow := ((d.nodes.getD i default)).flow, grid := (((d.nodes.getD i default)).grid), draw := ((d.nodes.getD i default)).draw } : Node)) := by
     exact docE_node (by omega) (I4.2.trans (nodesE_bad (by omega) h7)) h7
    exact .finE [.r []] [] (fun z0 => (VI z0, [])) ((nodeE ({ id := ((d.nodes.getD i default)).id, kind := ((d.nodes.getD i default)).kind, attrs := ((d.nodes.getD i default)).attrs, flow := ((d.nodes.getD i default)).flow, grid := (((d.nodes.getD i default)).grid), draw := ((d.nodes.getD i default)).draw } : Node)) : Int) ((docE d) : Int) e2
   ·
    (try simp only [bne_iff_ne, bne_eq_false_iff_eq, ne_eq] at h7)
    refine .br [.r [(4, Xv 1 ((i : Int) == 0) X0), (5, Xv 1 ((i : Int) == 0) (Xi nodeT d.nodes 0)), (6, Xv 1 ((i : Int) == 0) X0), (7, Xv 1 ((i : Int) == 0) X0), (8, Xv 1 ((i : Int) == 0) X0), (9, X (Xk ((i : Int) == 0))), (12, Xv 1 (!(((i : Int) == 0) && ((((d.nodes.getD 0 default)).id) != 1))) X0), (13, Xv 1 (!(((i : Int) == 0) && ((((d.nodes.getD 0 default)).id) != 1))) X0), (15, Xv 1 ((!(((i : Int) == 0) && ((((d.nodes.getD 0 default)).id) != 1))) && (decide ((i : Int) > 0))) X0), (17, Xv 2 ((!(((i : Int) == 0) && ((((d.nodes.getD 0 default)).id) != 1))) && (decide ((i : Int) > 0))) (Xi nodeT d.nodes (i : Int))), (18, Xv 1 ((!(((i : Int) == 0) && ((((d.nodes.getD 0 default)).id) != 1))) && (decide ((i : Int) > 0))) X0), (19, Xv 1 ((!(((i : Int) == 0) && ((((d.nodes.getD 0 default)).id) != 1))) && (decide ((i : Int) > 0))) X0), (21, Xv 1 ((!(((i : Int) == 0) && ((((d.nodes.getD 0 default)).id) != 1))) && (decide ((i : Int) > 0))) X0), (23, Xv 1 ((!(((i : Int) == 0) && ((((d.nodes.getD 0 default)).id) != 1))) && (decide ((i : Int) > 0))) (Xn ((i : Int) - 1))), (24, Xv 2 ((!(((i : Int) == 0) && ((((d.nodes.getD 0 default)).id) != 1))) && (decide ((i : Int) > 0))) (Xi' nodeT d.nodes ((i : Int) - 1) (i - 1))), (25, Xv 1 ((!(((i : Int) == 0) && ((((d.nodes.getD 0 default)).id) != 1))) && (decide ((i : Int) > 0))) X0), (26, Xv 1 ((!(((i : Int) == 0) && ((((d.nodes.getD 0 default)).id) != 1))) && (decide ((i : Int) > 0))) X0), (27, Xv 2 ((!(((i : Int) == 0) && ((((d.nodes.getD 0 default)).id) != 1))) && (decide ((i : Int) > 0))) X0), (28, Xka (!(((i : Int) == 0) && ((((d.nodes.getD 0 default)).id) != 1))) (decide ((i : Int) > 0))), (29, X (Xk' (((i : Int) == 0) && ((((d.nodes.getD 0 default)).id) != 1))))]] ((((i : Int) == 0) && ((((d.nodes.getD 0 default)).id) != 1)) || (decide ((i : Int) > 0) && decide ((((d.nodes.getD i default)).id) ≤ (((d.nodes.getD (i - 1) default)).id)))) (fun h9 => ?_) (fun h9 => ?_)
    ·
     (try simp only [decide_eq_true_eq, decide_eq_false_iff_not, Int.not_lt, Int.not_le, gt_iff_lt, Bool.and_eq_true, Bool.and_eq_false_iff, Bool.not_eq_true', Bool.not_eq_false', Bool.or_eq_true, Bool.or_eq_false_iff, beq_iff_eq, beq_eq_false_iff_ne, ne_eq, bne_iff_ne, bne_eq_false_iff_eq] at h9)
     have e3 : ((docE d) : Int) = 5 := by
      exact docE_node (by omega) (I4.2.trans (nodesE_ord (by omega) h7 (by omega))) (by decide)
     exact .finE [.r []] [] (fun z0 => (VI z0, [])) (5 : Int) ((docE d) : Int) e3
    ·
     (try simp only [decide_eq_true_eq, decide_eq_false_iff_not, Int.not_lt, Int.not_le, gt_iff_lt, Bool.and_eq_true, Bool.and_eq_false_iff, Bool.not_eq_true', Bool.not_eq_false', Bool.or_eq_true, Bool.or_eq_false_iff, beq_iff_eq, beq_eq_false_iff_ne, ne_eq, bne_iff_ne, bne_eq_false_iff_eq] at h9)
     refine .back [.r [(0, X (Xn ((i : Int) + 1)))]] [(0, 0)] (ih4 ((i + 1) : Nat) ?_ ?_)
     ·
      exact ⟨by omega, I4.2.trans (nodesE_next (by omega) h7 (by omega))⟩
     ·
      ((try dsimp only); omega)
  ·
   (try simp only [decide_eq_true_eq, decide_eq_false_iff_not, Int.not_lt, Int.not_le] at h4)
   refine .loop (α := Nat) [.r [(2, X (Xl nodeT d.nodes))]] 120 (fun j => ([(1, .ptr 0 0), (59, VI (d.nodes.length : Int)), (60, VI (j : Int))], [(0, .box [VL 9 nodeT d.nodes])])) (fun j => j ≤ d.nodes.length ∧ allRefsE d.nodes 0 = allRefsE d.nodes j) (fun j => d.nodes.length - j) (0 : Nat) ?_ ?_
   ·
    exact ⟨by omega, rfl⟩
   rintro j I13 ih13
   try dsimp only at I13
   refine .br [.r []] (decide ((j : Int) < (d.nodes.length : Int))) (fun h13 => ?_) (fun h13 => ?_)
   ·
    (try simp only [decide_eq_true_eq, decide_eq_false_iff_not, Int.not_lt, Int.not_le] at h13)
    have hn := hb.all _ (getDN_mem (l := d.nodes) (i := j) (by omega))
    refine .br [.r [], .r [(4, X (Xi nodeT d.nodes (j : Int))), (10, X (Xi nodeT d.nodes (j : Int))), (12, X (Xc1 240 (fc_refsOf ({ id := ((d.nodes.getD j default)).id, kind := ((d.nodes.getD j default)).kind, attrs := ((d.nodes.getD j default)).attrs, flow := ((d.nodes.getD j default)).flow, grid := (((d.nodes.getD j default)).grid), draw := ((d.nodes.getD j default)).draw } : Node) (by assumption)) X0)), (13, X (Xc0 (fc_refsR d (((d.nodes.getD j default)).kind) (refsN ({ id := ((d.nodes.getD j default)).id, kind := ((d.nodes.getD j default)).kind, attrs := ((d.nodes.getD j default)).attrs, flow := ((d.nodes.getD j default)).flow, grid := (((d.nodes.getD j default)).grid), draw := ((d.nodes.getD j default)).draw } : Node)) (by assumption)) X0))], .r []] ((refsE (d).nodes (((d.nodes.getD j default)).kind) (refsN ({ id := ((d.nodes.getD j default)).id, kind := ((d.nodes.getD j default)).kind, attrs := ((d.nodes.getD j default)).attrs, flow := ((d.nodes.getD j default)).flow, grid := (((d.nodes.getD j default)).grid), draw := ((d.nodes.getD j default)).draw } : Node)) 0) != 0) (fun h16 => ?_) (fun h16 => ?_)
    ·
     (try simp only [bne_iff_ne, bne_eq_false_iff_eq, ne_eq] at h16)
     have e4 : ((docE d) : Int) = (refsE (d).nodes (((d.nodes.getD j default)).kind) (refsN ({ id := ((d.nodes.getD j default)).id, kind := ((d.nodes.getD j default)).kind, attrs := ((d.nodes.getD j default)).attrs, flow := ((d.nodes.getD j default)).flow, grid := (((d.nodes.getD j default)).grid), draw := ((d.nodes.getD j default)).draw } : Node)) 0) := by
      exact docE_refs (by omega) (I4.2.trans (nodesE_end (by omega))) (I13.2.trans (allR_bad (by omega) h16))
     exact .finE [.r []] [] (fun z0 => (VI z0, [])) ((refsE (d).nodes (((d.nodes.getD j default)).kind) (refsN ({ id := ((d.nodes.getD j default)).id, kind := ((d.nodes.getD j default)).kind, attrs := ((d.nodes.getD j default)).attrs, flow := ((d.nodes.getD j default)).flow, grid := (((d.nodes.getD j default)).grid), draw := ((d.nodes.getD j default)).draw } : Node)) 0) : Int) ((docE d) : Int) e4
    ·
     (try simp only [bne_iff_ne, bne_eq_false_iff_eq, ne_eq] at h16)
     refine .back [.r [(0, X (Xn ((j : Int) + 1)))]] [(0, 0)] (ih13 ((j + 1) : Nat) ?_ ?_)
     ·
      exact ⟨by omega, I13.2.trans (allR_next (by omega) h16)⟩
     ·
      ((try dsimp only); omega)
   ·
    (try simp only [decide_eq_true_eq, decide_eq_false_iff_not, Int.not_lt, Int.not_le] at h13)
    have e5 : ((docE d) : Int) = 0 := by
     exact docE_refs (by omega) (I4.2.trans (nodesE_end (by omega))) (I13.2.trans (allR_end (by omega)))
    exact .finE [.r []] [] (fun z0 => (VI z0, [])) (0 : Int) ((docE d) : Int) e5

theorem fc_smallR (d : Doc) (hb : DocB d) : FC Tryz.prog 9 [.t (docT d), VN] (app emp []) (VB (smallD d)) (app emp []) := by
 refine .go Tryz.f9 ?_
 have hl := hb.len
 have hs := hb.sum
 refine .loop (α := Int × Nat) [.r [], .r [(2, X (Xl nodeT d.nodes))], .r [(2, X (Xl nodeT d.nodes))]] 80 (fun (n, i) => ([(1, VN), (2, .ptr 0 0), (5, VI n), (18, VI (d.nodes.length : Int)), (19, VI (i : Int))], [(0, .box [VL 9 nodeT d.nodes])])) (fun (n, i) => i ≤ d.nodes.length ∧ smallG d.nodes 0 = smallG d.nodes i ∧ n = ((d.nodes.length + lensN (d.nodes.take i) : Nat) : Int)) (fun (n, i) => d.nodes.length - i) ((d.nodes.length : Int), 0) ?_ ?_
 ·
  exact ⟨by omega, rfl, by simp [lensN]⟩
 rintro ⟨n, i⟩ I3 ih3
 try dsimp only at I3
 refine .br [.r []] (decide ((i : Int) < (d.nodes.length : Int))) (fun h3 => ?_) (fun h3 => ?_)
 ·
  (try simp only [decide_eq_true_eq, decide_eq_false_iff_not, Int.not_lt, Int.not_le] at h3)
  have ht := lens_at (l := d.nodes) (i := i) (by omega)
  have hle := lens_le d.nodes (i + 1)
  unfold lenN at ht
  refine .br [.r [], .r [(3, X (Xi nodeT d.nodes (i : Int)))], .r [(3, X (Xl elemT (((d.nodes.getD i default)).flow))), (7, X (Xl cellT ((((d.nodes.getD i default)).grid).cells))), (8, X (Xn (((((d.nodes.getD i default)).flow).length : Int) + (((((d.nodes.getD i default)).grid).cells).length : Int)))), (11, X (Xl dopT (((d.nodes.getD i default)).draw))), (12, X (Xn ((((((d.nodes.getD i default)).flow).length : Int) + (((((d.nodes.getD i default)).grid).cells).length : Int)) + ((((d.nodes.getD i default)).draw).length : Int)))), (13, X (Xn (n + ((((((d.nodes.getD i default)).flow).length : Int) + (((((d.nodes.getD i default)).grid).cells).length : Int)) + ((((d.nodes.getD i default)).draw).length : Int)))))], .r [(6, Xv 1 (!(decide (((((d.nodes.getD i default)).grid).rows) > 30))) X0), (7, Xv 1 (!(decide (((((d.nodes.getD i default)).grid).rows) > 30))) X0), (8, Xv 1 (!(decide (((((d.nodes.getD i default)).grid).rows) > 30))) X0), (9, X (Xk' (decide (((((d.nodes.getD i default)).grid).rows) > 30))))]] (decide (((((d.nodes.getD i default)).grid).rows) > 30) || decide (((((d.nodes.getD i default)).grid).cols) > 30)) (fun h7 => ?_) (fun h7 => ?_)
  ·
   (try simp only [decide_eq_true_eq, decide_eq_false_iff_not, Int.not_lt, Int.not_le, gt_iff_lt, Bool.or_eq_true, Bool.or_eq_false_iff] at h7)
   have e1 : ((smallD d) : Bool) = false := by
    unfold smallD; rw [I3.2.1, smallG, if_pos (by omega), if_pos (by omega)]; rfl
   exact .finE [.r []] [] (fun z0 => (VB z0, [])) (false : Bool) ((smallD d) : Bool) e1
  ·
   (try simp only [decide_eq_true_eq, decide_eq_false_iff_not, Int.not_lt, Int.not_le, gt_iff_lt, Bool.or_eq_true, Bool.or_eq_false_iff] at h7)
   refine .back [.r [(0, X (Xn ((i : Int) + 1)))]] [(0, 0)] (ih3 ((n + ((((((d.nodes.getD i default)).flow).length : Int) + (((((d.nodes.getD i default)).grid).cells).length : Int)) + ((((d.nodes.getD i default)).draw).length : Int))), (i + 1)) ?_ ?_)
   ·
    exact ⟨by omega, by rw [I3.2.1, smallG, if_pos (by omega), if_neg (by omega)], by omega⟩
   ·
    ((try dsimp only); omega)
 ·
  (try simp only [decide_eq_true_eq, decide_eq_false_iff_not, Int.not_lt, Int.not_le] at h3)
  have e2 : ((smallD d) : Bool) = ((decide (n ≤ 400) || false) || false) := by
   have ht := I3.2.2
   rw [List.take_of_length_le (by omega)] at ht
   unfold smallD; rw [I3.2.1, smallG, if_neg (by omega), Bool.eq_iff_iff]; simp only [Bool.true_and, Bool.and_true, Bool.or_false, Bool.and_eq_true, decide_eq_true_eq]; omega
  exact .finE [.r [], .u, .r [], .f, .r [], .r [], .u, .r [], .f, .r [(4, Xv 1 (decide (n ≤ 400)) X0), (5, Xv 1 (decide (n ≤ 400)) X0), (6, X (Xk (decide (n ≤ 400)))), (9, Xv 1 (decide (n ≤ 400) || false) X0), (10, X (Xk (decide (n ≤ 400) || false)))]] [] (fun z0 => (VB z0, [])) (((decide (n ≤ 400) || false) || false) : Bool) ((smallD d) : Bool) e2
end Go.Ch
end
section
set_option linter.unusedVariables false
set_option linter.unusedSimpArgs false
set_option maxRecDepth 100000
set_option maxHeartbeats 4000000
open Go Go.Proofs Go.Ab
namespace Go.Ch
theorem fc_find1 (n : Node) (k : Int) : FC Tryz.prog 113 [.t (nodeT n), VI k] (app emp []) (VI (cmpN9 n k)) (app emp []) := by
 refine .go Tryz.f113 ?_
 refine .br [.r [], .r []] (decide (n.id < k)) (fun h1 => ?_) (fun h1 => ?_)
 ·
  (try simp only [decide_eq_true_eq, decide_eq_false_iff_not, Int.not_lt, Int.not_le] at h1)
  have e1 : ((cmpN9 n k) : Int) = -1 := by
   unfold cmpN9; ((repeat' split) <;> first | rfl | omega | (simp_all; done) | (simp_all; omega))
  exact .finE [.r []] [] (fun z0 => (VI z0, [])) (-1 : Int) ((cmpN9 n k) : Int) e1
 ·
  (try simp only [decide_eq_true_eq, decide_eq_false_iff_not, Int.not_lt, Int.not_le] at h1)
  refine .br [.r []] (decide (n.id > k)) (fun h3 => ?_) (fun h3 => ?_)
  ·
   (try simp only [decide_eq_true_eq, decide_eq_false_iff_not, Int.not_lt, Int.not_le, gt_iff_lt] at h3)
   have e2 : ((cmpN9 n k) : Int) = 1 := by
    unfold cmpN9; ((repeat' split) <;> first | rfl | omega | (simp_all; done) | (simp_all; omega))
   exact .finE [.r []] [] (fun z0 => (VI z0, [])) (1 : Int) ((cmpN9 n k) : Int) e2
  ·
   (try simp only [decide_eq_true_eq, decide_eq_false_iff_not, Int.not_lt, Int.not_le, gt_iff_lt] at h3)
   have e3 : ((cmpN9 n k) : Int) = 0 := by
    unfold cmpN9; ((repeat' split) <;> first | rfl | omega | (simp_all; done) | (simp_all; omega))
   exact .finE [.r []] [] (fun z0 => (VI z0, [])) (0 : Int) ((cmpN9 n k) : Int) e3

theorem fc_bsN (l : List Node) (k : Int) (hn : l.length ≤ 1048576) (hs : SortN l) : FC Tryz.prog 112 [VL 9 nodeT l, VI k, .fn 113 []] (app emp []) (.tup [VI (lobN l k : Int), VB (hasN l k)]) (app emp []) := by
 refine .go Tryz.f112 ?_
 refine .len 0 (fun hl0 => ?_)
 obtain ⟨s1, s2, s3⟩ := lobN_all l k
 refine .loop (α := Nat × Nat) [.r [], .r [(1, X (Xl nodeT l))], .r []] 64 (fun (i, j) => ([(0, VL 9 nodeT l), (1, VI k), (2, .fn 113 []), (8, VI (l.length : Int)), (9, VI (i : Int)), (10, VI (j : Int))], [])) (fun (i, j) => i ≤ lobN l k ∧ lobN l k ≤ j ∧ j ≤ l.length) (fun (i, j) => j - i) (0, l.length) ?_ ?_
 ·
  exact ⟨by omega, by omega, by omega⟩
 rintro ⟨i, j⟩ I3 ih3
 try dsimp only at I3
 refine .br [.r []] (decide ((i : Int) < (j : Int))) (fun h3 => ?_) (fun h3 => ?_)
 ·
  (try simp only [decide_eq_true_eq, decide_eq_false_iff_not, Int.not_lt, Int.not_le] at h3)
  obtain ⟨m, hm⟩ : ∃ m : Nat, ((i : Int) + (j : Int)) / 2 = (m : Int) := ⟨(i + j) / 2, by omega⟩
  refine .br [.r [(2, X (Xn ((i : Int) + (j : Int)))), (3, X (Xcv IntKind.u64 ((i : Int) + (j : Int))) (by simp [IntKind.wrap, IntKind.bits, IntKind.signed]; omega)), (4, X (Xsh IntKind.u64 1 (((i : Int) + (j : Int)).fdiv (2 ^ (min (1 : Int).toNat IntKind.u64.bits))) (((i : Int) + (j : Int)) / 2)) ⟨by decide, (by rw [Int.fdiv_eq_ediv_of_nonneg _ (by decide)]; rfl)⟩), (5, X (Xn (((i : Int) + (j : Int)) / 2)))], .le (.eq 11 (VI (((i : Int) + (j : Int)) / 2)) (VI (m : Int)) (.of_eq (by rw [← hm]))), .r [(3, X (Xi nodeT l (m : Int))), (6, X (Xc0 (fc_find1 ({ id := ((l.getD m default)).id, kind := ((l.getD m default)).kind, attrs := ((l.getD m default)).attrs, flow := ((l.getD m default)).flow, grid := (((l.getD m default)).grid), draw := ((l.getD m default)).draw } : Node) k) X0))]] (decide ((cmpN9 ({ id := ((l.getD m default)).id, kind := ((l.getD m default)).kind, attrs := ((l.getD m default)).attrs, flow := ((l.getD m default)).flow, grid := (((l.getD m default)).grid), draw := ((l.getD m default)).draw } : Node) k) < 0)) (fun h5 => ?_) (fun h5 => ?_)
  ·
   (try simp only [decide_eq_true_eq, decide_eq_false_iff_not, Int.not_lt, Int.not_le] at h5)
   refine .back [.r [(1, X (Xn ((m : Int) + 1)))]] [] (ih3 ((m + 1), j) ?_ ?_)
   ·
    have := lobN_lt hs (m := m) (by omega) (cmpN9_lt.1 h5)
    exact ⟨by omega, by omega, by omega⟩
   ·
    ((try dsimp only); omega)
  ·
   (try simp only [decide_eq_true_eq, decide_eq_false_iff_not, Int.not_lt, Int.not_le] at h5)
   refine .back [.r []] [] (ih3 (i, m) ?_ ?_)
   ·
    have := lobN_ge (l := l) (k := k) (m := m) (fun q => by have := cmpN9_lt.2 q; omega)
    exact ⟨by omega, by omega, by omega⟩
   ·
    ((try dsimp only); omega)
 ·
  (try simp only [decide_eq_true_eq, decide_eq_false_iff_not, Int.not_lt, Int.not_le] at h3)
  have hi : i = lobN l k := by omega
  have e1 : ((lobN l k : Int) : Int) = (i : Int) := by
   first | omega | (unfold hasN; rw [← hi])
  have e2 : ((hasN l k) : Bool) = (decide ((i : Int) < (l.length : Int)) && ((cmpN9 ({ id := ((l.getD i default)).id, kind := ((l.getD i default)).kind, attrs := ((l.getD i default)).attrs, flow := ((l.getD i default)).flow, grid := (((l.getD i default)).grid), draw := ((l.getD i default)).draw } : Node) k) == 0)) := by
   first | omega | (unfold hasN; rw [← hi])
  exact .finE [.r [(8, Xv 2 (decide ((i : Int) < (l.length : Int))) (Xi nodeT l (i : Int))), (9, Xv 1 (decide ((i : Int) < (l.length : Int))) X0), (11, Xv 3 (decide ((i : Int) < (l.length : Int))) (Xc0 (fc_find1 ({ id := ((l.getD i default)).id, kind := ((l.getD i default)).kind, attrs := ((l.getD i default)).attrs, flow := ((l.getD i default)).flow, grid := (((l.getD i default)).grid), draw := ((l.getD i default)).draw } : Node) k) X0)), (12, Xv 1 (decide ((i : Int) < (l.length : Int))) X0), (13, X (Xk (decide ((i : Int) < (l.length : Int)))))]] [] (fun (z0, z1) => (.tup [VI z0, VB z1], [])) (((i : Int) : Int), ((decide ((i : Int) < (l.length : Int)) && ((cmpN9 ({ id := ((l.getD i default)).id, kind := ((l.getD i default)).kind, attrs := ((l.getD i default)).attrs, flow := ((l.getD i default)).flow, grid := (((l.getD i default)).grid), draw := ((l.getD i default)).draw } : Node) k) == 0)) : Bool)) (((lobN l k : Int) : Int), ((hasN l k) : Bool)) (pr e1 e2)

theorem fc_findN (d : Doc) (k : Int) (hn : d.nodes.length ≤ 1048576) (hs : SortN d.nodes) : FC Tryz.prog 76 [.t (docT d), VI k] (app emp []) (.tup [VI (lobN d.nodes k : Int), VB (hasN d.nodes k)]) (app emp []) := by
 refine .go Tryz.f76 ?_
 exact .fin [.r [], .r [(3, X (Xc0 (fc_bsN d.nodes k (by omega) (by assumption)) X0))]] []

theorem fc_refsFl (f : List Elem) (hn : f.length ≤ 1048576) : FC Tryz.prog 77 [VL 3 elemT f] (app emp []) (.row 0 ((refsF f).length)) (app emp [(0, OR 1 intT (refsF f))]) := by
 refine .go Tryz.f77 ?_
 refine .len 0 (fun hl0 => ?_)
 refine .loop (α := Nat × (List Int)) [.r [], .r [], .r [(1, X (Xl elemT f))], .le (.nR 3 1)] 41 (fun (i, o) => ([(3, .row 40 o.length), (6, VL 3 elemT f), (7, VI (f.length : Int)), (8, VI (i : Int))], [(40, OR 1 intT o)])) (fun (i, o) => i ≤ f.length ∧ o = refsF (f.take i)) (fun (i, o) => f.length - i) (0, []) ?_ ?_
 ·
  exact ⟨by omega, rfl⟩
 rintro ⟨i, o⟩ I3 ih3
 try dsimp only at I3
 have ol : o.length ≤ i := by rw [I3.2]; unfold refsF; exact Nat.le_trans (List.length_filterMap_le _ _) (by rw [List.length_take]; omega)
 refine .br [.r []] (decide ((i : Int) < (f.length : Int))) (fun h3 => ?_) (fun h3 => ?_)
 ·
  (try simp only [decide_eq_true_eq, decide_eq_false_iff_not, Int.not_lt, Int.not_le] at h3)
  refine .br [.r [(0, X (Xi elemT f (i : Int)))], .r []] ((((f.getD i default)).ref) != 0) (fun h5 => ?_) (fun h5 => ?_)
  ·
   (try simp only [bne_iff_ne, bne_eq_false_iff_eq, ne_eq] at h5)
   refine .back [.r [(4, X (rowC intT [((f.getD i default)).ref] (Xap 1 intT 40 o [((f.getD i default)).ref])))], .r [(0, X (Xn ((i : Int) + 1)))]] [(40, 40)] (ih3 ((i + 1), (o ++ [((f.getD i default)).ref])) ?_ ?_)
   ·
    refine ⟨by omega, ?_⟩
    rw [I3.2]; unfold refsF; rw [filM_succ _ (by omega)]
    first | (rw [if_pos (by omega)]; rfl) | (rw [if_neg (by omega)]; simp)
   ·
    ((try dsimp only); omega)
  ·
   (try simp only [bne_iff_ne, bne_eq_false_iff_eq, ne_eq] at h5)
   refine .back [.r [(0, X (Xn ((i : Int) + 1)))]] [(40, 40)] (ih3 ((i + 1), o) ?_ ?_)
   ·
    refine ⟨by omega, ?_⟩
    rw [I3.2]; unfold refsF; rw [filM_succ _ (by omega)]
    first | (rw [if_pos (by omega)]; rfl) | (rw [if_neg (by omega)]; simp)
   ·
    ((try dsimp only); omega)
 ·
  (try simp only [decide_eq_true_eq, decide_eq_false_iff_not, Int.not_lt, Int.not_le] at h3)
  have e1 : ((refsF f) : List Int) = o := by
   rw [I3.2, List.take_of_length_le (by omega)]
  have e2 : ((refsF f).length : Nat) = o.length := by
   rw [I3.2, List.take_of_length_le (by omega)]
  exact .finE [.r []] [(40, 0)] (fun (z0, z1) => (.row 0 z1, [(0, OR 1 intT z0)])) ((o : List Int), (o.length : Nat)) (((refsF f) : List Int), ((refsF f).length : Nat)) (pr e1 e2)

theorem fc_refsNd (n : Node) (hb : NodeB n) : FC Tryz.prog 47 [.t (nodeT n)] (app emp []) (VL 1 intT (refsN n)) (app emp []) := by
 refine .go Tryz.f47 ?_
 have b1 := hb.fl2
 have b2 := hb.ce2
 have b3 : (refsF n.flow).length ≤ n.flow.length := List.length_filterMap_le _ _
 refine .loop (α := Nat × (List Int)) [.r [], .r [(2, X (Xc1 32 (fc_refsFl n.flow (by omega)) X0))], .r [(3, X (Xl cellT n.grid.cells))]] 88 (fun (j, p) => ([(3, .row 32 p.length), (11, VL 5 cellT n.grid.cells), (12, VI (n.grid.cells.length : Int)), (13, VI (j : Int))], [(32, OR 1 intT p)])) (fun (j, p) => j ≤ n.grid.cells.length ∧ p = refsF n.flow ++ refsC (n.grid.cells.take j)) (fun (j, p) => n.grid.cells.length - j) (0, (refsF n.flow)) ?_ ?_
 ·
  exact ⟨by omega, by simp [refsC]⟩
 rintro ⟨j, p⟩ I3 ih3
 try dsimp only at I3
 have ol2 : p.length ≤ n.flow.length + j := by rw [I3.2, List.length_append]; unfold refsC; have q2 := List.length_filterMap_le (fun x : Cell => if x.ref ≠ 0 then some x.ref else none) (n.grid.cells.take j); rw [List.length_take] at q2; omega
 refine .br [.r []] (decide ((j : Int) < (n.grid.cells.length : Int))) (fun h3 => ?_) (fun h3 => ?_)
 ·
  (try simp only [decide_eq_true_eq, decide_eq_false_iff_not, Int.not_lt, Int.not_le] at h3)
  refine .br [.r [(0, X (Xi cellT n.grid.cells (j : Int)))], .r []] ((((n.grid.cells.getD j default)).ref) != 0) (fun h5 => ?_) (fun h5 => ?_)
  ·
   (try simp only [bne_iff_ne, bne_eq_false_iff_eq, ne_eq] at h5)
   refine .back [.r [(4, X (rowC intT [((n.grid.cells.getD j default)).ref] (Xap 1 intT 32 p [((n.grid.cells.getD j default)).ref])))], .r [(0, X (Xn ((j : Int) + 1)))]] [(32, 32)] (ih3 ((j + 1), (p ++ [((n.grid.cells.getD j default)).ref])) ?_ ?_)
   ·
    refine ⟨by omega, ?_⟩
    rw [I3.2]; unfold refsC; rw [filM_succ _ (by omega), ← List.append_assoc]
    first | (rw [if_pos (by omega)]; rfl) | (rw [if_neg (by omega)]; simp)
   ·
    ((try dsimp only); omega)
  ·
   (try simp only [bne_iff_ne, bne_eq_false_iff_eq, ne_eq] at h5)
   refine .back [.r [(0, X (Xn ((j : Int) + 1)))]] [(32, 32)] (ih3 ((j + 1), p) ?_ ?_)
   ·
    refine ⟨by omega, ?_⟩
    rw [I3.2]; unfold refsC; rw [filM_succ _ (by omega), ← List.append_assoc]
    first | (rw [if_pos (by omega)]; rfl) | (rw [if_neg (by omega)]; simp)
   ·
    ((try dsimp only); omega)
 ·
  (try simp only [decide_eq_true_eq, decide_eq_false_iff_not, Int.not_lt, Int.not_le] at h3)
  have e1 : ((refsN n) : List Int) = p := by
   rw [I3.2, List.take_of_length_le (by omega)]; rfl
  exact .finE [.r [], .le (.fr 2 [(p.length : Nat) = (List.map intT p).length] ⟨lm, trivial⟩)] [] (fun z0 => (VL 1 intT z0, [])) (p : List Int) ((refsN n) : List Int) e1
end Go.Ch
end
section
set_option linter.unusedVariables false
set_option linter.unusedSimpArgs false
set_option maxRecDepth 100000
set_option maxHeartbeats 4000000
open Go Go.Proofs Go.Ab
namespace Go.Ch
theorem fc_idxI (l : List Int) (x : Int) : FC Tryz.prog 81 [VL 1 intT l, VI x] (app emp []) (VI (idxF (fun y => x == y) l 0)) (app emp []) := by
 refine .go Tryz.f81 ?_
 refine .len 0 (fun hl0 => ?_)
 refine .loop (α := Nat) [.r [], .r [(1, X (Xl intT l))]] 32 (fun i => ([(0, VL 1 intT l), (1, VI x), (7, VI (l.length : Int)), (8, VI (i : Int))], [])) (fun i => i ≤ l.length ∧ idxF (fun y => x == y) l 0 = idxF (fun y => x == y) l i) (fun i => l.length - i) (0 : Nat) ?_ ?_
 ·
  exact ⟨by omega, rfl⟩
 rintro i I2 ih2
 try dsimp only at I2
 refine .br [.r []] (decide ((i : Int) < (l.length : Int))) (fun h2 => ?_) (fun h2 => ?_)
 ·
  (try simp only [decide_eq_true_eq, decide_eq_false_iff_not, Int.not_lt, Int.not_le] at h2)
  refine .br [.r [], .r [(3, X (Xi intT l (i : Int)))]] (x == (l.getD i default)) (fun h4 => ?_) (fun h4 => ?_)
  ·
   (try simp only [beq_iff_eq, beq_eq_false_iff_ne, ne_eq] at h4)
   have e1 : ((idxF (fun y => x == y) l 0) : Int) = (i : Int) := by
    rw [I2.2, idxF, if_pos (by omega), if_pos (by simpa using h4)]
   exact .finE [.r []] [] (fun z0 => (VI z0, [])) ((i : Int) : Int) ((idxF (fun y => x == y) l 0) : Int) e1
  ·
   (try simp only [beq_iff_eq, beq_eq_false_iff_ne, ne_eq] at h4)
   refine .back [.r [(0, X (Xn ((i : Int) + 1)))]] [] (ih2 ((i + 1) : Nat) ?_ ?_)
   ·
    exact ⟨by omega, by rw [I2.2, idxF, if_pos (by omega), if_neg (by simpa using h4)]⟩
   ·
    ((try dsimp only); omega)
 ·
  (try simp only [decide_eq_true_eq, decide_eq_false_iff_not, Int.not_lt, Int.not_le] at h2)
  have e2 : ((idxF (fun y => x == y) l 0) : Int) = -1 := by
   rw [I2.2, idxF, if_neg (by omega)]
  exact .finE [.r []] [] (fun z0 => (VI z0, [])) (-1 : Int) ((idxF (fun y => x == y) l 0) : Int) e2

theorem fc_hasI (l : List Int) (x : Int) : FC Tryz.prog 43 [VL 1 intT l, VI x] (app emp []) (VB (l.any (fun y => x == y))) (app emp []) := by
 refine .go Tryz.f43 ?_
 refine .len 0 (fun hl0 => ?_)
 have e1 : ((l.any (fun y => x == y)) : Bool) = decide ((idxF (fun y => x == y) l 0) ≥ 0) := by
  rw [Bool.eq_iff_iff]; simp only [decide_eq_true_eq, ge_iff_le]; rw [idxF_any]
 exact .finE [.r [], .r [(2, X (Xc0 (fc_idxI l x) X0))]] [] (fun z0 => (VB z0, [])) (decide ((idxF (fun y => x == y) l 0) ≥ 0) : Bool) ((l.any (fun y => x == y)) : Bool) e1

theorem fc_permN (p k : Int) : FC Tryz.prog 91 [VI p, VI k] (app emp []) (VB (permB p k)) (app emp []) := by
 refine .go Tryz.f91 ?_
 refine .br [.r [], .r [], .r [], .r []] (p == 0) (fun h3 => ?_) (fun h3 => ?_)
 ·
  (try simp only [beq_iff_eq, beq_eq_false_iff_ne, ne_eq] at h3)
  have e1 : ((permB p k) : Bool) = (([1, 6, 7, 10, 11, 12]).any (fun y => k == y)) := by
   rw [Bool.eq_iff_iff]; unfold permB hasT; simp only [List.any_cons, List.any_nil, Bool.or_false, Bool.or_eq_true, beq_iff_eq, Bool.false_eq_true, false_iff, iff_false]; (repeat' split) <;> (try simp only [Bool.or_eq_true, beq_iff_eq, Bool.false_eq_true, false_iff]) <;> first | omega | (simp; done)
  exact .finE [.r [], .r [(2, X (Xc0 (fc_hasI [1, 6, 7, 10, 11, 12] k) (rowC intT [1, 6, 7, 10, 11, 12] X0)))]] [] (fun z0 => (VB z0, [])) ((([1, 6, 7, 10, 11, 12]).any (fun y => k == y)) : Bool) ((permB p k) : Bool) e1
 ·
  (try simp only [beq_iff_eq, beq_eq_false_iff_ne, ne_eq] at h3)
  refine .br [.r []] (p == 1) (fun h5 => ?_) (fun h5 => ?_)
  ·
   (try simp only [beq_iff_eq, beq_eq_false_iff_ne, ne_eq] at h5)
   have e2 : ((permB p k) : Bool) = (([2, 4, 5, 10]).any (fun y => k == y)) := by
    rw [Bool.eq_iff_iff]; unfold permB hasT; simp only [List.any_cons, List.any_nil, Bool.or_false, Bool.or_eq_true, beq_iff_eq, Bool.false_eq_true, false_iff, iff_false]; (repeat' split) <;> (try simp only [Bool.or_eq_true, beq_iff_eq, Bool.false_eq_true, false_iff]) <;> first | omega | (simp; done)
   exact .finE [.r [], .r [(2, X (Xc0 (fc_hasI [2, 4, 5, 10] k) (rowC intT [2, 4, 5, 10] X0)))]] [] (fun z0 => (VB z0, [])) ((([2, 4, 5, 10]).any (fun y => k == y)) : Bool) ((permB p k) : Bool) e2
  ·
   (try simp only [beq_iff_eq, beq_eq_false_iff_ne, ne_eq] at h5)
   refine .br [.r []] (p == 3) (fun h7 => ?_) (fun h7 => ?_)
   ·
    (try simp only [beq_iff_eq, beq_eq_false_iff_ne, ne_eq] at h7)
    have e3 : ((permB p k) : Bool) = (([4, 5, 10]).any (fun y => k == y)) := by
     rw [Bool.eq_iff_iff]; unfold permB hasT; simp only [List.any_cons, List.any_nil, Bool.or_false, Bool.or_eq_true, beq_iff_eq, Bool.false_eq_true, false_iff, iff_false]; (repeat' split) <;> (try simp only [Bool.or_eq_true, beq_iff_eq, Bool.false_eq_true, false_iff]) <;> first | omega | (simp; done)
    exact .finE [.r [], .r [(2, X (Xc0 (fc_hasI [4, 5, 10] k) (rowC intT [4, 5, 10] X0)))]] [] (fun z0 => (VB z0, [])) ((([4, 5, 10]).any (fun y => k == y)) : Bool) ((permB p k) : Bool) e3
   ·
    (try simp only [beq_iff_eq, beq_eq_false_iff_ne, ne_eq] at h7)
    refine .br [.r []] (p == 4) (fun h9 => ?_) (fun h9 => ?_)
    ·
     (try simp only [beq_iff_eq, beq_eq_false_iff_ne, ne_eq] at h9)
     refine .br [] (p == 4) (fun h9 => ?_) (fun h9 => ?_)
     ·
      (try simp only [beq_iff_eq, beq_eq_false_iff_ne, ne_eq] at h9)
      have e4 : ((permB p k) : Bool) = (([5]).any (fun y => k == y)) := by
       rw [Bool.eq_iff_iff]; unfold permB hasT; simp only [List.any_cons, List.any_nil, Bool.or_false, Bool.or_eq_true, beq_iff_eq, Bool.false_eq_true, false_iff, iff_false]; (repeat' split) <;> (try simp only [Bool.or_eq_true, beq_iff_eq, Bool.false_eq_true, false_iff]) <;> first | omega | (simp; done)
      exact .finE [.r [], .r [(2, X (Xc0 (fc_hasI [5] k) (rowC intT [5] X0)))]] [] (fun z0 => (VB z0, [])) ((([5]).any (fun y => k == y)) : Bool) ((permB p k) : Bool) e4
     ·
      (try simp only [beq_iff_eq, beq_eq_false_iff_ne, ne_eq] at h9)
      refine .br [.r []] (p == 2) (fun h12 => ?_) (fun h12 => ?_)
      ·
       (try simp only [beq_iff_eq, beq_eq_false_iff_ne, ne_eq] at h12)
       have e5 : ((permB p k) : Bool) = (([3]).any (fun y => k == y)) := by
        rw [Bool.eq_iff_iff]; unfold permB hasT; simp only [List.any_cons, List.any_nil, Bool.or_false, Bool.or_eq_true, beq_iff_eq, Bool.false_eq_true, false_iff, iff_false]; (repeat' split) <;> (try simp only [Bool.or_eq_true, beq_iff_eq, Bool.false_eq_true, false_iff]) <;> first | omega | (simp; done)
       exact .finE [.r [], .r [(2, X (Xc0 (fc_hasI [3] k) (rowC intT [3] X0)))]] [] (fun z0 => (VB z0, [])) ((([3]).any (fun y => k == y)) : Bool) ((permB p k) : Bool) e5
      ·
       (try simp only [beq_iff_eq, beq_eq_false_iff_ne, ne_eq] at h12)
       refine .br [.r []] (p == 7) (fun h14 => ?_) (fun h14 => ?_)
       ·
        (try simp only [beq_iff_eq, beq_eq_false_iff_ne, ne_eq] at h14)
        have e6 : ((permB p k) : Bool) = (([8, 9]).any (fun y => k == y)) := by
         rw [Bool.eq_iff_iff]; unfold permB hasT; simp only [List.any_cons, List.any_nil, Bool.or_false, Bool.or_eq_true, beq_iff_eq, Bool.false_eq_true, false_iff, iff_false]; (repeat' split) <;> (try simp only [Bool.or_eq_true, beq_iff_eq, Bool.false_eq_true, false_iff]) <;> first | omega | (simp; done)
        exact .finE [.r [], .r [(2, X (Xc0 (fc_hasI [8, 9] k) (rowC intT [8, 9] X0)))]] [] (fun z0 => (VB z0, [])) ((([8, 9]).any (fun y => k == y)) : Bool) ((permB p k) : Bool) e6
       ·
        (try simp only [beq_iff_eq, beq_eq_false_iff_ne, ne_eq] at h14)
        have e7 : ((permB p k) : Bool) = (([]).any (fun y => k == y)) := by
         rw [Bool.eq_iff_iff]; unfold permB hasT; simp only [List.any_cons, List.any_nil, Bool.or_false, Bool.or_eq_true, beq_iff_eq, Bool.false_eq_true, false_iff, iff_false]; (repeat' split) <;> (try simp only [Bool.or_eq_true, beq_iff_eq, Bool.false_eq_true, false_iff]) <;> first | omega | (simp; done)
        exact .finE [.r [(2, X (Xc0 (.nil 0 1 (fc_hasI [] k)) X0))]] [] (fun z0 => (VB z0, [])) ((([]).any (fun y => k == y)) : Bool) ((permB p k) : Bool) e7
    ·
     (try simp only [beq_iff_eq, beq_eq_false_iff_ne, ne_eq] at h9)
     refine .br [.r []] (p == 12) (fun h10 => ?_) (fun h10 => ?_)
     ·
      (try simp only [beq_iff_eq, beq_eq_false_iff_ne, ne_eq] at h10)
      have e8 : ((permB p k) : Bool) = (([5]).any (fun y => k == y)) := by
       rw [Bool.eq_iff_iff]; unfold permB hasT; simp only [List.any_cons, List.any_nil, Bool.or_false, Bool.or_eq_true, beq_iff_eq, Bool.false_eq_true, false_iff, iff_false]; (repeat' split) <;> (try simp only [Bool.or_eq_true, beq_iff_eq, Bool.false_eq_true, false_iff]) <;> first | omega | (simp; done)
      exact .finE [.r [], .r [(2, X (Xc0 (fc_hasI [5] k) (rowC intT [5] X0)))]] [] (fun z0 => (VB z0, [])) ((([5]).any (fun y => k == y)) : Bool) ((permB p k) : Bool) e8
     ·
      (try simp only [beq_iff_eq, beq_eq_false_iff_ne, ne_eq] at h10)
      refine .br [.r []] (p == 2) (fun h12 => ?_) (fun h12 => ?_)
      ·
       (try simp only [beq_iff_eq, beq_eq_false_iff_ne, ne_eq] at h12)
       have e9 : ((permB p k) : Bool) = (([3]).any (fun y => k == y)) := by
        rw [Bool.eq_iff_iff]; unfold permB hasT; simp only [List.any_cons, List.any_nil, Bool.or_false, Bool.or_eq_true, beq_iff_eq, Bool.false_eq_true, false_iff, iff_false]; (repeat' split) <;> (try simp only [Bool.or_eq_true, beq_iff_eq, Bool.false_eq_true, false_iff]) <;> first | omega | (simp; done)
       exact .finE [.r [], .r [(2, X (Xc0 (fc_hasI [3] k) (rowC intT [3] X0)))]] [] (fun z0 => (VB z0, [])) ((([3]).any (fun y => k == y)) : Bool) ((permB p k) : Bool) e9
      ·
       (try simp only [beq_iff_eq, beq_eq_false_iff_ne, ne_eq] at h12)
       refine .br [.r []] (p == 7) (fun h14 => ?_) (fun h14 => ?_)
       ·
        (try simp only [beq_iff_eq, beq_eq_false_iff_ne, ne_eq] at h14)
        have e10 : ((permB p k) : Bool) = (([8, 9]).any (fun y => k == y)) := by
         rw [Bool.eq_iff_iff]; unfold permB hasT; simp only [List.any_cons, List.any_nil, Bool.or_false, Bool.or_eq_true, beq_iff_eq, Bool.false_eq_true, false_iff, iff_false]; (repeat' split) <;> (try simp only [Bool.or_eq_true, beq_iff_eq, Bool.false_eq_true, false_iff]) <;> first | omega | (simp; done)
        exact .finE [.r [], .r [(2, X (Xc0 (fc_hasI [8, 9] k) (rowC intT [8, 9] X0)))]] [] (fun z0 => (VB z0, [])) ((([8, 9]).any (fun y => k == y)) : Bool) ((permB p k) : Bool) e10
       ·
        (try simp only [beq_iff_eq, beq_eq_false_iff_ne, ne_eq] at h14)
        have e11 : ((permB p k) : Bool) = (([]).any (fun y => k == y)) := by
         rw [Bool.eq_iff_iff]; unfold permB hasT; simp only [List.any_cons, List.any_nil, Bool.or_false, Bool.or_eq_true, beq_iff_eq, Bool.false_eq_true, false_iff, iff_false]; (repeat' split) <;> (try simp only [Bool.or_eq_true, beq_iff_eq, Bool.false_eq_true, false_iff]) <;> first | omega | (simp; done)
        exact .finE [.r [(2, X (Xc0 (.nil 0 1 (fc_hasI [] k)) X0))]] [] (fun z0 => (VB z0, [])) ((([]).any (fun y => k == y)) : Bool) ((permB p k) : Bool) e11

theorem fc_refsCk (d : Doc) (k : Int) (rs : List Int) (hl : d.nodes.length ≤ 1048576) (hs : SortN d.nodes) : FC Tryz.prog 46 [.t (docT d), VI k, VL 1 intT rs] (app emp []) (VI (refsE d.nodes k rs 0)) (app emp []) := by
 refine .go Tryz.f46 ?_
 refine .len 2 (fun hl2 => ?_)
 refine .loop (α := Nat) [.r [], .r [(1, X (Xl intT rs))]] 40 (fun i => ([(1, VI k), (3, .ptr 0 0), (11, VL 1 intT rs), (12, VI (rs.length : Int)), (13, VI (i : Int))], [(0, .box [VL 9 nodeT d.nodes])])) (fun i => i ≤ rs.length ∧ refsE d.nodes k rs 0 = refsE d.nodes k rs i) (fun i => rs.length - i) (0 : Nat) ?_ ?_
 ·
  exact ⟨by omega, rfl⟩
 rintro i I2 ih2
 try dsimp only at I2
 refine .br [.r []] (decide ((i : Int) < (rs.length : Int))) (fun h2 => ?_) (fun h2 => ?_)
 ·
  (try simp only [decide_eq_true_eq, decide_eq_false_iff_not, Int.not_lt, Int.not_le] at h2)
  refine .br [.r [(0, X (Xi intT rs (i : Int)))], .r [(2, X (Xc0 (fc_findN d (rs.getD i default) (by assumption) (by assumption)) X0))], .r []] (!(hasN (d).nodes (rs.getD i default))) (fun h5 => ?_) (fun h5 => ?_)
  ·
   (try simp only [Bool.not_eq_true', Bool.not_eq_false'] at h5)
   have e1 : ((refsE d.nodes k rs 0) : Int) = 7 := by
    exact I2.2.trans (refsE_none (by omega) (find_no hs h5))
   exact .finE [.r []] [] (fun z0 => (VI z0, [])) (7 : Int) ((refsE d.nodes k rs 0) : Int) e1
  ·
   (try simp only [Bool.not_eq_true', Bool.not_eq_false'] at h5)
   obtain ⟨q1, q2⟩ := hasN_iff.1 h5
   have hf := find_yes hs h5
   refine .br [.r [(4, X (Xi nodeT d.nodes (lobN (d).nodes (rs.getD i default) : Int))), (7, X (Xc0 (fc_permN k (((d.nodes.getD (lobN (d).nodes (rs.getD i default)) default)).kind)) X0))]] (!(permB k (((d.nodes.getD (lobN (d).nodes (rs.getD i default)) default)).kind))) (fun h7 => ?_) (fun h7 => ?_)
   ·
    (try simp only [Bool.not_eq_true', Bool.not_eq_false'] at h7)
    have e2 : ((refsE d.nodes k rs 0) : Int) = 8 := by
     exact I2.2.trans (refsE_kind (by omega) (by omega) (by rw [hf]; exact h7))
    exact .finE [.r []] [] (fun z0 => (VI z0, [])) (8 : Int) ((refsE d.nodes k rs 0) : Int) e2
   ·
    (try simp only [Bool.not_eq_true', Bool.not_eq_false'] at h7)
    refine .back [.r [(0, X (Xn ((i : Int) + 1)))]] [(0, 0)] (ih2 ((i + 1) : Nat) ?_ ?_)
    ·
     exact ⟨by omega, I2.2.trans (refsE_next (by omega) (by omega) (by rw [hf]; exact h7))⟩
    ·
     ((try dsimp only); omega)
 ·
  (try simp only [decide_eq_true_eq, decide_eq_false_iff_not, Int.not_lt, Int.not_le] at h2)
  have e3 : ((refsE d.nodes k rs 0) : Int) = 0 := by
   exact I2.2.trans (refsE_end (by omega))
  exact .finE [.r []] [] (fun z0 => (VI z0, [])) (0 : Int) ((refsE d.nodes k rs 0) : Int) e3

theorem fc_cellCk (k : Int) (l : List Cell) : FC Tryz.prog 89 [VI k, VL 5 cellT l] (app emp []) (VI (cellK k l 0)) (app emp []) := by
 refine .go Tryz.f89 ?_
 refine .len 1 (fun hl1 => ?_)
 refine .loop (α := Nat) [.r [], .r [(1, X (Xl cellT l))]] 32 (fun i => ([(0, VI k), (7, VL 5 cellT l), (8, VI (l.length : Int)), (9, VI (i : Int))], [])) (fun i => i ≤ l.length ∧ cellK k l 0 = cellK k l i) (fun i => l.length - i) (0 : Nat) ?_ ?_
 ·
  exact ⟨by omega, rfl⟩
 rintro i I2 ih2
 try dsimp only at I2
 refine .br [.r []] (decide ((i : Int) < (l.length : Int))) (fun h2 => ?_) (fun h2 => ?_)
 ·
  (try simp only [decide_eq_true_eq, decide_eq_false_iff_not, Int.not_lt, Int.not_le] at h2)
  refine .br [.r [(0, X (Xi cellT l (i : Int)))], .r [(4, Xv 1 (k == 2) X0), (5, Xv 1 (k == 2) X0), (6, Xv 1 (k == 2) X0), (8, Xv 1 ((k == 2) && !(!(seq (((l.getD i default)).text) ({ data := #[] })))) X0), (9, Xv 1 ((k == 2) && !(!(seq (((l.getD i default)).text) ({ data := #[] })))) (Xl attrT (((l.getD i default)).attrs))), (10, Xv 1 ((k == 2) && !(!(seq (((l.getD i default)).text) ({ data := #[] })))) X0), (11, Xko (k == 2) (!(seq (((l.getD i default)).text) ({ data := #[] })))), (12, X (Xk (k == 2))), (15, Xv 1 (!((k == 2) && (!(seq (((l.getD i default)).text) ({ data := #[] })) || decide (((((l.getD i default)).attrs).length : Int) > 0)))) X0), (16, Xv 1 (!((k == 2) && (!(seq (((l.getD i default)).text) ({ data := #[] })) || decide (((((l.getD i default)).attrs).length : Int) > 0)))) X0), (18, Xv 1 ((!((k == 2) && (!(seq (((l.getD i default)).text) ({ data := #[] })) || decide (((((l.getD i default)).attrs).length : Int) > 0)))) && (k == 6)) X0), (19, Xv 1 ((!((k == 2) && (!(seq (((l.getD i default)).text) ({ data := #[] })) || decide (((((l.getD i default)).attrs).length : Int) > 0)))) && (k == 6)) X0), (20, Xka (!((k == 2) && (!(seq (((l.getD i default)).text) ({ data := #[] })) || decide (((((l.getD i default)).attrs).length : Int) > 0)))) (k == 6)), (21, X (Xk' ((k == 2) && (!(seq (((l.getD i default)).text) ({ data := #[] })) || decide (((((l.getD i default)).attrs).length : Int) > 0)))))]] (((k == 2) && (!(seq (((l.getD i default)).text) ({ data := #[] })) || decide (((((l.getD i default)).attrs).length : Int) > 0))) || ((k == 6) && ((((l.getD i default)).ref) != 0))) (fun h4 => ?_) (fun h4 => ?_)
  ·
   (try simp only [decide_eq_true_eq, decide_eq_false_iff_not, Int.not_lt, Int.not_le, gt_iff_lt, Bool.not_eq_true', Bool.not_eq_false', Bool.and_eq_true, Bool.and_eq_false_iff, Bool.or_eq_true, Bool.or_eq_false_iff, beq_iff_eq, beq_eq_false_iff_ne, ne_eq, bne_iff_ne, bne_eq_false_iff_eq] at h4)
   have e1 : ((cellK k l 0) : Int) = 4 := by
    rw [I2.2, cellK, if_pos (by omega), if_pos]
    exact h4.imp (fun q => ⟨q.1, q.2.imp id (fun z => by omega)⟩) id
   exact .finE [.r []] [] (fun z0 => (VI z0, [])) (4 : Int) ((cellK k l 0) : Int) e1
  ·
   (try simp only [decide_eq_true_eq, decide_eq_false_iff_not, Int.not_lt, Int.not_le, gt_iff_lt, Bool.not_eq_true', Bool.not_eq_false', Bool.and_eq_true, Bool.and_eq_false_iff, Bool.or_eq_true, Bool.or_eq_false_iff, beq_iff_eq, beq_eq_false_iff_ne, ne_eq, bne_iff_ne, bne_eq_false_iff_eq] at h4)
   refine .back [.r [(0, X (Xn ((i : Int) + 1)))]] [] (ih2 ((i + 1) : Nat) ?_ ?_)
   ·
    refine ⟨by omega, ?_⟩
    rw [I2.2, cellK, if_pos (by omega), if_neg]
    rintro (⟨a, b | b⟩ | ⟨a, b⟩)
    · rcases h4.1 with q | q
      · exact q a
      · rw [q.1] at b; cases b
    · rcases h4.1 with q | q
      · exact q a
      · omega
    · rcases h4.2 with q | q
      · exact q a
      · exact b q
   ·
    ((try dsimp only); omega)
 ·
  (try simp only [decide_eq_true_eq, decide_eq_false_iff_not, Int.not_lt, Int.not_le] at h2)
  have e2 : ((cellK k l 0) : Int) = 0 := by
   rw [I2.2, cellK, if_neg (by omega)]
  exact .finE [.r []] [] (fun z0 => (VI z0, [])) (0 : Int) ((cellK k l 0) : Int) e2

theorem fc_eqR0 (l : List Rect) : FC Tryz.prog 117 [VL 4 rectT l, VN] (app emp []) (VB ((l.length : Int) == 0)) (app emp []) := by
 refine .go Tryz.f117 ?_
 refine .len 0 (fun hl0 => ?_)
 refine .br [.r [], .r [(1, X (Xl rectT l))]] ((l.length : Int) != 0) (fun h1 => ?_) (fun h1 => ?_)
 ·
  (try simp only [bne_iff_ne, bne_eq_false_iff_eq, ne_eq] at h1)
  have e1 : (((l.length : Int) == 0) : Bool) = false := by
   rw [beq_eq_false_iff_ne]; exact h1
  exact .finE [.r []] [] (fun z0 => (VB z0, [])) (false : Bool) (((l.length : Int) == 0) : Bool) e1
 ·
  (try simp only [bne_iff_ne, bne_eq_false_iff_eq, ne_eq] at h1)
  refine .loop (α := Nat) [.r [(1, X (Xl rectT l))]] 72 (fun i => ([(0, VL 4 rectT l), (1, VN), (12, VI (l.length : Int)), (13, VI (i : Int))], [])) (fun i => i = 0) (fun i => 0) (0 : Nat) ?_ ?_
  ·
   rfl
  rintro i I4 ih4
  try dsimp only at I4
  refine .br [.r []] (decide ((i : Int) < (l.length : Int))) (fun h4 => ?_) (fun h4 => ?_)
  ·
   (try simp only [decide_eq_true_eq, decide_eq_false_iff_not, Int.not_lt, Int.not_le] at h4)
   exfalso
   omega
  ·
   (try simp only [decide_eq_true_eq, decide_eq_false_iff_not, Int.not_lt, Int.not_le] at h4)
   have e2 : (((l.length : Int) == 0) : Bool) = true := by
    rw [beq_iff_eq]; exact h1
   exact .finE [.r []] [] (fun z0 => (VB z0, [])) (true : Bool) (((l.length : Int) == 0) : Bool) e2

theorem fc_eqC0 (l : List Cell) : FC Tryz.prog 118 [VL 5 cellT l, VN, .fn 119 []] (app emp []) (VB ((l.length : Int) == 0)) (app emp []) := by
 refine .go Tryz.f118 ?_
 refine .len 0 (fun hl0 => ?_)
 refine .br [.r [], .r [(1, X (Xl cellT l))]] ((l.length : Int) != 0) (fun h1 => ?_) (fun h1 => ?_)
 ·
  (try simp only [bne_iff_ne, bne_eq_false_iff_eq, ne_eq] at h1)
  have e1 : (((l.length : Int) == 0) : Bool) = false := by
   rw [beq_eq_false_iff_ne]; exact h1
  exact .finE [.r []] [] (fun z0 => (VB z0, [])) (false : Bool) (((l.length : Int) == 0) : Bool) e1
 ·
  (try simp only [bne_iff_ne, bne_eq_false_iff_eq, ne_eq] at h1)
  refine .loop (α := Nat) [.r [(1, X (Xl cellT l))]] 72 (fun i => ([(1, VN), (2, .fn 119 []), (15, VL 5 cellT l), (16, VI (l.length : Int)), (17, VI (i : Int))], [])) (fun i => i = 0) (fun i => 0) (0 : Nat) ?_ ?_
  ·
   rfl
  rintro i I4 ih4
  try dsimp only at I4
  refine .br [.r []] (decide ((i : Int) < (l.length : Int))) (fun h4 => ?_) (fun h4 => ?_)
  ·
   (try simp only [decide_eq_true_eq, decide_eq_false_iff_not, Int.not_lt, Int.not_le] at h4)
   exfalso
   omega
  ·
   (try simp only [decide_eq_true_eq, decide_eq_false_iff_not, Int.not_lt, Int.not_le] at h4)
   have e2 : (((l.length : Int) == 0) : Bool) = true := by
    rw [beq_iff_eq]; exact h1
   exact .finE [.r []] [] (fun z0 => (VB z0, [])) (true : Bool) (((l.length : Int) == 0) : Bool) e2
end Go.Ch
end
