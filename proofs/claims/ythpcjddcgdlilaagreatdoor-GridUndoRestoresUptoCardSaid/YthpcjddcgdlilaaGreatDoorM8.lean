/- Parts of the proof: ChGrid14, ChGrid15, GridPlain7, ChGrid16, GridPlain8, ChGrid17, ChGrid18, GridPlain9, ChGrid19, GridCells, DeltaPlain, DeltaWrite, DeltaFold, DeltaUndo, DeltaAct, DeltaChange, DeltaAxis, GridMove, GridRect, GridHull, GridValid, GridUndo, GridSelf, GridBack, GridDraw, GridLaw. -/
import Derived.Test.YthpcjddcgdlilaaGreatDoorM1
import Derived.Test.YthpcjddcgdlilaaGreatDoorM2
import Derived.Test.YthpcjddcgdlilaaGreatDoorM3
import Derived.Test.YthpcjddcgdlilaaGreatDoorM4
import Derived.Test.YthpcjddcgdlilaaGreatDoorM5
import Derived.Test.YthpcjddcgdlilaaGreatDoorM6
import Derived.Test.YthpcjddcgdlilaaGreatDoorM7
section
set_option linter.unusedVariables false
set_option linter.unusedSimpArgs false
set_option maxRecDepth 100000
set_option maxHeartbeats 4000000
open Go Go.Proofs Go.Ab
namespace Go.Ch
theorem fc_gapply (x : Grid) (e : GEd) (hi : AppIn x e) : FC Tryz.prog 11 [.t (gridT x), .t (gedT e)] (app emp []) (.tup [.t (gridT (rawGr x e)), VI 0]) (app emp []) := by
 refine .go Tryz.f11 ?_
 obtain ⟨hg, he, hf, hr, l5⟩ := hi
 have le : e.cells.length ≤ 100000000000 ∧ e.split.length ≤ 100000000000 ∧ e.merge.length ≤ 100000000000 := ⟨by have := hr.l2; omega, by omega, by have := hr.l4; omega⟩
 have lm := hr.l3
 have e1 : ((rawGr x e) : Grid) = ((rawGr x e)) := by
  (first | omega | with_reducible exact fun h => h | (intro hq; rw [hq]; done) | (intro hq; rw [hq]; rfl) | (simp only [List.length_map]; done) | (simp only [List.length_map]; omega) | (simp; omega) | (simp; done))
 exact .finVE [.r [], .r [(2, X (Xc0 (fc_fits x e (by assumption) (by omega) (by assumption) (by assumption) (by assumption)) X0))], .r [], .f, .r [(2, X (Xc1 144 (fc_graw x e (by assumption)) X0))]] [] [] (fun z0 => (.tup [.t (gridT z0), VI 0], [])) (((rawGr x e)) : Grid) ((rawGr x e) : Grid) e1

theorem fc_gundo (x : Grid) (e : GEd) (hi : UndIn x e) : FC Tryz.prog 12 [.t (gridT x), .t (gedT e)] (app emp []) (.tup [.t (gedT (undoE x e)), VI 0]) (app emp []) := by
 refine .go Tryz.f12 ?_
 obtain ⟨⟨hg, he, hf, hr, l5⟩, hr2, k1, k2, c1, c2⟩ := hi
 have le : e.cells.length ≤ 100000000000 ∧ e.split.length ≤ 100000000000 ∧ e.merge.length ≤ 100000000000 := ⟨by have := hr.l2; omega, by omega, by have := hr.l4; omega⟩
 have lm := hr.l3
 have lc := hr.l1
 have ca := hr.a1
 have vr := he.okr
 have vk := he.okc
 unfold undoA at hr2 k1 k2
 have e1 : ((undoE x e) : GEd) = ((backE (rawGr (rawGr x e) ({ rows := (undoX e.rows), cols := (undoX e.cols), cells := [], split := [], merge := [] } : GEd)) x (undoX e.rows) (undoX e.cols))) := by
  rfl
 exact .finVE [.r [], .r [(2, X (Xc0 (fc_fits x e (by assumption) (by omega) (by assumption) (by assumption) (by assumption)) X0))], .r [], .f, .r [(2, X (Xc1 144 (fc_axUndo e.rows (by assumption) (by assumption)) X0))], .r [(2, X (Xc1 208 (fc_axUndo e.cols (by assumption) (by assumption)) X0))], .r [(2, X (Xc1 272 (fc_graw x e (by assumption)) X0)), (5, X (Xf [(2, 5), (3, 4), (4, 4)])), (6, X (Xc1 304 (fc_graw (rawGr x e) ({ rows := (undoX e.rows), cols := (undoX e.cols), cells := [], split := [], merge := [] } : GEd) hr2) X0)), (10, X (Xc1 336 (fc_back (rawGr (rawGr x e) ({ rows := (undoX e.rows), cols := (undoX e.cols), cells := [], split := [], merge := [] } : GEd)) x (undoX e.rows) (undoX e.cols) (by omega) (by omega) (by omega) (by omega) (by assumption)) X0))]] [] [] (fun z0 => (.tup [.t (gedT z0), VI 0], [])) (((backE (rawGr (rawGr x e) ({ rows := (undoX e.rows), cols := (undoX e.cols), cells := [], split := [], merge := [] } : GEd)) x (undoX e.rows) (undoX e.cols))) : GEd) ((undoE x e) : GEd) e1

theorem fc_bsf (l : List Cell) (t : Cell) (hn : l.length ≤ 100000000000) (hs : SortC l) : FC Tryz.prog 71 [VL 5 cellT l, .t (cellT t), .fn 72 []] (app emp []) (.tup [VI (lobC l t : Int), VB (hasC l t)]) (app emp []) := by
 refine .go Tryz.f71 ?_
 refine .len 0 (fun hl0 => ?_)
 obtain ⟨s1, s2, s3⟩ := lobC_all l t
 refine .loop (α := Nat × Nat) [.r [], .r [(1, X (Xl cellT l))], .r []] 72 (fun (i, j) => ([(0, VL 5 cellT l), (2, .fn 72 []), (4, .ptr 0 0), (8, VI (l.length : Int)), (9, VI (i : Int)), (10, VI (j : Int))], [(0, .box [VI t.row, VI t.col, VS t.text, VI t.ref, VL 2 attrT t.attrs])])) (fun (i, j) => i ≤ lobC l t ∧ lobC l t ≤ j ∧ j ≤ l.length) (fun (i, j) => j - i) (0, l.length) ?_ ?_
 ·
  exact ⟨by omega, by omega, by omega⟩
 rintro ⟨i, j⟩ I3 ih3
 try dsimp only at I3
 refine .br [.r []] (decide ((i : Int) < (j : Int))) (fun h3 => ?_) (fun h3 => ?_)
 ·
  (try simp only [decide_eq_true_eq, decide_eq_false_iff_not, Int.not_lt, Int.not_le] at h3)
  obtain ⟨m, hm⟩ : ∃ m : Nat, ((i : Int) + (j : Int)) / 2 = (m : Int) := ⟨(i + j) / 2, by omega⟩
  refine .br [.r [(2, X (Xn ((i : Int) + (j : Int)))), (3, X (Xcv IntKind.u64 ((i : Int) + (j : Int))) (by simp [IntKind.wrap, IntKind.bits, IntKind.signed]; omega)), (4, X (Xsh IntKind.u64 1 (((i : Int) + (j : Int)).fdiv (2 ^ (min (1 : Int).toNat IntKind.u64.bits))) (((i : Int) + (j : Int)) / 2)) ⟨by decide, (by rw [Int.fdiv_eq_ediv_of_nonneg _ (by decide)]; rfl)⟩), (5, X (Xn (((i : Int) + (j : Int)) / 2)))], .le (.eq 11 (VI (((i : Int) + (j : Int)) / 2)) (VI (m : Int)) (.of_eq (by rw [← hm]))), .r [(3, X (Xi cellT l (m : Int))), (6, X (Xc0 (fc_order ((l.getD m default)) t) X0))]] (decide ((ordC ((l.getD m default)) t) < 0)) (fun h5 => ?_) (fun h5 => ?_)
  ·
   (try simp only [decide_eq_true_eq, decide_eq_false_iff_not, Int.not_lt, Int.not_le] at h5)
   refine .back [.r [(1, X (Xn ((m : Int) + 1)))]] [(0, 0)] (ih3 ((m + 1), j) ?_ ?_)
   ·
    have := lobC_lt hs (m := m) (by omega) h5
    exact ⟨by omega, by omega, by omega⟩
   ·
    ((try dsimp only); omega)
  ·
   (try simp only [decide_eq_true_eq, decide_eq_false_iff_not, Int.not_lt, Int.not_le] at h5)
   refine .back [.r []] [(0, 0)] (ih3 (i, m) ?_ ?_)
   ·
    have := lobC_ge (l := l) (t := t) (m := m) (by omega)
    exact ⟨by omega, by omega, by omega⟩
   ·
    ((try dsimp only); omega)
 ·
  (try simp only [decide_eq_true_eq, decide_eq_false_iff_not, Int.not_lt, Int.not_le] at h3)
  have hi : i = lobC l t := by omega
  have e1 : ((lobC l t : Int) : Int) = (i : Int) := by
   first | omega | (unfold hasC; rw [← hi])
  have e2 : ((hasC l t) : Bool) = (decide ((i : Int) < (l.length : Int)) && ((ordC ((l.getD i default)) t) == 0)) := by
   first | omega | (unfold hasC; rw [← hi])
  exact .finE [.r [(8, Xv 2 (decide ((i : Int) < (l.length : Int))) (Xi cellT l (i : Int))), (9, Xv 1 (decide ((i : Int) < (l.length : Int))) X0), (11, Xv 3 (decide ((i : Int) < (l.length : Int))) (Xc0 (fc_order ((l.getD i default)) t) X0)), (12, Xv 1 (decide ((i : Int) < (l.length : Int))) X0), (13, X (Xk (decide ((i : Int) < (l.length : Int)))))]] [] (fun (z0, z1) => (.tup [VI z0, VB z1], [])) (((i : Int) : Int), ((decide ((i : Int) < (l.length : Int)) && ((ordC ((l.getD i default)) t) == 0)) : Bool)) (((lobC l t : Int) : Int), ((hasC l t) : Bool)) (pr e1 e2)

theorem fc_find (l : List Cell) (m n : Int) (hn : l.length ≤ 100000000000) (hs : SortC l) : FC Tryz.prog 40 [VL 5 cellT l, VI m, VI n] (app emp []) (.tup [VI (lobC l (⟨m, n, { data := #[] }, 0, []⟩ : Cell) : Int), VB (hasC l (⟨m, n, { data := #[] }, 0, []⟩ : Cell))]) (app emp []) := by
 refine .go Tryz.f40 ?_
 refine .len 0 (fun hl0 => ?_)
 have e1 : ((lobC l (⟨m, n, { data := #[] }, 0, []⟩ : Cell) : Int) : Int) = (lobC l ({ row := m, col := n, text := { data := #[] }, ref := 0, attrs := [] } : Cell) : Int) := by
  (first | omega | with_reducible exact fun h => h | (intro hq; rw [hq]; done) | (intro hq; rw [hq]; rfl) | (simp only [List.length_map]; done) | (simp only [List.length_map]; omega) | (simp; omega) | (simp; done))
 have e2 : ((hasC l (⟨m, n, { data := #[] }, 0, []⟩ : Cell)) : Bool) = (hasC l ({ row := m, col := n, text := { data := #[] }, ref := 0, attrs := [] } : Cell)) := by
  (first | omega | with_reducible exact fun h => h | (intro hq; rw [hq]; done) | (intro hq; rw [hq]; rfl) | (simp only [List.length_map]; done) | (simp only [List.length_map]; omega) | (simp; omega) | (simp; done))
 exact .finE [.r [], .r [(3, X (Xf [(4, 2)])), (4, X (Xc0 (fc_bsf l ({ row := m, col := n, text := { data := #[] }, ref := 0, attrs := [] } : Cell) (by omega) (by assumption)) X0))]] [] (fun (z0, z1) => (.tup [VI z0, VB z1], [])) (((lobC l ({ row := m, col := n, text := { data := #[] }, ref := 0, attrs := [] } : Cell) : Int) : Int), ((hasC l ({ row := m, col := n, text := { data := #[] }, ref := 0, attrs := [] } : Cell)) : Bool)) (((lobC l (⟨m, n, { data := #[] }, 0, []⟩ : Cell) : Int) : Int), ((hasC l (⟨m, n, { data := #[] }, 0, []⟩ : Cell)) : Bool)) (pr e1 e2)

theorem fc_at (x : Grid) (m n : Int) (hn : x.cells.length ≤ 100000000000) (hs : SortC x.cells) (ha : CAN 1000000000000 x.cells) : FC Tryz.prog 18 [.t (gridT x), VI m, VI n] (app emp []) (.t (cellT (if hasC x.cells (⟨m, n, { data := #[] }, 0, []⟩ : Cell) = true then x.cells.getD (lobC x.cells (⟨m, n, { data := #[] }, 0, []⟩ : Cell)) default else (⟨m, n, { data := #[] }, 0, []⟩ : Cell)))) (app emp []) := by
 refine .go Tryz.f18 ?_
 refine .br [.r [], .r [(4, X (Xc0 (fc_find x.cells m n (by omega) (by assumption)) X0))], .r []] (!(hasC x.cells (⟨m, n, { data := #[] }, 0, []⟩ : Cell))) (fun h2 => ?_) (fun h2 => ?_)
 ·
  (try simp only [Bool.not_eq_true', Bool.not_eq_false'] at h2)
  have e1 : ((if hasC x.cells (⟨m, n, { data := #[] }, 0, []⟩ : Cell) = true then x.cells.getD (lobC x.cells (⟨m, n, { data := #[] }, 0, []⟩ : Cell)) default else (⟨m, n, { data := #[] }, 0, []⟩ : Cell)) : Cell) = ({ row := m, col := n, text := { data := #[] }, ref := 0, attrs := [] } : Cell) := by
   first | rw [if_pos (by assumption)] | rw [if_neg (by rw [h2]; decide)]
  exact .finVE [.r [], .le (.nB 8 4 2)] [.fR 0 [(0 : Nat) = (List.map attrT []).length] ⟨lm, trivial⟩] [] (fun z0 => (.t (cellT z0), [])) (({ row := m, col := n, text := { data := #[] }, ref := 0, attrs := [] } : Cell) : Cell) ((if hasC x.cells (⟨m, n, { data := #[] }, 0, []⟩ : Cell) = true then x.cells.getD (lobC x.cells (⟨m, n, { data := #[] }, 0, []⟩ : Cell)) default else (⟨m, n, { data := #[] }, 0, []⟩ : Cell)) : Cell) e1
 ·
  (try simp only [Bool.not_eq_true', Bool.not_eq_false'] at h2)
  have hh : lobC x.cells (⟨m, n, { data := #[] }, 0, []⟩ : Cell) < x.cells.length := by (unfold hasC at h2; simp only [Bool.and_eq_true, decide_eq_true_eq] at h2; omega)
  have hm := ha _ (getDX_mem hh)
  have e2 : ((if hasC x.cells (⟨m, n, { data := #[] }, 0, []⟩ : Cell) = true then x.cells.getD (lobC x.cells (⟨m, n, { data := #[] }, 0, []⟩ : Cell)) default else (⟨m, n, { data := #[] }, 0, []⟩ : Cell)) : Cell) = (((x.cells.getD (lobC x.cells (⟨m, n, { data := #[] }, 0, []⟩ : Cell)) default))) := by
   first | rw [if_pos (by assumption)] | rw [if_neg (by rw [h2]; decide)]
  exact .finVE [.r [(3, X (Xi cellT x.cells (lobC x.cells (⟨m, n, { data := #[] }, 0, []⟩ : Cell) : Int))), (5, X (Xc1 152 (fc_clone ((x.cells.getD (lobC x.cells (⟨m, n, { data := #[] }, 0, []⟩ : Cell)) default)) (by omega)) X0))]] [] [] (fun z0 => (.t (cellT z0), [])) ((((x.cells.getD (lobC x.cells (⟨m, n, { data := #[] }, 0, []⟩ : Cell)) default))) : Cell) ((if hasC x.cells (⟨m, n, { data := #[] }, 0, []⟩ : Cell) = true then x.cells.getD (lobC x.cells (⟨m, n, { data := #[] }, 0, []⟩ : Cell)) default else (⟨m, n, { data := #[] }, 0, []⟩ : Cell)) : Cell) e2
end Go.Ch
end
section
set_option linter.unusedVariables false
set_option linter.unusedSimpArgs false
set_option maxRecDepth 100000
set_option maxHeartbeats 4000000
open Go Go.Proofs Go.Ab
namespace Go.Ch
end Go.Ch
end
section
set_option linter.unusedVariables false
namespace Go.Ch
open Go Go.Ab

def plc (c : Cell) : Cell := ⟨c.row, c.col, { data := #[] }, 0, []⟩
def pairY (a b : GEd) : GEd :=
  ⟨pB a.rows b.rows, pB a.cols b.cols, movL b.cells (pA a.rows b.rows) (pA a.cols b.cols), rectL b.split (pA a.rows b.rows) (pA a.cols b.cols), rectL b.merge (pA a.rows b.rows) (pA a.cols b.cols)⟩
def pairX (a b : GEd) : GEd :=
  ⟨pA a.rows b.rows, pA a.cols b.cols, delL (fun c => hasC (movL b.cells (pA a.rows b.rows) (pA a.cols b.cols)) ⟨c.row, c.col, { data := #[] }, 0, []⟩) (movL a.cells (pB a.rows b.rows) (pB a.cols b.cols)), rectL a.split (pB a.rows b.rows) (pB a.cols b.cols), rectL a.merge (pB a.rows b.rows) (pB a.cols b.cols)⟩
/-- What one edit's parts ask of the changes that they go through. -/
structure ThrIn (e : GEd) (rows cols : List AxStep) : Prop where
  v1 : 0 < rows.length → Valid rows
  v2 : 0 < cols.length → Valid cols
  l1 : e.cells.length ≤ 100000000000
  l2 : e.split.length ≤ 100000000000
  l3 : e.merge.length ≤ 100000000000
  rch : RchOk e (mxS rows) (mxS cols)
  can : CAN 1000000000000 e.cells
  p1 : ∀ c ∈ e.cells, PIn rows c.row
  p2 : ∀ c ∈ e.cells, PIn cols c.col
  q1 : ∀ r ∈ e.split, QIn rows cols r
  q2 : ∀ r ∈ e.merge, QIn rows cols r
structure PairIn (a b : GEd) : Prop where
  ea : EdOk a
  eb : EdOk b
  pr : 0 < a.rows.length → 0 < b.rows.length → PairOk a.rows b.rows
  pc : 0 < a.cols.length → 0 < b.cols.length → PairOk a.cols b.cols
  l1 : a.rows.length ≤ 1000000000000 ∧ b.rows.length ≤ 1000000000000
  l2 : a.cols.length ≤ 1000000000000 ∧ b.cols.length ≤ 1000000000000
  ta : ThrIn a (pB a.rows b.rows) (pB a.cols b.cols)
  tb : ThrIn b (pA a.rows b.rows) (pA a.cols b.cols)
  srt : SortC (movL b.cells (pA a.rows b.rows) (pA a.cols b.cols))
end Go.Ch
end
section
set_option linter.unusedVariables false
set_option linter.unusedSimpArgs false
set_option maxRecDepth 100000
set_option maxHeartbeats 4000000
open Go Go.Proofs Go.Ab
namespace Go.Ch
end Go.Ch
end
section
set_option linter.unusedVariables false
namespace Go.Ch
open Go Go.Ab

/-- The number that a position draws. -/
def drwI (raw : List Int) (a i : Nat) (hi : Int) : Int := withinI (IntKind.i64.wrap (raw.getD (a % raw.length) default + ((i / raw.length : Nat) : Int))) 0 hi
def edC (raw : List Int) (text : ByteArray) (cols r c : Nat) : List Cell :=
  if raw.length = 0 then [] else if drwI raw (r * cols + c + 1) (r * cols + c) 7 = 0 then [⟨r, c, text, 0, []⟩] else if drwI raw (r * cols + c + 1) (r * cols + c) 7 = 1 then [⟨r, c, { data := #[] }, 0, []⟩] else []
def edR (raw : List Int) (text : ByteArray) (cols r c : Nat) : List Cell := (List.range c).flatMap (edC raw text cols r)
def edA (raw : List Int) (text : ByteArray) (cols r : Nat) : List Cell := (List.range r).flatMap fun r => edR raw text cols r cols
def fitR (raw : List Int) (n : Int) : List AxStep := stepsL (fitU raw n.toNat) 0 []
def edM (raw : List Int) (rows cols : Int) (ms : Bool) : List Rect :=
  if ms = true ∧ 1 < rows ∧ 1 < cols ∧ 0 < raw.length then [⟨withinI (raw.getD 0 default) 0 (rows - 2), withinI (raw.getD (raw.length - 1) default) 0 (cols - 2), 2, 2⟩] else []
def editE (x : Grid) (raw : List Int) (text : ByteArray) (ms : Bool) : GEd :=
  let R := fitR (raw.take (raw.length / 2)) x.rows
  let C := fitR (raw.drop (raw.length / 2)) x.cols
  ⟨R, C, edA raw text (newI C).toNat (newI R).toNat, [], edM raw (newI R) (newI C) ms⟩
theorem edR_succ (raw : List Int) (text : ByteArray) (cols r c : Nat) : edR raw text cols r (c + 1) = edR raw text cols r c ++ edC raw text cols r c := by
  unfold edR; rw [List.range_succ, List.flatMap_append]; simp
theorem edA_succ (raw : List Int) (text : ByteArray) (cols r : Nat) : edA raw text cols (r + 1) = edA raw text cols r ++ edR raw text cols r cols := by
  unfold edA; rw [List.range_succ, List.flatMap_append]; simp
theorem edC_len (raw : List Int) (text : ByteArray) (cols r c : Nat) : (edC raw text cols r c).length ≤ 1 := by
  unfold edC; repeat' split
  all_goals simp
theorem edR_len (raw : List Int) (text : ByteArray) (cols r : Nat) : ∀ c, (edR raw text cols r c).length ≤ c
  | 0 => by simp [edR]
  | c + 1 => by
    rw [edR_succ, List.length_append]
    have := edR_len raw text cols r c; have := edC_len raw text cols r c; omega
theorem edA_len (raw : List Int) (text : ByteArray) (cols : Nat) : ∀ r, (edA raw text cols r).length ≤ r * cols
  | 0 => by simp [edA]
  | r + 1 => by
    rw [edA_succ, List.length_append, Nat.succ_mul]
    have := edA_len raw text cols r; have := edR_len raw text cols r cols; omega
/-- The board's cells. -/
def bdT (v : Int) : ByteArray := ⟨#[UInt8.ofNat (97 + v).toNat]⟩
def bdC (raw : List Int) (cols r c : Nat) : List Cell := if 0 < raw.length then (if 1 < drwI raw (r * cols + c) (r * cols + c) 4 then [⟨r, c, bdT (drwI raw (r * cols + c) (r * cols + c) 4), 0, []⟩] else []) else []
def bdR (raw : List Int) (cols r c : Nat) : List Cell := (List.range c).flatMap (bdC raw cols r)
def bdA (raw : List Int) (cols r : Nat) : List Cell := (List.range r).flatMap fun r => bdR raw cols r cols
def boardG (rows cols : Int) (raw : List Int) : Grid := ⟨rows, cols, bdA raw cols.toNat rows.toNat, []⟩
end Go.Ch
end
section
set_option linter.unusedVariables false
set_option linter.unusedSimpArgs false
set_option maxRecDepth 100000
set_option maxHeartbeats 4000000
open Go Go.Proofs Go.Ab
namespace Go.Ch
end Go.Ch
end
section
set_option linter.unusedVariables false
set_option linter.unusedSimpArgs false
set_option maxRecDepth 100000
set_option maxHeartbeats 4000000
open Go Go.Proofs Go.Ab
namespace Go.Ch
theorem fc_editing (x : Grid) (raw : List Int) (text : ByteArray) (ms : Bool) (h1 : 0 ≤ x.rows ∧ x.rows ≤ 1000) (h2 : 0 ≤ x.cols ∧ x.cols ≤ 1000) : FC Tryz.prog 10 [.t (gridT x), VL 1 intT raw, VS text, VB ms] (app emp []) (.t (gedT (editE x raw text ms))) (app emp []) := by
 refine .go Tryz.f10 ?_
 refine .len 1 (fun hl1 => ?_)
 obtain ⟨Va, Oa, La, Ua⟩ := fit_ok (raw.take (raw.length / 2)) x.rows (by omega) (by omega)
 obtain ⟨Vb, Ob, Lb, Ub⟩ := fit_ok (raw.drop (raw.length / 2)) x.cols (by omega) (by omega)
 have hda : editE x raw text ms = ⟨(stepsL (fitU (raw.take (raw.length / 2)) (Int.toNat x.rows)) 0 []), (stepsL (fitU (raw.drop (raw.length / 2)) (Int.toNat x.cols)) 0 []), edA raw text (newI (stepsL (fitU (raw.drop (raw.length / 2)) (Int.toNat x.cols)) 0 [])).toNat (newI (stepsL (fitU (raw.take (raw.length / 2)) (Int.toNat x.rows)) 0 [])).toNat, [], edM raw (newI (stepsL (fitU (raw.take (raw.length / 2)) (Int.toNat x.rows)) 0 [])) (newI (stepsL (fitU (raw.drop (raw.length / 2)) (Int.toNat x.cols)) 0 [])) ms⟩ := rfl
 obtain ⟨rn, hrn⟩ : ∃ k : Nat, newI (stepsL (fitU (raw.take (raw.length / 2)) (Int.toNat x.rows)) 0 []) = (k : Int) := ⟨_, rfl⟩
 rw [hrn] at La Ua
 obtain ⟨cn, hcn⟩ : ∃ k : Nat, newI (stepsL (fitU (raw.drop (raw.length / 2)) (Int.toNat x.cols)) 0 []) = (k : Int) := ⟨_, rfl⟩
 rw [hcn] at Lb Ub
 rw [hrn, hcn] at hda
 refine .loop (α := Nat × (List Cell)) [.r [], .r [], .r [(1, X (Xl intT raw))], .le (.nB 16 2 5), .le (.nB 16 4 4), .r [(4, X (Xquo (raw.length : Int) 2)), (5, X (Xst intT 1 raw ((raw.length : Int) / 2))), (6, X (Xc1 98 (fc_fitting x.rows (raw.take (raw.length / 2)) (by omega)) X0)), (11, X (Xquo (raw.length : Int) 2)), (12, X (Xsd intT 1 raw ((raw.length : Int) / 2))), (13, X (Xc1 154 (fc_fitting x.cols (raw.drop (raw.length / 2)) (by omega)) X0))], .r [(2, X (Xc0 (fc_axLengths (stepsL (fitU (raw.take (raw.length / 2)) (Int.toNat x.rows)) 0 []) (by assumption)) X0))], .le (.eq 12 (VI (newI (stepsL (fitU (raw.take (raw.length / 2)) (Int.toNat x.rows)) 0 []))) (VI (rn : Int)) (.of_eq (by rw [hrn]))), .r [(2, X (Xc0 (fc_axLengths (stepsL (fitU (raw.drop (raw.length / 2)) (Int.toNat x.cols)) 0 []) (by assumption)) X0))], .le (.eq 15 (VI (newI (stepsL (fitU (raw.drop (raw.length / 2)) (Int.toNat x.cols)) 0 []))) (VI (cn : Int)) (.of_eq (by rw [hcn]))), .r []] 370 (fun (r, oa) => ([(1, VL 1 intT raw), (2, VS text), (3, VB ms), (8, .ptr 8 0), (9, .ptr 16 0), (10, VI (raw.length : Int)), (12, VI (rn : Int)), (15, VI (cn : Int)), (52, VI (rn : Int)), (53, VI (r : Int))], [(8, .box [VN, VN, VN, VN, VN]), (16, .box [VL 2 stepT (stepsL (fitU (raw.take (raw.length / 2)) (Int.toNat x.rows)) 0 []), VL 2 stepT (stepsL (fitU (raw.drop (raw.length / 2)) (Int.toNat x.cols)) 0 []), .row 48 oa.length, VN, .row 49 0]), (48, OR 5 cellT oa), (49, OR 4 rectT [])])) (fun (r, oa) => r ≤ rn ∧ oa = edA raw text cn r) (fun (r, oa) => rn - r) (0, []) ?_ ?_
 ·
  exact ⟨by omega, rfl⟩
 rintro ⟨r, oa⟩ I7 ih7
 try dsimp only at I7
 have ol : oa.length ≤ r * cn := by rw [I7.2]; exact edA_len raw text cn r
 refine .br [.r []] (decide ((r : Int) < (rn : Int))) (fun h7 => ?_) (fun h7 => ?_)
 ·
  (try simp only [decide_eq_true_eq, decide_eq_false_iff_not, Int.not_lt, Int.not_le] at h7)
  refine .loop (α := Nat × (List Cell)) [.r [], .r []] 410 (fun (c, ob) => ([(1, VL 1 intT raw), (2, VS text), (3, VB ms), (8, .ptr 8 0), (9, .ptr 16 0), (10, VI (raw.length : Int)), (12, VI (rn : Int)), (15, VI (cn : Int)), (17, VI (r : Int)), (52, VI (rn : Int)), (53, VI (r : Int)), (56, VI (cn : Int)), (57, VI (c : Int))], [(8, .box [VN, VN, VN, VN, VN]), (16, .box [VL 2 stepT (stepsL (fitU (raw.take (raw.length / 2)) (Int.toNat x.rows)) 0 []), VL 2 stepT (stepsL (fitU (raw.drop (raw.length / 2)) (Int.toNat x.cols)) 0 []), .row 48 ob.length, VN, .row 49 0]), (48, OR 5 cellT ob), (49, OR 4 rectT [])])) (fun (c, ob) => c ≤ cn ∧ ob = oa ++ edR raw text cn r c) (fun (c, ob) => cn - c) (0, oa) ?_ ?_
  ·
   exact ⟨by omega, by simp [edR]⟩
  rintro ⟨c, ob⟩ I10 ih10
  try dsimp only at I10
  have obl : ob.length ≤ r * cn + c := by (rw [I10.2, List.length_append]; have := edR_len raw text cn r c; omega)
  refine .br [.r []] (decide ((c : Int) < (cn : Int))) (fun h10 => ?_) (fun h10 => ?_)
  ·
   (try simp only [decide_eq_true_eq, decide_eq_false_iff_not, Int.not_lt, Int.not_le] at h10)
   refine .br [.r [], .r []] ((raw.length : Int) == 0) (fun h12 => ?_) (fun h12 => ?_)
   ·
    (try simp only [beq_iff_eq, beq_eq_false_iff_ne, ne_eq] at h12)
    refine .back [.r [(0, X (Xn ((c : Int) + 1)))]] [(8, 8), (16, 16), (48, 48), (49, 49)] (ih10 ((c + 1), ob) ?_ ?_)
    ·
     refine ⟨by omega, ?_⟩
     rw [I10.2, edR_succ]
     (first | (rw [hbc, List.append_assoc, if_pos (by omega)]) | (rw [hbc, List.append_assoc, if_neg (by omega), if_pos (by omega)]) | (rw [hbc, if_neg (by omega), if_neg (by omega), List.append_nil]) | (unfold edC; rw [if_pos (by omega), List.append_nil]))
    ·
     ((try dsimp only); omega)
   ·
    (try simp only [beq_iff_eq, beq_eq_false_iff_ne, ne_eq] at h12)
    have hmul : r * cn ≤ 10000000000 := Nat.le_trans (Nat.mul_le_mul (show r ≤ 100000 by omega) (show cn ≤ 100000 by omega)) (by decide)
    have hp : (r : Int) * (cn : Int) + (c : Int) = ((r * cn + c : Nat) : Int) := by rw [Int.natCast_add, Int.natCast_mul]
    have hmi : (r : Int) * (cn : Int) = ((r * cn : Nat) : Int) := (Int.natCast_mul ..).symm
    obtain ⟨p, hpn⟩ : ∃ p, r * cn + c = p := ⟨_, rfl⟩
    rw [hpn] at hp
    obtain ⟨v, hv⟩ : ∃ v, drwI raw (p + 1) p 7 = v := ⟨_, rfl⟩
    have hv2 : withinI (IntKind.i64.wrap (raw.getD (Int.toNat ((((p : Int) + 1) : Int) % (raw.length : Int))) default + (p : Int) / (raw.length : Int))) 0 7 = v := hv
    have hvb : 0 ≤ v ∧ v ≤ 7 := by rw [← hv2]; exact withinI_bd _ (by decide)
    have hbc : edC raw text cn r c = if v = 0 then [⟨r, c, text, 0, []⟩] else if v = 1 then [⟨r, c, { data := #[] }, 0, []⟩] else [] := by unfold edC; rw [if_neg (show ¬ raw.length = 0 by omega), hpn, hv]
    refine .br [.r [(2, X (Xn ((r : Int) * (cn : Int))) (by omega)), (4, X (Xn (((r : Int) * (cn : Int)) + (c : Int))))], .le (.eq 19 (VI (((r : Int) * (cn : Int)) + (c : Int))) (VI (p : Int)) (.of_eq (by rw [hp]))), .r [(2, X (Xn ((p : Int) + 1))), (4, X (Xrem ((p : Int) + 1) (raw.length : Int))), (5, X (Xi intT raw (((p : Int) + 1) % (raw.length : Int))) ⟨(Int.emod_nonneg _ (by omega)), (Int.emod_lt_of_pos _ (by omega))⟩), (9, X (Xquo (p : Int) (raw.length : Int))), (11, X (Xc0 (fc_within (IntKind.i64.wrap ((raw.getD (Int.toNat (((p : Int) + 1) % (raw.length : Int))) default) + ((p : Int) / (raw.length : Int)))) 0 7 (by omega)) X0))], .le (.eq 78 (VI (withinI (IntKind.i64.wrap ((raw.getD (Int.toNat (((p : Int) + 1) % (raw.length : Int))) default) + ((p : Int) / (raw.length : Int)))) 0 7)) (VI v) (.of_eq (by rw [hv2]))), .r []] (v == 0) (fun h15 => ?_) (fun h15 => ?_)
    ·
     (try simp only [beq_iff_eq, beq_eq_false_iff_ne, ne_eq] at h15)
     refine .back [.r [(5, X (Xf [(4, 2)])), (7, X (rowC cellT [({ row := (r : Int), col := (c : Int), text := text, ref := 0, attrs := [] } : Cell)] (Xap 5 cellT 48 ob [({ row := (r : Int), col := (c : Int), text := text, ref := 0, attrs := [] } : Cell)])) (by simp only [List.length_cons, List.length_nil]; omega))], .r [(0, X (Xn ((c : Int) + 1)))]] [(8, 8), (16, 16), (48, 48), (49, 49)] (ih10 ((c + 1), (ob ++ [({ row := (r : Int), col := (c : Int), text := text, ref := 0, attrs := [] } : Cell)])) ?_ ?_)
     ·
      refine ⟨by omega, ?_⟩
      rw [I10.2, edR_succ]
      (first | (rw [hbc, List.append_assoc, if_pos (by omega)]) | (rw [hbc, List.append_assoc, if_neg (by omega), if_pos (by omega)]) | (rw [hbc, if_neg (by omega), if_neg (by omega), List.append_nil]) | (unfold edC; rw [if_pos (by omega), List.append_nil]))
     ·
      ((try dsimp only); omega)
    ·
     (try simp only [beq_iff_eq, beq_eq_false_iff_ne, ne_eq] at h15)
     refine .br [.r []] (v == 1) (fun h17 => ?_) (fun h17 => ?_)
     ·
      (try simp only [beq_iff_eq, beq_eq_false_iff_ne, ne_eq] at h17)
      refine .back [.r [(4, X (Xf [(4, 2)])), (6, X (rowC cellT [({ row := (r : Int), col := (c : Int), text := { data := #[] }, ref := 0, attrs := [] } : Cell)] (Xap 5 cellT 48 ob [({ row := (r : Int), col := (c : Int), text := { data := #[] }, ref := 0, attrs := [] } : Cell)])) (by simp only [List.length_cons, List.length_nil]; omega))], .r [(0, X (Xn ((c : Int) + 1)))]] [(8, 8), (16, 16), (48, 48), (49, 49)] (ih10 ((c + 1), (ob ++ [({ row := (r : Int), col := (c : Int), text := { data := #[] }, ref := 0, attrs := [] } : Cell)])) ?_ ?_)
      ·
       refine ⟨by omega, ?_⟩
       rw [I10.2, edR_succ]
       (first | (rw [hbc, List.append_assoc, if_pos (by omega)]) | (rw [hbc, List.append_assoc, if_neg (by omega), if_pos (by omega)]) | (rw [hbc, if_neg (by omega), if_neg (by omega), List.append_nil]) | (unfold edC; rw [if_pos (by omega), List.append_nil]))
      ·
       ((try dsimp only); omega)
     ·
      (try simp only [beq_iff_eq, beq_eq_false_iff_ne, ne_eq] at h17)
      refine .back [.r [(0, X (Xn ((c : Int) + 1)))]] [(8, 8), (16, 16), (48, 48), (49, 49)] (ih10 ((c + 1), ob) ?_ ?_)
      ·
       refine ⟨by omega, ?_⟩
       rw [I10.2, edR_succ]
       (first | (rw [hbc, List.append_assoc, if_pos (by omega)]) | (rw [hbc, List.append_assoc, if_neg (by omega), if_pos (by omega)]) | (rw [hbc, if_neg (by omega), if_neg (by omega), List.append_nil]) | (unfold edC; rw [if_pos (by omega), List.append_nil]))
      ·
       ((try dsimp only); omega)
  ·
   (try simp only [decide_eq_true_eq, decide_eq_false_iff_not, Int.not_lt, Int.not_le] at h10)
   refine .back [.r [(0, X (Xn ((r : Int) + 1)))]] [(8, 8), (16, 16), (48, 48), (49, 49)] (ih7 ((r + 1), ob) ?_ ?_)
   ·
    refine ⟨by omega, ?_⟩
    rw [I10.2, I7.2, edA_succ, show c = cn by omega]
   ·
    ((try dsimp only); omega)
 ·
  (try simp only [decide_eq_true_eq, decide_eq_false_iff_not, Int.not_lt, Int.not_le] at h7)
  have hoa : edA raw text cn rn = oa := by rw [I7.2, show r = rn by omega]
  have hda2 : editE x raw text ms = ⟨(stepsL (fitU (raw.take (raw.length / 2)) (Int.toNat x.rows)) 0 []), (stepsL (fitU (raw.drop (raw.length / 2)) (Int.toNat x.cols)) 0 []), oa, [], edM raw (rn : Int) (cn : Int) ms⟩ := by rw [hda, ← hoa]; rfl
  refine .br [.r [(3, Xv 1 ms X0), (4, X (Xk ms)), (7, Xv 1 (ms && decide ((rn : Int) > 1)) X0), (8, X (Xk (ms && decide ((rn : Int) > 1)))), (11, Xv 1 ((ms && decide ((rn : Int) > 1)) && decide ((cn : Int) > 1)) X0), (12, X (Xk ((ms && decide ((rn : Int) > 1)) && decide ((cn : Int) > 1))))]] (((ms && decide ((rn : Int) > 1)) && decide ((cn : Int) > 1)) && decide ((raw.length : Int) > 0)) (fun h21 => ?_) (fun h21 => ?_)
  ·
   (try simp only [decide_eq_true_eq, decide_eq_false_iff_not, Int.not_lt, Int.not_le, gt_iff_lt, Bool.and_eq_true, Bool.and_eq_false_iff, Bool.not_eq_true', Bool.not_eq_false'] at h21)
   have e1 : ((editE x raw text ms) : GEd) = ({ rows := (stepsL (fitU (raw.take (raw.length / 2)) (Int.toNat x.rows)) 0 []), cols := (stepsL (fitU (raw.drop (raw.length / 2)) (Int.toNat x.cols)) 0 []), cells := oa, split := [], merge := ([] ++ [({ row := (withinI (raw.getD 0 default) 0 ((rn : Int) - 2)), col := (withinI (raw.getD (raw.length - 1) default) 0 ((cn : Int) - 2)), h := 2, w := 2 } : Rect)]) } : GEd) := by
    rw [hda2]; unfold edM
    (first | (rw [if_pos (by simp_all)]; rfl) | (rw [if_neg (fun q => by (obtain ⟨q1, q2, q3, q4⟩ := q; rcases h21 with ((h | h) | h) | h; (rw [q1] at h; cases h); (omega); (omega); (omega)))]))
   exact .finVE [.r [(3, X (Xi intT raw 0)), (6, X (Xn ((rn : Int) - 2))), (7, X (Xc0 (fc_within (raw.getD 0 default) 0 ((rn : Int) - 2) (by omega)) X0)), (10, X (Xn ((raw.length : Int) - 1))), (11, X (Xi' intT raw ((raw.length : Int) - 1) (raw.length - 1))), (14, X (Xn ((cn : Int) - 2))), (15, X (Xc0 (fc_within (raw.getD (raw.length - 1) default) 0 ((cn : Int) - 2) (by omega)) X0)), (18, X (rowC rectT [({ row := (withinI (raw.getD 0 default) 0 ((rn : Int) - 2)), col := (withinI (raw.getD (raw.length - 1) default) 0 ((cn : Int) - 2)), h := 2, w := 2 } : Rect)] (Xap 4 rectT 49 [] [({ row := (withinI (raw.getD 0 default) 0 ((rn : Int) - 2)), col := (withinI (raw.getD (raw.length - 1) default) 0 ((cn : Int) - 2)), h := 2, w := 2 } : Rect)])))], .r [], .le (.nB 8 3 4)] [.fR 0 [(oa.length : Nat) = (List.map cellT oa).length, (0 : Nat) = (List.map rectT []).length, ((([] ++ [({ row := (withinI (raw.getD 0 default) 0 ((rn : Int) - 2)), col := (withinI (raw.getD (raw.length - 1) default) 0 ((cn : Int) - 2)), h := 2, w := 2 } : Rect)]).length) : Nat) = (List.map rectT ([] ++ [({ row := (withinI (raw.getD 0 default) 0 ((rn : Int) - 2)), col := (withinI (raw.getD (raw.length - 1) default) 0 ((cn : Int) - 2)), h := 2, w := 2 } : Rect)])).length] ⟨lm, lm, lm, trivial⟩] [] (fun z0 => (.t (gedT z0), [])) (({ rows := (stepsL (fitU (raw.take (raw.length / 2)) (Int.toNat x.rows)) 0 []), cols := (stepsL (fitU (raw.drop (raw.length / 2)) (Int.toNat x.cols)) 0 []), cells := oa, split := [], merge := ([] ++ [({ row := (withinI (raw.getD 0 default) 0 ((rn : Int) - 2)), col := (withinI (raw.getD (raw.length - 1) default) 0 ((cn : Int) - 2)), h := 2, w := 2 } : Rect)]) } : GEd) : GEd) ((editE x raw text ms) : GEd) e1
  ·
   (try simp only [decide_eq_true_eq, decide_eq_false_iff_not, Int.not_lt, Int.not_le, gt_iff_lt, Bool.and_eq_true, Bool.and_eq_false_iff, Bool.not_eq_true', Bool.not_eq_false'] at h21)
   have e2 : ((editE x raw text ms) : GEd) = ({ rows := (stepsL (fitU (raw.take (raw.length / 2)) (Int.toNat x.rows)) 0 []), cols := (stepsL (fitU (raw.drop (raw.length / 2)) (Int.toNat x.cols)) 0 []), cells := oa, split := [], merge := [] } : GEd) := by
    rw [hda2]; unfold edM
    (first | (rw [if_pos (by simp_all)]; rfl) | (rw [if_neg (fun q => by (obtain ⟨q1, q2, q3, q4⟩ := q; rcases h21 with ((h | h) | h) | h; (rw [q1] at h; cases h); (omega); (omega); (omega)))]))
   exact .finVE [.r [], .le (.nB 8 3 4)] [.fR 0 [(oa.length : Nat) = (List.map cellT oa).length, (0 : Nat) = (List.map rectT []).length, (0 : Nat) = (List.map rectT []).length] ⟨lm, lm, lm, trivial⟩] [] (fun z0 => (.t (gedT z0), [])) (({ rows := (stepsL (fitU (raw.take (raw.length / 2)) (Int.toNat x.rows)) 0 []), cols := (stepsL (fitU (raw.drop (raw.length / 2)) (Int.toNat x.cols)) 0 []), cells := oa, split := [], merge := [] } : GEd) : GEd) ((editE x raw text ms) : GEd) e2
end Go.Ch
end
section
set_option linter.unusedVariables false
namespace Go.Ch
open Go Go.Ab

def gP : Grid := ⟨1, 1, [], []⟩
def cP : Cell := ⟨0, 0, { data := #[120] }, 0, []⟩
def eP : GEd := ⟨[], [], [cP], [], []⟩
theorem valid_nil : Valid [] := check_iff.1 (by decide +kernel)
theorem probe_gr : gridE gP = 0 := by decide +kernel
theorem probe_ed : edE eP = 0 := by decide +kernel
theorem probe_fit : fitE gP eP = 0 := by decide +kernel
theorem probe_app : AppIn gP eP where
  hg := probe_gr
  he := edE_ok probe_ed
  hf := fitE_ok probe_fit
  raw := ⟨fun h => absurd h (by decide), fun h => absurd h (by decide), by decide, by decide, by decide, by decide, fun c hc => (by cases hc), fun c hc => (by rw [List.mem_singleton.1 hc]; decide), fun c hc => (by cases hc), fun c hc => (by cases hc), fun r hr => (by cases hr), fun r hr => (by cases hr)⟩
  l5 := by decide
theorem probe_cells : (rawGr gP eP).cells = [cP] := by
  show putL [cP] (movL [] [] []) = [cP]
  have h1 : movL [] [] [] = [] := rfl
  have he : emptyC cP = false := by decide +kernel
  rw [h1, putL, putC, he]
  rfl
theorem probe_sort : SortC (rawGr gP eP).cells := by
  rw [probe_cells]
  intro p q h1 h2
  simp only [List.length_cons, List.length_nil] at h2
  omega
theorem probe_can : CAN 1000000000000 (rawGr gP eP).cells := by
  rw [probe_cells]
  intro c hc
  rw [List.mem_singleton.1 hc]; decide
end Go.Ch
end
section
set_option linter.unusedVariables false
set_option linter.unusedSimpArgs false
set_option maxRecDepth 100000
set_option maxHeartbeats 4000000
open Go Go.Proofs Go.Ab
namespace Go.Ch
theorem fc_grids  : FC Tryz.prog 5 [] (app emp []) (VB true) (app emp []) := by
 refine .go Tryz.f5 ?_
 have P1 := probe_app
 have P2 := probe_sort
 have P3 := probe_can
 have P4 := probe_cells
 unfold eP cP gP at P1 P2 P3 P4
 have P5 := congrArg List.length P4
 rw [List.length_singleton] at P5
 have e1 : (((true && (((((rawGr ({ rows := 1, cols := 1, cells := [], merges := [] } : Grid) ({ rows := [], cols := [], cells := [({ row := 0, col := 0, text := { data := #[120] }, ref := 0, attrs := [] } : Cell)], split := [], merge := [] } : GEd))).cells).length : Int) == 1)) && seq (((if hasC (((rawGr ({ rows := 1, cols := 1, cells := [], merges := [] } : Grid) ({ rows := [], cols := [], cells := [({ row := 0, col := 0, text := { data := #[120] }, ref := 0, attrs := [] } : Cell)], split := [], merge := [] } : GEd)))).cells (⟨0, 0, { data := #[] }, 0, []⟩ : Cell) = true then (((rawGr ({ rows := 1, cols := 1, cells := [], merges := [] } : Grid) ({ rows := [], cols := [], cells := [({ row := 0, col := 0, text := { data := #[120] }, ref := 0, attrs := [] } : Cell)], split := [], merge := [] } : GEd)))).cells.getD (lobC (((rawGr ({ rows := 1, cols := 1, cells := [], merges := [] } : Grid) ({ rows := [], cols := [], cells := [({ row := 0, col := 0, text := { data := #[120] }, ref := 0, attrs := [] } : Cell)], split := [], merge := [] } : GEd)))).cells (⟨0, 0, { data := #[] }, 0, []⟩ : Cell)) default else (⟨0, 0, { data := #[] }, 0, []⟩ : Cell))).text) ({ data := #[120] })) : Bool) = true := by
  rw [P4]; decide +kernel
 exact .finE [.r [], .r [(0, X (Xf [(2, 5), (3, 4)])), (1, X (Xf [(4, 2)])), (3, X (Xf [(0, 2), (1, 2), (3, 4), (4, 4)])), (4, X (Xc1 40 (fc_gapply ({ rows := 1, cols := 1, cells := [], merges := [] } : Grid) ({ rows := [], cols := [], cells := [({ row := 0, col := 0, text := { data := #[120] }, ref := 0, attrs := [] } : Cell)], split := [], merge := [] } : GEd) (by assumption)) (rowC cellT [({ row := 0, col := 0, text := { data := #[120] }, ref := 0, attrs := [] } : Cell)] X0)))], .r [(4, Xv 1 true X0), (5, Xv 1 true (Xl cellT (((rawGr ({ rows := 1, cols := 1, cells := [], merges := [] } : Grid) ({ rows := [], cols := [], cells := [({ row := 0, col := 0, text := { data := #[120] }, ref := 0, attrs := [] } : Cell)], split := [], merge := [] } : GEd))).cells))), (6, Xv 1 true X0), (7, X (Xk true)), (10, Xv 1 (true && (((((rawGr ({ rows := 1, cols := 1, cells := [], merges := [] } : Grid) ({ rows := [], cols := [], cells := [({ row := 0, col := 0, text := { data := #[120] }, ref := 0, attrs := [] } : Cell)], split := [], merge := [] } : GEd))).cells).length : Int) == 1)) (Xc1 176 (fc_at ((rawGr ({ rows := 1, cols := 1, cells := [], merges := [] } : Grid) ({ rows := [], cols := [], cells := [({ row := 0, col := 0, text := { data := #[120] }, ref := 0, attrs := [] } : Cell)], split := [], merge := [] } : GEd))) 0 0 (by omega) (by assumption) (by assumption)) X0)), (11, Xv 1 (true && (((((rawGr ({ rows := 1, cols := 1, cells := [], merges := [] } : Grid) ({ rows := [], cols := [], cells := [({ row := 0, col := 0, text := { data := #[120] }, ref := 0, attrs := [] } : Cell)], split := [], merge := [] } : GEd))).cells).length : Int) == 1)) X0), (12, Xv 1 (true && (((((rawGr ({ rows := 1, cols := 1, cells := [], merges := [] } : Grid) ({ rows := [], cols := [], cells := [({ row := 0, col := 0, text := { data := #[120] }, ref := 0, attrs := [] } : Cell)], split := [], merge := [] } : GEd))).cells).length : Int) == 1)) X0), (13, X (Xk (true && (((((rawGr ({ rows := 1, cols := 1, cells := [], merges := [] } : Grid) ({ rows := [], cols := [], cells := [({ row := 0, col := 0, text := { data := #[120] }, ref := 0, attrs := [] } : Cell)], split := [], merge := [] } : GEd))).cells).length : Int) == 1))))]] [] (fun z0 => (VB z0, [])) (((true && (((((rawGr ({ rows := 1, cols := 1, cells := [], merges := [] } : Grid) ({ rows := [], cols := [], cells := [({ row := 0, col := 0, text := { data := #[120] }, ref := 0, attrs := [] } : Cell)], split := [], merge := [] } : GEd))).cells).length : Int) == 1)) && seq (((if hasC (((rawGr ({ rows := 1, cols := 1, cells := [], merges := [] } : Grid) ({ rows := [], cols := [], cells := [({ row := 0, col := 0, text := { data := #[120] }, ref := 0, attrs := [] } : Cell)], split := [], merge := [] } : GEd)))).cells (⟨0, 0, { data := #[] }, 0, []⟩ : Cell) = true then (((rawGr ({ rows := 1, cols := 1, cells := [], merges := [] } : Grid) ({ rows := [], cols := [], cells := [({ row := 0, col := 0, text := { data := #[120] }, ref := 0, attrs := [] } : Cell)], split := [], merge := [] } : GEd)))).cells.getD (lobC (((rawGr ({ rows := 1, cols := 1, cells := [], merges := [] } : Grid) ({ rows := [], cols := [], cells := [({ row := 0, col := 0, text := { data := #[120] }, ref := 0, attrs := [] } : Cell)], split := [], merge := [] } : GEd)))).cells (⟨0, 0, { data := #[] }, 0, []⟩ : Cell)) default else (⟨0, 0, { data := #[] }, 0, []⟩ : Cell))).text) ({ data := #[120] })) : Bool) (true : Bool) e1.symm
end Go.Ch
end
section
set_option linter.unusedVariables false
namespace Go.Ch
open Go Go.Ab

/-- Strictly ascending. -/
def Asc : List Cell → Prop
  | [] => True
  | c :: l => (∀ x ∈ l, ordC c x < 0) ∧ Asc l
theorem ordC_trans {a b c : Cell} (h1 : ordC a b < 0) (h2 : ordC b c < 0) : ordC a c < 0 := by
  rw [ordC_lt] at *; omega
theorem ordC_le_trans {a b c : Cell} (h1 : ordC a b ≤ 0) (h2 : ordC b c < 0) : ordC a c < 0 := by
  have : ¬ 0 < ordC a b := by omega
  rw [ordC_lt] at *
  rw [ordC_def] at h1
  repeat' split at h1
  all_goals omega
theorem ordC_flip {a b : Cell} : 0 < ordC a b ↔ ordC b a < 0 := by
  rw [ordC_lt, ordC_def]; repeat' split
  all_goals omega
theorem asc_sort : ∀ {l : List Cell}, Asc l → SortC l
  | [], _, p, q, h1, h2 => by simp at h2
  | c :: l, ⟨h, k⟩, p, q, h1, h2 => by
    cases q with
    | zero => omega
    | succ q =>
      cases p with
      | zero => exact h _ (getDX_mem (by simpa using h2))
      | succ p => exact asc_sort k p q (by omega) (by simpa using h2)
theorem sameC_eq {a b : Cell} (h : sameC a b = true) : a = b := by
  unfold sameC at h
  simp only [Bool.and_eq_true, beq_iff_eq] at h
  obtain ⟨⟨⟨⟨h1, h2⟩, h3⟩, h4⟩, h5⟩ := h
  have h3' : a.text = b.text := seq_iff.1 h3
  have h5' : a.attrs = b.attrs := sameL_eq.1 h5
  cases a; cases b; simp_all
theorem bareC_empty (c : Cell) : emptyC (bareC c) = true := by
  have h : ((seq ({ data := #[] } : ByteArray) { data := #[] } && (0 : Int) == 0) && ((([] : List Attr).length : Nat) : Int) == 0) = true := by decide +kernel
  exact h
theorem bareC_ord (x c : Cell) : ordC x (bareC c) = ordC x c := by rw [ordC_def, ordC_def]; rfl
theorem bareC_ord' (x c : Cell) : ordC (bareC x) c = ordC x c := by rw [ordC_def, ordC_def]; rfl
theorem ordC_self (x : Cell) : ordC x x = 0 := by rw [ordC_eq]; exact ⟨rfl, rfl⟩
theorem putL_skip {x : Cell} {l : List Cell} : ∀ {news : List Cell}, (∀ c ∈ news, ordC x c < 0) → putL news (x :: l) = x :: putL news l
  | [], _ => rfl
  | c :: ns, h => by rw [putL, putL, putC, if_pos (h c (by simp))]
/-- What a difference names: what is set, and what was there. -/
theorem dif_mem : ∀ (g fr : List Cell) (y : Cell), y ∈ difL g fr → y ∈ g ∨ ∃ x ∈ fr, y = bareC x
  | [], fr, y, h => by
    obtain ⟨x, hx, e⟩ := List.mem_map.1 (show y ∈ fr.map bareC from h)
    exact .inr ⟨x, hx, e.symm⟩
  | c :: ns, [], y, h => by
    rw [difL, difC] at h
    rcases List.mem_cons.1 h with rfl | h
    · exact .inl (by simp)
    · rcases dif_mem ns [] y h with h | ⟨x, hx, _⟩
      · exact .inl (by simp [h])
      · cases hx
  | c :: ns, x :: l, y, h => by
    have ih := dif_mem (c :: ns) l y
    rw [difL] at ih
    rw [difL, difC] at h
    split at h
    · rcases List.mem_cons.1 h with rfl | h
      · exact .inr ⟨x, by simp, rfl⟩
      · rcases ih h with h | ⟨z, hz, e⟩
        · exact .inl h
        · exact .inr ⟨z, by simp [hz], e⟩
    · split at h
      · split at h
        · rcases dif_mem ns l y h with h | ⟨z, hz, e⟩
          · exact .inl (by simp [h])
          · exact .inr ⟨z, by simp [hz], e⟩
        · rcases List.mem_cons.1 h with rfl | h
          · exact .inl (by simp)
          · rcases dif_mem ns l y h with h | ⟨z, hz, e⟩
            · exact .inl (by simp [h])
            · exact .inr ⟨z, by simp [hz], e⟩
      · rcases List.mem_cons.1 h with rfl | h
        · exact .inl (by simp)
        · rcases dif_mem ns (x :: l) y h with h | h
          · exact .inl (by simp [h])
          · exact .inr h
termination_by g fr => g.length + fr.length
theorem put_dif : ∀ (g fr : List Cell), Asc g → Asc fr → (∀ c ∈ g, emptyC c = false) → putL (difL g fr) fr = g
  | [], [], _, _, _ => rfl
  | [], x :: l, _, h2, _ => by
    have ih := put_dif [] l trivial h2.2 (fun c hc => by cases hc)
    rw [difL] at ih ⊢
    rw [List.map_cons, putL, putC, if_neg (by rw [bareC_ord, ordC_self]; decide), if_pos (by rw [bareC_ord, ordC_self]), if_pos (bareC_empty x)]
    exact ih
  | c :: ns, [], h1, _, h3 => by
    have ih := put_dif ns [] h1.2 trivial (fun y hy => h3 y (by simp [hy]))
    rw [difL, difC, putL, putC, if_neg (by rw [h3 c (by simp)]; decide), ih]; rfl
  | c :: ns, x :: l, h1, h2, h3 => by
    rw [difL, difC]
    by_cases o1 : ordC x c < 0
    · rw [if_pos o1, putL, putC, if_neg (by rw [bareC_ord, ordC_self]; decide), if_pos (by rw [bareC_ord, ordC_self]), if_pos (bareC_empty x), List.nil_append]
      exact put_dif (c :: ns) l h1 h2.2 h3
    · rw [if_neg o1]
      by_cases o2 : ordC x c = 0
      · rw [if_pos o2]
        have ih := put_dif ns l h1.2 h2.2 (fun y hy => h3 y (by simp [hy]))
        by_cases o3 : sameC x c = true
        · rw [if_pos o3]
          have e := sameC_eq o3
          subst e
          rw [putL_skip, ih]
          intro y hy
          rcases dif_mem ns l y hy with h | ⟨z, hz, rfl⟩
          · exact h1.1 y h
          · rw [bareC_ord]; exact h2.1 z hz
        · rw [if_neg o3, putL, putC, if_neg o1, if_pos o2, if_neg (by rw [h3 c (by simp)]; decide), ih]; rfl
      · rw [if_neg o2, putL, putC, if_neg o1, if_neg o2, if_neg (by rw [h3 c (by simp)]; decide)]
        rw [put_dif ns (x :: l) h1.2 h2 (fun y hy => h3 y (by simp [hy]))]; rfl
termination_by g fr => g.length + fr.length
theorem cellsE_all {l : List Cell} {m n : Int} {o : Bool} : ∀ (k i : Nat), l.length - i = k →
    (cellsE l m n o i = 0 ↔ ∀ j, i ≤ j → j < l.length → cellE (l.getD j default) m n o = 0 ∧ (0 < j → ordC (l.getD (j - 1) default) (l.getD j default) < 0))
  | 0, i, h => by
    rw [cellsE, if_neg (by omega)]
    exact ⟨fun _ j h1 h2 => by omega, fun _ => rfl⟩
  | k + 1, i, h => by
    have ih := cellsE_all (l := l) (m := m) (n := n) (o := o) k (i + 1) (by omega)
    rw [cellsE, if_pos (by omega)]
    by_cases c1 : cellE (l.getD i default) m n o = 0
    · rw [if_neg (fun q => q c1)]
      by_cases c2 : 0 < i ∧ 0 ≤ ordC (l.getD (i - 1) default) (l.getD i default)
      · rw [if_pos c2]
        refine ⟨fun q => (by cases q), fun q => ?_⟩
        have := (q i (Nat.le_refl _) (by omega)).2 c2.1
        omega
      · rw [if_neg c2, ih]
        refine ⟨fun q j h1 h2 => ?_, fun q j h1 h2 => q j (by omega) h2⟩
        by_cases e : i = j
        · subst e; exact ⟨c1, fun h0 => by omega⟩
        · exact q j (by omega) h2
    · rw [if_pos c1]
      exact ⟨fun q => absurd q c1, fun q => (q i (Nat.le_refl _) (by omega)).1⟩
theorem asc_adj : ∀ {l : List Cell}, (∀ j, 0 < j → j < l.length → ordC (l.getD (j - 1) default) (l.getD j default) < 0) → Asc l
  | [], _ => trivial
  | [c], _ => ⟨fun x hx => (by cases hx), trivial⟩
  | c :: d :: l, h => by
    have h1 : ordC c d < 0 := h 1 (by decide) (by simp)
    have ih := asc_adj (l := d :: l) (fun j h0 hj => by
      have := h (j + 1) (by omega) (by simp only [List.length_cons] at hj ⊢; omega)
      obtain ⟨j, rfl⟩ : ∃ q, j = q + 1 := ⟨j - 1, by omega⟩
      exact this)
    refine ⟨fun x hx => ?_, ih⟩
    rcases List.mem_cons.1 hx with rfl | hx
    · exact h1
    · exact ordC_trans h1 (ih.1 x hx)
theorem cellsE_iff {l : List Cell} {m n : Int} {o : Bool} : cellsE l m n o 0 = 0 ↔ (∀ c ∈ l, cellE c m n o = 0) ∧ Asc l := by
  rw [cellsE_all _ 0 rfl]
  constructor
  · intro h
    refine ⟨fun c hc => ?_, asc_adj (fun j h0 hj => (h j (Nat.zero_le _) hj).2 h0)⟩
    obtain ⟨j, hj, rfl⟩ := mem_getDX hc
    exact (h j (Nat.zero_le _) hj).1
  · rintro ⟨h1, h2⟩ j _ hj
    exact ⟨h1 _ (getDX_mem hj), fun h0 => asc_sort h2 (j - 1) j (by omega) hj⟩
/-- One cell's conditions. -/
theorem cellE_iff {c : Cell} {m n : Int} {o : Bool} : cellE c m n o = 0 ↔ (0 ≤ c.row ∧ c.row < m ∧ 0 ≤ c.col ∧ c.col < n) ∧ (0 ≤ c.ref ∧ c.ref ≤ 1073741824) ∧ textG c.text = true ∧ chkA false c.attrs 0 = 0 ∧ (o = false → emptyC c = false) := by
  unfold cellE
  by_cases c1 : c.row < 0 ∨ m ≤ c.row ∨ c.col < 0 ∨ n ≤ c.col
  · rw [if_pos c1]; exact ⟨fun q => (by cases q), fun q => by omega⟩
  · rw [if_neg c1]
    by_cases c2 : c.ref < 0 ∨ 1073741824 < c.ref
    · rw [if_pos c2]; exact ⟨fun q => (by cases q), fun q => by omega⟩
    · rw [if_neg c2]
      by_cases c3 : textG c.text = false
      · rw [if_pos c3]; exact ⟨fun q => (by cases q), fun q => by rw [q.2.2.1] at c3; cases c3⟩
      · rw [if_neg c3]
        by_cases c4 : chkA false c.attrs 0 = 0
        · rw [if_neg (fun q => q c4)]
          by_cases c5 : emptyC c = true ∧ o = false
          · rw [if_pos c5]; exact ⟨fun q => (by cases q), fun q => by have := q.2.2.2.2 c5.2; rw [c5.1] at this; cases this⟩
          · rw [if_neg c5]
            refine ⟨fun _ => ⟨by omega, by omega, by simpa using c3, c4, fun ho => ?_⟩, fun _ => rfl⟩
            cases he : emptyC c with
            | false => rfl
            | true => exact absurd ⟨he, ho⟩ c5
        · rw [if_pos c4]; exact ⟨fun q => absurd q c4, fun q => q.2.2.2.1⟩
/-! ### What putting gives -/
theorem put_mem : ∀ (ns l : List Cell) (y : Cell), y ∈ putL ns l → (y ∈ ns ∧ emptyC y = false) ∨ y ∈ l
  | [], l, y, h => .inr h
  | c :: ns, [], y, h => by
    rw [putL, putC] at h
    rcases List.mem_append.1 h with h | h
    · cases he : emptyC c with
      | true => rw [he, if_pos rfl] at h; cases h
      | false => rw [he, if_neg (by decide)] at h; rw [List.mem_singleton.1 h]; exact .inl ⟨by simp, he⟩
    · rcases put_mem ns [] y h with ⟨h1, h2⟩ | h
      · exact .inl ⟨by simp [h1], h2⟩
      · exact .inr h
  | c :: ns, x :: l, y, h => by
    have ih := put_mem (c :: ns) l y
    rw [putL] at ih
    rw [putL, putC] at h
    split at h
    · rcases List.mem_cons.1 h with rfl | h
      · exact .inr (by simp)
      · rcases ih h with h | h
        · exact .inl h
        · exact .inr (by simp [h])
    · have hcase : ∀ (r : List Cell), (∀ z ∈ r, z ∈ x :: l) → y ∈ (if emptyC c = true then [] else [c]) ++ putL ns r → (∀ z, z ∈ putL ns r → (z ∈ ns ∧ emptyC z = false) ∨ z ∈ r) → (y ∈ c :: ns ∧ emptyC y = false) ∨ y ∈ x :: l := fun r hr h hi => by
        rcases List.mem_append.1 h with h | h
        · cases he : emptyC c with
          | true => rw [he, if_pos rfl] at h; cases h
          | false => rw [he, if_neg (by decide)] at h; rw [List.mem_singleton.1 h]; exact .inl ⟨by simp, he⟩
        · rcases hi y h with ⟨h1, h2⟩ | h
          · exact .inl ⟨by simp [h1], h2⟩
          · exact .inr (hr y h)
      split at h
      · exact hcase l (fun z hz => by simp [hz]) h (fun z => put_mem ns l z)
      · exact hcase (x :: l) (fun z hz => hz) h (fun z => put_mem ns (x :: l) z)
termination_by ns l => ns.length + l.length
end Go.Ch
end
section
set_option linter.unusedVariables false
set_option linter.unusedSimpArgs false
namespace Go.Ch
open Go Go.Ab

structure DStep where
  kind : Int
  n : Int
  attrs : List Attr
  elems : List Elem
instance : Inhabited DStep := ⟨⟨0, 0, [], []⟩⟩
def dstepT (s : DStep) : Tree := .agg [.sc (.int .i64 s.kind), .sc (.int .i64 s.n), .lst 2 (s.attrs.map attrT), .lst 3 (s.elems.map elemT)]
def AN (n : Nat) (l : List Elem) : Prop := ∀ x ∈ l, x.attrs.length ≤ n
def stepD (s : DStep) : Int :=
  if s.kind = 1 then (if s.n ≠ 0 ∨ 0 < s.attrs.length then 4 else if s.elems.length = 0 then 11 else partE s.elems 0)
  else if s.kind = 0 ∨ s.kind = 2 then
    (if 0 < s.elems.length ∨ (s.kind = 2 ∧ 0 < s.attrs.length) then 4 else if s.n < 1 ∨ 2147483647 < s.n then 2 else chkA true s.attrs 0)
  else 8
def szD (s : DStep) : Int := if s.kind = 1 then (s.elems.length : Int) else s.n
def DOk (s : DStep) : Prop :=
  (s.kind = 1 ∧ s.n = 0 ∧ s.attrs = [] ∧ s.elems ≠ [] ∧ ∀ x ∈ s.elems, elemE x = 0) ∨
  ((s.kind = 0 ∨ s.kind = 2) ∧ s.elems = [] ∧ (s.kind = 2 → s.attrs = []) ∧ 1 ≤ s.n ∧ s.n ≤ 2147483647 ∧ VG true s.attrs)
theorem len0 {α : Type} {l : List α} : ¬ 0 < l.length ↔ l = [] := by
  rw [Nat.not_lt, Nat.le_zero, List.length_eq_zero_iff]
/-- Neighbours that a delta must not have. -/
def adjD (w x : DStep) : Bool := ((w.kind == x.kind) && ((x.kind != 0) || sameL w.attrs x.attrs)) || ((w.kind == 2) && (x.kind == 1))
theorem adjD_yes {w x : DStep} : adjD w x = true ↔ (w.kind = x.kind ∧ (¬ x.kind = 0 ∨ sameL w.attrs x.attrs = true)) ∨ (w.kind = 2 ∧ x.kind = 1) := by
  unfold adjD; simp
/-- Bounds on the lists inside. -/
def DN (n : Nat) (l : List DStep) : Prop := ∀ s ∈ l, s.elems.length ≤ n ∧ s.attrs.length ≤ n ∧ AN n s.elems
theorem DN.at_ {n : Nat} {l : List DStep} (h : DN n l) {k : Nat} (hk : k < l.length) : (l.getD k default).elems.length ≤ n ∧ (l.getD k default).attrs.length ≤ n ∧ AN n (l.getD k default).elems := by
  refine h _ ?_
  rw [show l.getD k default = l[k] by simp [List.getD, List.getElem?_eq_getElem hk]]
  exact List.getElem_mem hk
def chkD (l : List DStep) (i : Nat) (b a : Int) : Int :=
  if i < l.length then
    if stepD (l.getD i default) ≠ 0 then stepD (l.getD i default)
    else if 0 < i ∧ adjD (l.getD (i - 1) default) (l.getD i default) = true then 5
    else chkD l (i + 1) (if (l.getD i default).kind ≠ 1 then min (b + (l.getD i default).n) 2147483648 else b) (if (l.getD i default).kind ≠ 2 then min (a + szD (l.getD i default)) 2147483648 else a)
  else if 2147483647 < b ∨ 2147483647 < a then 3 else 0
termination_by l.length - i
def checkD (l : List DStep) : Int := chkD l 0 0 0
def oS (s : DStep) : Int := if s.kind = 1 then 0 else s.n
def nS (s : DStep) : Int := if s.kind = 2 then 0 else szD s
def oldD : List DStep → Int
  | [] => 0
  | s :: l => oS s + oldD l
def newD : List DStep → Int
  | [] => 0
  | s :: l => nS s + newD l
def DForm : List DStep → Prop
  | [] => True
  | [s] => DOk s
  | s :: t :: l => DOk s ∧ adjD s t = false ∧ DForm (t :: l)
def DFormAt (l : List DStep) (i : Nat) : Prop := ∀ k, i ≤ k → k < l.length → DOk (l.getD k default) ∧ (0 < k → adjD (l.getD (k - 1) default) (l.getD k default) = false)
theorem dropD {α : Type} [Inhabited α] {l : List α} {i : Nat} (h : i < l.length) : l.drop i = l.getD i default :: l.drop (i + 1) := by
  rw [List.drop_eq_getElem_cons h]; simp [List.getD, List.getElem?_eq_getElem h]
theorem atD_drop {l : List DStep} {i : Nat} (h : DFormAt l i) : ∀ s ∈ l.drop i, DOk s := by
  intro s hs
  obtain ⟨k, hk, e⟩ := List.mem_iff_getElem.1 hs
  rw [List.length_drop] at hk
  have := (h (i + k) (by omega) (by omega)).1
  rw [List.getElem_drop] at e
  rw [← e]
  simpa [List.getD, List.getElem?_eq_getElem (show i + k < l.length by omega)] using this
theorem at_of_dform : ∀ {l : List DStep}, DForm l → DFormAt l 0
  | [], _ => fun k h1 h2 => by simp at h2
  | [s], h => fun k h1 h2 => by
    have : k = 0 := by simp at h2; omega
    subst this
    exact ⟨h, fun h0 => by omega⟩
  | s :: t :: l, h => fun k h1 h2 => by
    obtain ⟨a, b, c⟩ := h
    rcases k with _ | k
    · exact ⟨a, fun h0 => by omega⟩
    · have := at_of_dform c k (Nat.zero_le _) (by simp at h2 ⊢; omega)
      rw [List.getD_cons_succ]
      refine ⟨this.1, fun _ => ?_⟩
      rcases k with _ | k
      · exact b
      · rw [Nat.add_sub_cancel, List.getD_cons_succ]
        have e := this.2 (by omega)
        rw [Nat.add_sub_cancel] at e
        exact e
def DValid (l : List DStep) : Prop := DForm l ∧ oldD l ≤ 2147483647 ∧ newD l ≤ 2147483647
theorem DForm.all {l : List DStep} (h : DForm l) : ∀ s ∈ l, DOk s := by
  have := atD_drop (at_of_dform h)
  simpa using this

/-! ### The reference's check -/
def adjR (w x : DStep) : Prop := if x.kind = 1 then w.kind ≠ 0 else if x.kind = 2 then w.kind = 2 else w.kind = 0 ∧ sameL w.attrs x.attrs = true
instance (w x : DStep) : Decidable (adjR w x) := by unfold adjR; infer_instance
def chkR (l : List DStep) (i : Nat) (b a : Int) : Int :=
  if i < l.length then
    if stepD (l.getD i default) ≠ 0 then stepD (l.getD i default)
    else if 0 < i ∧ adjR (l.getD (i - 1) default) (l.getD i default) then 5
    else chkR l (i + 1) (if (l.getD i default).kind ≠ 1 ∧ b < 2147483648 then b + (l.getD i default).n else b) (if (l.getD i default).kind ≠ 2 ∧ a < 2147483648 then a + ((l.getD i default).n + (l.getD i default).elems.length) else a)
  else if 2147483647 < b ∨ 2147483647 < a then 3 else 0
termination_by l.length - i
def refD (l : List DStep) : Int := chkR l 0 0 0
def sumNs : List DStep → Int
  | [] => 0
  | s :: l => s.n + sumNs l
/-- Sizes of the strings inside. -/
def sameDS (x y : DStep) : Bool := ((x.kind == y.kind) && (x.n == y.n)) && (sameL x.attrs y.attrs && sameF x.elems y.elems)

/-! ### Units -/
inductive DU where
  | K (c : List Attr)
  | A (e : Elem)
  | C
def exS (s : DStep) : List DU := if s.kind = 1 then s.elems.map .A else if s.kind = 2 then List.replicate s.n.toNat .C else List.replicate s.n.toNat (.K s.attrs)
def exD : List DStep → List DU
  | [] => []
  | s :: l => exS s ++ exD l
theorem exD_app (a b : List DStep) : exD (a ++ b) = exD a ++ exD b := by
  induction a with
  | nil => rfl
  | cons s a ih => simp [exD, ih]
/-- An element changed by an attribute change. -/
def chgE (c : List Attr) (x : Elem) : Elem := ⟨x.char, x.ref, fm rawG x.attrs c⟩
def applyU : List DU → List Elem → List Elem
  | [], _ => []
  | .A e :: u, l => e :: applyU u l
  | .K c :: u, x :: l => chgE c x :: applyU u l
  | .C :: u, _ :: l => applyU u l
  | .K _ :: u, [] => applyU u []
  | .C :: u, [] => applyU u []
def undoU : List DU → List Elem → List DU
  | [], _ => []
  | .A _ :: u, l => .C :: undoU u l
  | .K c :: u, x :: l => .K (fm chgG (fm rawG x.attrs c) x.attrs) :: undoU u l
  | .C :: u, x :: l => .A x :: undoU u l
  | .K _ :: u, [] => undoU u []
  | .C :: u, [] => undoU u []
def oldN : List DU → Nat
  | [] => 0
  | .A _ :: u => oldN u
  | _ :: u => oldN u + 1
def newN : List DU → Nat
  | [] => 0
  | .C :: u => newN u
  | _ :: u => newN u + 1
def UOk : List DU → Prop
  | [] => True
  | .K c :: u => VG true c ∧ UOk u
  | _ :: u => UOk u
inductive DSw : List DU → List DU → Prop
  | refl (u : List DU) : DSw u u
  | cons (x : DU) {u v : List DU} (h : DSw u v) : DSw (x :: u) (x :: v)
  | swap (e : Elem) (u : List DU) : DSw (.A e :: .C :: u) (.C :: .A e :: u)
  | symm {u v : List DU} (h : DSw u v) : DSw v u
  | trans {u v w : List DU} (h : DSw u v) (k : DSw v w) : DSw u w
theorem DSw.left (w : List DU) {u v : List DU} (h : DSw u v) : DSw (w ++ u) (w ++ v) := by
  induction w with
  | nil => exact h
  | cons x w ih => exact .cons x ih
theorem DSw.right (w : List DU) {u v : List DU} (h : DSw u v) : DSw (u ++ w) (v ++ w) := by
  induction h with
  | refl u => exact .refl _
  | cons x _ ih => exact .cons x ih
  | swap e u => exact .swap e _
  | symm _ ih => exact .symm ih
  | trans _ _ a b => exact .trans a b
theorem dsw_lens {u v : List DU} (h : DSw u v) : oldN u = oldN v ∧ newN u = newN v := by
  induction h with
  | refl u => exact ⟨rfl, rfl⟩
  | cons x _ ih => cases x <;> simp [oldN, newN, ih.1, ih.2]
  | swap e u => exact ⟨rfl, rfl⟩
  | symm _ ih => exact ⟨ih.1.symm, ih.2.symm⟩
  | trans _ _ a b => exact ⟨a.1.trans b.1, a.2.trans b.2⟩
theorem dsw_C_As (e : List Elem) (u : List DU) : DSw (.C :: (e.map .A ++ u)) (e.map .A ++ .C :: u) := by
  induction e with
  | nil => exact .refl _
  | cons x e ih => exact .trans (.symm (.swap x _)) (.cons _ ih)
theorem dsw_Cs_As (c : Nat) (e : List Elem) (u : List DU) : DSw (List.replicate c .C ++ (e.map .A ++ u)) (e.map .A ++ (List.replicate c .C ++ u)) := by
  induction c with
  | zero => exact .refl _
  | succ c ih => exact .trans (.cons _ ih) (dsw_C_As e _)
def rawD (l : List Elem) (d : List DStep) : List Elem := applyU (exD d) l
end Go.Ch
end
section
set_option linter.unusedVariables false
set_option linter.unusedSimpArgs false
namespace Go.Ch
open Go Go.Ab

structure DWr where
  out : List DStep
  add : List Elem
  cut : Int
def flushD (w : DWr) : List DStep := w.out ++ (if 0 < w.add.length then [⟨1, 0, [], w.add⟩] else []) ++ (if 0 < w.cut then [⟨2, w.cut, [], []⟩] else [])
def keepD (l : List DStep) (n : Int) (c : List Attr) : List DStep :=
  if 0 < l.length ∧ (l.getD (l.length - 1) default).kind = 0 ∧ sameL (l.getD (l.length - 1) default).attrs c = true then
    l.set (l.length - 1) ⟨(l.getD (l.length - 1) default).kind, (l.getD (l.length - 1) default).n + n, (l.getD (l.length - 1) default).attrs, (l.getD (l.length - 1) default).elems⟩
  else l ++ [⟨0, n, c, []⟩]
/-- A step without the bound on its count. -/
def DOkW (s : DStep) : Prop :=
  (s.kind = 1 ∧ s.n = 0 ∧ s.attrs = [] ∧ s.elems ≠ [] ∧ ∀ x ∈ s.elems, elemE x = 0) ∨
  ((s.kind = 0 ∨ s.kind = 2) ∧ s.elems = [] ∧ (s.kind = 2 → s.attrs = []) ∧ 1 ≤ s.n ∧ VG true s.attrs)
def AdjOk : List DStep → Prop
  | [] => True
  | [_] => True
  | s :: t :: l => adjD s t = false ∧ AdjOk (t :: l)
theorem adj_snoc : ∀ {l : List DStep} {s : DStep}, AdjOk l → (∀ t, l.getLast? = some t → adjD t s = false) → AdjOk (l ++ [s])
  | [], s, _, _ => trivial
  | [x], s, _, h => ⟨h x rfl, trivial⟩
  | x :: y :: l, s, hf, h => ⟨hf.1, adj_snoc (l := y :: l) hf.2 (fun t ht => h t (by simpa [List.getLast?_cons_cons] using ht))⟩
theorem adjD_eq' {w x x' : DStep} (k : x'.kind = x.kind) (a : x'.attrs = x.attrs) : adjD w x' = adjD w x := by unfold adjD; rw [k, a]
theorem adj_last : ∀ {l : List DStep} {s s' : DStep}, AdjOk (l ++ [s]) → s'.kind = s.kind → s'.attrs = s.attrs → AdjOk (l ++ [s'])
  | [], s, s', _, _, _ => trivial
  | [x], s, s', h, k, a => ⟨by rw [adjD_eq' k a]; exact h.1, trivial⟩
  | x :: y :: l, s, s', h, k, a => ⟨h.1, adj_last (l := y :: l) h.2 k a⟩
theorem dform_of : ∀ {l : List DStep}, (∀ s ∈ l, DOk s) → AdjOk l → DForm l
  | [], _, _ => trivial
  | [s], h, _ => h s (by simp)
  | s :: t :: l, h, k => ⟨h s (by simp), k.1, dform_of (fun x hx => h x (by simp at hx ⊢; exact .inr hx)) k.2⟩
theorem oSW {s : DStep} (h : DOkW s) : 0 ≤ oS s ∧ 0 ≤ nS s ∧ (s.kind ≠ 1 → oS s = s.n) ∧ 0 ≤ s.n := by
  unfold oS nS szD
  rcases h with ⟨k, n, a, e, _⟩ | ⟨k, _, _, n1, _⟩
  · have : 0 < s.elems.length := List.length_pos_iff.2 e
    rw [if_pos k, if_neg (by omega), if_pos k]
    exact ⟨Int.le_refl _, by omega, fun q => absurd k q, by omega⟩
  · have k1 : ¬ s.kind = 1 := by omega
    simp only [if_neg k1]
    refine ⟨by omega, by (split <;> omega), fun _ => trivial, by omega⟩
theorem sumsW : ∀ {l : List DStep}, (∀ s ∈ l, DOkW s) → 0 ≤ oldD l ∧ 0 ≤ newD l ∧ ∀ s ∈ l, s.kind ≠ 1 → s.n ≤ oldD l
  | [], _ => ⟨Int.le_refl _, Int.le_refl _, fun s hs => by cases hs⟩
  | s :: l, h => by
    have h1 := oSW (h s (by simp))
    have h2 := sumsW (l := l) (fun t ht => h t (by simp [ht]))
    simp only [oldD, newD]
    refine ⟨by omega, by omega, fun t ht k => ?_⟩
    rcases List.mem_cons.1 ht with rfl | ht
    · have := h1.2.2.1 k; omega
    · have := h2.2.2 t ht k; omega
theorem valid_of {l : List DStep} (h : ∀ s ∈ l, DOkW s) (ha : AdjOk l) (h1 : oldD l ≤ 2147483647) (h2 : newD l ≤ 2147483647) : DValid l := by
  refine ⟨dform_of (fun s hs => ?_) ha, h1, h2⟩
  rcases h s hs with q | ⟨a, b, c, d, e⟩
  · exact .inl q
  · have := (sumsW h).2.2 s hs (by omega)
    exact .inr ⟨a, b, c, d, by omega, e⟩
theorem oldN_app (u v : List DU) : oldN (u ++ v) = oldN u + oldN v := by
  induction u with
  | nil => simp [oldN]
  | cons x u ih => cases x <;> simp [oldN, ih] <;> omega
theorem newN_app (u v : List DU) : newN (u ++ v) = newN u + newN v := by
  induction u with
  | nil => simp [newN]
  | cons x u ih => cases x <;> simp [newN, ih] <;> omega
theorem lens_As (e : List Elem) : oldN (e.map .A) = 0 ∧ newN (e.map .A) = e.length := by
  induction e with
  | nil => exact ⟨rfl, rfl⟩
  | cons x e ih => simp [oldN, newN, ih]
theorem lens_Cs (n : Nat) : oldN (List.replicate n .C) = n ∧ newN (List.replicate n .C) = 0 := by
  induction n with
  | zero => exact ⟨rfl, rfl⟩
  | succ n ih => simp [List.replicate_succ, oldN, newN, ih]
theorem lens_Ks (n : Nat) (c : List Attr) : oldN (List.replicate n (.K c)) = n ∧ newN (List.replicate n (.K c)) = n := by
  induction n with
  | zero => exact ⟨rfl, rfl⟩
  | succ n ih => simp [List.replicate_succ, oldN, newN, ih]
theorem lens_S {s : DStep} (h : DOkW s) : (oldN (exS s) : Int) = oS s ∧ (newN (exS s) : Int) = nS s := by
  unfold exS oS nS szD
  rcases h with ⟨k, n, a, e, _⟩ | ⟨k, _, _, n1, _⟩
  · rw [if_pos k, if_pos k, if_neg (by omega), if_pos k, (lens_As _).1, (lens_As _).2]; exact ⟨rfl, rfl⟩
  · have k1 : ¬ s.kind = 1 := by omega
    by_cases k2 : s.kind = 2
    · simp only [if_neg k1, if_pos k2]
      rw [(lens_Cs _).1, (lens_Cs _).2]; omega
    · simp only [if_neg k1, if_neg k2]
      rw [(lens_Ks _ _).1, (lens_Ks _ _).2]; omega
theorem lens_D : ∀ {l : List DStep}, (∀ s ∈ l, DOkW s) → (oldN (exD l) : Int) = oldD l ∧ (newN (exD l) : Int) = newD l
  | [], _ => ⟨rfl, rfl⟩
  | s :: l, h => by
    have h1 := lens_S (h s (by simp))
    have h2 := lens_D (l := l) (fun t ht => h t (by simp [ht]))
    simp only [exD, oldD, newD]
    rw [oldN_app, newN_app]
    omega
def exDW (w : DWr) : List DU := exD w.out ++ (w.add.map .A ++ List.replicate w.cut.toNat .C)
structure GoodD (w : DWr) : Prop where
  ok : ∀ s ∈ w.out, DOkW s
  adj : AdjOk w.out
  last : ∀ t, w.out.getLast? = some t → t.kind = 0
  add : ∀ x ∈ w.add, elemE x = 0
  cut : 0 ≤ w.cut
theorem goodD0 : GoodD ⟨[], [], 0⟩ := ⟨fun s h => (by cases h), trivial, fun t h => (by cases h), fun x h => (by cases h), Int.le_refl _⟩
theorem flushD_ex {w : DWr} (h : GoodD w) : exD (flushD w) = exDW w := by
  have h2 := h.cut
  unfold flushD exDW
  rw [exD_app, exD_app, List.append_assoc]
  congr 2
  · split
    · simp [exD, exS]
    · rw [show w.add = [] from len0.1 (by omega)]; rfl
  · split
    · simp [exD, exS]
    · rw [show w.cut.toNat = 0 by omega]; rfl
theorem adj_1 {t s : DStep} (h : t.kind ≠ s.kind) (h2 : ¬ (t.kind = 2 ∧ s.kind = 1)) : adjD t s = false := by
  cases e : adjD t s
  · rfl
  · rcases adjD_yes.1 e with ⟨a, _⟩ | a
    · exact absurd a h
    · exact absurd a h2
theorem vg_nil : VG true [] := (chk_iff (e := true) (l := [])).1 (by rw [chkA]; rfl)
theorem flushD_ok {w : DWr} (h : GoodD w) : (∀ s ∈ flushD w, DOkW s) ∧ AdjOk (flushD w) := by
  have h2 := h.cut
  have o1 : 0 < w.add.length → DOkW ⟨1, 0, [], w.add⟩ := fun q => .inl ⟨rfl, rfl, rfl, List.length_pos_iff.1 q, h.add⟩
  have o2 : 0 < w.cut → DOkW ⟨2, w.cut, [], []⟩ := fun q => .inr ⟨.inr rfl, rfl, fun _ => rfl, q, vg_nil⟩
  refine ⟨fun s hs => ?_, ?_⟩
  · unfold flushD at hs
    simp only [List.mem_append] at hs
    rcases hs with (hs | hs) | hs
    · exact h.ok s hs
    · split at hs
      · rename_i q; rw [List.mem_singleton] at hs; subst hs; exact o1 q
      · cases hs
    · split at hs
      · rename_i q; rw [List.mem_singleton] at hs; subst hs; exact o2 q
      · cases hs
  · unfold flushD
    by_cases ha : 0 < w.add.length
    · rw [if_pos ha]
      have f1 : AdjOk (w.out ++ [⟨1, 0, [], w.add⟩]) := adj_snoc h.adj (fun t ht => by
        have := h.last t ht
        exact adj_1 (by simp only; omega) (by omega))
      by_cases hc : 0 < w.cut
      · rw [if_pos hc]
        refine adj_snoc f1 (fun t ht => ?_)
        rw [List.getLast?_concat] at ht
        cases ht
        exact adj_1 (by show (1 : Int) ≠ 2; decide) (by show ¬ ((1 : Int) = 2 ∧ (2 : Int) = 1); decide)
      · rw [if_neg hc, List.append_nil]; exact f1
    · rw [if_neg ha, List.append_nil]
      by_cases hc : 0 < w.cut
      · rw [if_pos hc]
        refine adj_snoc h.adj (fun t ht => ?_)
        have := h.last t ht
        exact adj_1 (by simp only; omega) (by omega)
      · rw [if_neg hc, List.append_nil]; exact h.adj
theorem lastD {l : List DStep} (h : 0 < l.length) : l = l.take (l.length - 1) ++ [l.getD (l.length - 1) default] := by
  conv => lhs; rw [← List.take_append_drop (l.length - 1) l]
  congr 1
  rw [List.drop_eq_getElem_cons (by omega), List.drop_eq_nil_of_le (by omega)]
  simp [List.getD, List.getElem?_eq_getElem (show l.length - 1 < l.length by omega)]
theorem lastD_mem {l : List DStep} (h : 0 < l.length) : l.getD (l.length - 1) default ∈ l := by
  rw [show l.getD (l.length - 1) default = l[l.length - 1] by simp [List.getD, List.getElem?_eq_getElem (show l.length - 1 < l.length by omega)]]
  exact List.getElem_mem _
theorem setD {l : List DStep} (h : 0 < l.length) (s : DStep) : l.set (l.length - 1) s = l.take (l.length - 1) ++ [s] := by
  rw [List.set_eq_take_append_cons_drop, if_pos (by omega), List.drop_eq_nil_of_le (by omega)]
theorem keepD_ok {l : List DStep} {n : Int} {c : List Attr} (ho : ∀ s ∈ l, DOkW s) (hf : AdjOk l) (hn : 1 ≤ n) (hc : VG true c) :
    (∀ s ∈ keepD l n c, DOkW s) ∧ AdjOk (keepD l n c) ∧ (∀ t, (keepD l n c).getLast? = some t → t.kind = 0) ∧ exD (keepD l n c) = exD l ++ List.replicate n.toNat (.K c) := by
  unfold keepD
  split
  · rename_i hc
    obtain ⟨h0, hk, ha⟩ := hc
    rw [sameL_eq] at ha
    generalize hx : l.getD (l.length - 1) default = x at hk ha ⊢
    have hl := lastD h0
    rw [hx] at hl
    rw [setD h0]
    have hox : DOkW x := ho x (by rw [hl]; simp)
    have hx2 : x.elems = [] ∧ 1 ≤ x.n ∧ VG true x.attrs := by
      rcases hox with ⟨k, _⟩ | ⟨_, a, _, b, d⟩
      · omega
      · exact ⟨a, b, d⟩
    refine ⟨fun s hs => ?_, adj_last (s := x) (by rw [← hl]; exact hf) rfl rfl, fun t ht => ?_, ?_⟩
    · rw [List.mem_append] at hs
      rcases hs with hs | hs
      · exact ho s (List.mem_of_mem_take hs)
      · rw [List.mem_singleton] at hs; subst hs
        exact .inr ⟨.inl hk, hx2.1, fun q => by simp only at q; omega, by simp only; omega, hx2.2.2⟩
    · rw [List.getLast?_concat] at ht; cases ht; exact hk
    · conv => rhs; rw [hl]
      rw [exD_app, exD_app, List.append_assoc]
      congr 1
      simp only [exD, List.append_nil, exS]
      rw [if_neg (by omega), if_neg (by omega), if_neg (by omega), if_neg (by omega), ha, show (x.n + n).toNat = x.n.toNat + n.toNat by omega]
      exact List.replicate_append_replicate.symm
  · rename_i hq
    refine ⟨fun s hs => ?_, adj_snoc hf (fun t ht => ?_), fun t ht => ?_, by rw [exD_app]; simp [exD, exS]⟩
    · rw [List.mem_append] at hs
      rcases hs with hs | hs
      · exact ho s hs
      · rw [List.mem_singleton] at hs; subst hs
        exact .inr ⟨.inl rfl, rfl, fun q => (by cases q), hn, hc⟩
    · have h0 : 0 < l.length := by
        rcases l with _ | ⟨y, l⟩
        · cases ht
        · simp
      have hl : l.getLast? = some (l.getD (l.length - 1) default) := by
        conv => lhs; rw [lastD h0]
        rw [List.getLast?_concat]
      rw [hl] at ht
      cases ht
      cases e : adjD (l.getD (l.length - 1) default) ⟨0, n, c, []⟩
      · rfl
      · rcases adjD_yes.1 e with ⟨a, b | b⟩ | ⟨_, b⟩
        · exact absurd rfl b
        · exact absurd ⟨h0, a, b⟩ hq
        · cases b
    · rw [List.getLast?_concat] at ht; cases ht; rfl
theorem GoodD.keep {w : DWr} {n : Int} {c : List Attr} (h : GoodD w) (hn : 1 ≤ n) (hc : VG true c) :
    GoodD ⟨keepD (flushD w) n c, [], 0⟩ ∧ exDW ⟨keepD (flushD w) n c, [], 0⟩ = exDW w ++ List.replicate n.toNat (.K c) := by
  obtain ⟨q1, q2, q3, q4⟩ := keepD_ok (flushD_ok h).1 (flushD_ok h).2 hn hc
  refine ⟨⟨q1, q2, q3, fun x hx => (by cases hx), Int.le_refl _⟩, ?_⟩
  rw [← flushD_ex h, ← q4]
  simp [exDW]
theorem GoodD.elems {w : DWr} {e : List Elem} (h : GoodD w) (he : ∀ x ∈ e, elemE x = 0) :
    GoodD ⟨w.out, w.add ++ e, w.cut⟩ ∧ DSw (exDW ⟨w.out, w.add ++ e, w.cut⟩) (exDW w ++ e.map .A) := by
  refine ⟨⟨h.ok, h.adj, h.last, fun x hx => ?_, h.cut⟩, ?_⟩
  · rcases List.mem_append.1 hx with hx | hx
    · exact h.add x hx
    · exact he x hx
  · unfold exDW
    simp only [List.map_append, List.append_assoc]
    refine .left _ (.left _ ?_)
    have := dsw_Cs_As w.cut.toNat e []
    simp only [List.append_nil] at this
    exact .symm this
theorem GoodD.cuts {w : DWr} {n : Int} (h : GoodD w) (hn : 0 ≤ n) :
    GoodD ⟨w.out, w.add, w.cut + n⟩ ∧ exDW ⟨w.out, w.add, w.cut + n⟩ = exDW w ++ List.replicate n.toNat .C := by
  have h2 := h.cut
  refine ⟨⟨h.ok, h.adj, h.last, h.add, by simp only; omega⟩, ?_⟩
  unfold exDW
  simp only [List.append_assoc]
  rw [show (w.cut + n).toNat = w.cut.toNat + n.toNat by omega, ← List.replicate_append_replicate]
theorem GoodD.valid {w : DWr} {u : List DU} (h : GoodD w) (hs : DSw (exDW w) u) (h1 : oldN u ≤ 2147483647) (h2 : newN u ≤ 2147483647) :
    DValid (flushD w) ∧ DSw (exD (flushD w)) u ∧ oldD (flushD w) = oldN u ∧ newD (flushD w) = newN u := by
  have hk := flushD_ok h
  have he := flushD_ex h
  have hl := dsw_lens hs
  have hd := lens_D hk.1
  rw [he] at hd
  refine ⟨valid_of hk.1 hk.2 (by omega) (by omega), by rw [he]; exact hs, by omega, by omega⟩
end Go.Ch
end
section
set_option linter.unusedVariables false
set_option linter.unusedSimpArgs false
namespace Go.Ch
open Go Go.Ab

def putU (w : DWr) : DU → DWr
  | .K c => ⟨keepD (flushD w) 1 c, [], 0⟩
  | .A e => ⟨w.out, w.add ++ [e], w.cut⟩
  | .C => ⟨w.out, w.add, w.cut + 1⟩
def foldD (w : DWr) : List DU → DWr
  | [] => w
  | u :: us => foldD (putU w u) us
theorem foldD_As (e : List Elem) (us : List DU) : ∀ w : DWr, foldD w (e.map .A ++ us) = foldD ⟨w.out, w.add ++ e, w.cut⟩ us := by
  induction e with
  | nil => intro w; simp
  | cons x e ih => intro w; simp only [List.map_cons, List.cons_append, foldD, putU]; rw [ih]; simp
theorem foldD_Cs (n : Nat) (us : List DU) : ∀ w : DWr, foldD w (List.replicate n .C ++ us) = foldD ⟨w.out, w.add, w.cut + n⟩ us := by
  induction n with
  | zero => intro w; simp
  | succ n ih => intro w; simp only [List.replicate_succ, List.cons_append, foldD, putU]; rw [ih]; simp only; rw [show w.cut + 1 + (n : Int) = w.cut + ((n + 1 : Nat) : Int) by omega]
theorem flushD_nil (l : List DStep) : flushD ⟨l, [], 0⟩ = l := by simp [flushD]
theorem keepD_keepD {l : List DStep} {m n : Int} {c : List Attr} : keepD (keepD l m c) n c = keepD l (m + n) c := by
  unfold keepD
  by_cases h : 0 < l.length ∧ (l.getD (l.length - 1) default).kind = 0 ∧ sameL (l.getD (l.length - 1) default).attrs c = true
  · rw [if_pos h, if_pos h, setD h.1, setD h.1]
    generalize l.getD (l.length - 1) default = x at *
    have e : ∀ y : DStep, (List.take (l.length - 1) l ++ [y]).getD ((List.take (l.length - 1) l ++ [y]).length - 1) default = y := fun y => by simp
    rw [e, if_pos ⟨by simp, h.2.1, h.2.2⟩, setD (by simp)]
    have t : ∀ y : DStep, (List.take (l.length - 1) l ++ [y]).take ((List.take (l.length - 1) l ++ [y]).length - 1) = List.take (l.length - 1) l := fun y => by simp
    rw [t, Int.add_assoc]
  · rw [if_neg h, if_neg h]
    have e : ∀ y : DStep, (l ++ [y]).getD ((l ++ [y]).length - 1) default = y := fun y => by simp
    rw [e, if_pos ⟨by simp, rfl, sameL_self c⟩, setD (by simp)]
    simp
theorem foldD_Ks (c : List Attr) (us : List DU) : ∀ (n : Nat) (w : DWr), foldD w (List.replicate (n + 1) (.K c) ++ us) = foldD ⟨keepD (flushD w) ((n + 1 : Nat) : Int) c, [], 0⟩ us
  | 0, w => by simp [foldD, putU]
  | n + 1, w => by
    rw [List.replicate_succ, List.cons_append, foldD, foldD_Ks c us n]
    simp only [putU]
    rw [flushD_nil, keepD_keepD, show (1 : Int) + ((n + 1 : Nat) : Int) = ((n + 1 + 1 : Nat) : Int) by omega]
def UnitOk : DU → Prop
  | .K c => VG true c ∧ c.length ≤ 400000000000
  | .A e => elemE e = 0 ∧ e.attrs.length ≤ 400000000000
  | .C => True
/-- Bounds of what the writer holds. -/
structure WBd (w : DWr) : Prop where
  out : DN 400000000000 w.out
  add : AN 400000000000 w.add
theorem WBd.flush {w : DWr} (h : WBd w) (hl : w.add.length ≤ 400000000000) : DN 400000000000 (flushD w) := by
  intro s hs
  unfold flushD at hs
  simp only [List.mem_append] at hs
  rcases hs with (hs | hs) | hs
  · exact h.out s hs
  · split at hs
    · rw [List.mem_singleton] at hs; subst hs; exact ⟨hl, by simp, h.add⟩
    · cases hs
  · split at hs
    · rw [List.mem_singleton] at hs; subst hs; exact ⟨by simp, by simp, fun x hx => by cases hx⟩
    · cases hs
theorem WBd.keep {w : DWr} {n : Int} {c : List Attr} (h : WBd w) (hl : w.add.length ≤ 400000000000) (hc : c.length ≤ 400000000000) : WBd ⟨keepD (flushD w) n c, [], 0⟩ := by
  have hf := h.flush hl
  refine ⟨fun s hs => ?_, fun x hx => by cases hx⟩
  simp only at hs
  unfold keepD at hs
  split at hs
  · rename_i q
    rw [setD q.1, List.mem_append] at hs
    rcases hs with hs | hs
    · exact hf s (List.mem_of_mem_take hs)
    · rw [List.mem_singleton] at hs; subst hs
      have := hf _ (lastD_mem q.1)
      exact this
  · rw [List.mem_append] at hs
    rcases hs with hs | hs
    · exact hf s hs
    · rw [List.mem_singleton] at hs; subst hs; exact ⟨by simp, hc, fun x hx => by cases hx⟩
theorem exS_len {s : DStep} (h : DOkW s) : 1 ≤ (exS s).length ∧ (s.kind ≠ 1 → s.n ≤ (exS s).length) ∧ 0 ≤ s.n ∧ (s.kind = 1 → s.n = 0) := by
  unfold exS
  rcases h with ⟨k, n, a, e, _⟩ | ⟨k, _, _, n1, _⟩
  · rw [if_pos k, List.length_map]
    have : 0 < s.elems.length := List.length_pos_iff.2 e
    exact ⟨this, fun q => absurd k q, by omega, fun _ => n⟩
  · have k1 : ¬ s.kind = 1 := by omega
    rw [if_neg k1]
    refine ⟨?_, fun _ => ?_, by omega, fun q => absurd q k1⟩ <;> split <;> simp <;> omega
theorem exD_len : ∀ {l : List DStep}, (∀ s ∈ l, DOkW s) → l.length ≤ (exD l).length ∧ ∀ s ∈ l, 0 ≤ s.n ∧ s.n ≤ ((exD l).length : Int)
  | [], _ => ⟨Nat.le_refl _, fun s hs => by cases hs⟩
  | s :: l, h => by
    have h1 := exS_len (h s (by simp))
    have h2 := exD_len (l := l) (fun t ht => h t (by simp [ht]))
    simp only [exD, List.length_append, List.length_cons]
    refine ⟨by omega, fun t ht => ?_⟩
    rcases List.mem_cons.1 ht with rfl | ht
    · refine ⟨h1.2.2.1, ?_⟩
      by_cases k : t.kind = 1
      · have := h1.2.2.2 k; omega
      · have := h1.2.1 k; omega
    · have := h2.2 t ht; omega
/-- The writer, what it is still to be fed, how much that is in all, and where it ends. -/
structure DI (w : DWr) (us : List DU) (T : Nat) (G : DWr) : Prop where
  good : GoodD w
  wb : WBd w
  units : ∀ u ∈ us, UnitOk u
  len : (exDW w).length + us.length = T
  small : T ≤ 8589934592
  eq : foldD w us = G
variable {w G : DWr} {us : List DU} {T : Nat}
theorem DI.bd (h : DI w us T G) : w.out.length ≤ T ∧ w.add.length ≤ T ∧ 0 ≤ w.cut ∧ w.cut ≤ T ∧ us.length ≤ T ∧ T ≤ 8589934592 ∧ w.add.length + us.length ≤ T ∧ w.cut + us.length ≤ T := by
  have h1 := (exD_len h.good.ok).1
  have h2 := h.good.cut
  have h3 := h.len
  have h4 := h.small
  unfold exDW at h3
  simp only [List.length_append, List.length_replicate, List.length_map] at h3
  omega
theorem DI.keep {n : Nat} {c : List Attr} (h : DI w (List.replicate (n + 1) (.K c) ++ us) T G) : DI ⟨keepD (flushD w) ((n + 1 : Nat) : Int) c, [], 0⟩ us T G := by
  have hu := h.units (.K c) (by rw [List.replicate_succ]; simp)
  have hb := h.bd
  obtain ⟨g1, g2⟩ := h.good.keep (n := ((n + 1 : Nat) : Int)) (by omega) hu.1
  refine ⟨g1, h.wb.keep (by omega) hu.2, fun u hu => h.units u (by simp [hu]), ?_, h.small, ?_⟩
  · have h3 := h.len
    rw [g2]
    simp only [List.length_append, List.length_replicate] at h3 ⊢
    omega
  · rw [← h.eq, foldD_Ks]
theorem dsw_len {u v : List DU} (h : DSw u v) : u.length = v.length := by
  induction h with
  | refl u => rfl
  | cons x _ ih => simp [ih]
  | swap e u => rfl
  | symm _ ih => exact ih.symm
  | trans _ _ a b => exact a.trans b
theorem DI.elems {e : List Elem} (h : DI w (e.map .A ++ us) T G) : DI ⟨w.out, w.add ++ e, w.cut⟩ us T G := by
  have hu : ∀ x ∈ e, UnitOk (.A x) := fun x hx => h.units (.A x) (by simp [hx])
  obtain ⟨g1, g2⟩ := h.good.elems (e := e) (fun x hx => (hu x hx).1)
  refine ⟨g1, ⟨h.wb.out, fun x hx => ?_⟩, fun u hu => h.units u (by simp [hu]), ?_, h.small, ?_⟩
  · rcases List.mem_append.1 hx with hx | hx
    · exact h.wb.add x hx
    · exact (hu x hx).2
  · have h3 := h.len
    rw [dsw_len g2]
    simp only [List.length_append, List.length_map] at h3 ⊢
    omega
  · rw [← h.eq, foldD_As]
theorem DI.cuts {n : Nat} (h : DI w (List.replicate n .C ++ us) T G) : DI ⟨w.out, w.add, w.cut + n⟩ us T G := by
  obtain ⟨g1, g2⟩ := h.good.cuts (n := (n : Int)) (by omega)
  refine ⟨g1, ⟨h.wb.out, h.wb.add⟩, fun u hu => h.units u (by simp [hu]), ?_, h.small, ?_⟩
  · have h3 := h.len
    rw [g2]
    simp only [List.length_append, List.length_replicate] at h3 ⊢
    omega
  · rw [← h.eq, foldD_Cs]
theorem DI.done (h : DI w [] T G) : w = G := h.eq
def doneD (us : List DU) : List DStep := flushD (foldD ⟨[], [], 0⟩ us)
theorem DI.start (h : ∀ u ∈ us, UnitOk u) (hs : us.length ≤ 8589934592) : DI ⟨[], [], 0⟩ us us.length (foldD ⟨[], [], 0⟩ us) :=
  ⟨goodD0, ⟨fun s h => (by cases h), fun x h => (by cases h)⟩, h, by simp [exDW, exD], hs, rfl⟩
end Go.Ch
end
section
set_option linter.unusedVariables false
set_option linter.unusedSimpArgs false
namespace Go.Ch
open Go Go.Ab

def bk (c : List Attr) (x : Elem) : List Attr := fm chgG (fm rawG x.attrs c) x.attrs
def KOk (us : List DU) : Prop := (∀ c, DU.K c ∈ us → VG true c ∧ c.length ≤ 100000000000) ∧ (∀ e, DU.A e ∈ us → elemE e = 0 ∧ e.attrs.length ≤ 100000000000)
def EOk (r : List Elem) : Prop := ∀ x ∈ r, elemE x = 0 ∧ x.attrs.length ≤ 100000000000
theorem KOk.tail {u : DU} {us : List DU} (h : KOk (u :: us)) : KOk us := ⟨fun c hc => h.1 c (by simp [hc]), fun e he => h.2 e (by simp [he])⟩
theorem EOk.tail {x : Elem} {r : List Elem} (h : EOk (x :: r)) : EOk r := fun y hy => h y (by simp [hy])
def undoD (f : List Elem) (l : List DStep) : List DStep := doneD (undoU (exD l) f)
variable {w G : DWr} {us : List DU} {T : Nat}
theorem DI.run {g : Elem → List Attr} {t : List Elem} {j : Nat} (hj : j < t.length) (h : DI w ((t.drop j).map (fun x => DU.K (g x)) ++ us) T G) :
    UnitOk (.K (g (t.getD j default))) ∧ DI ⟨keepD (flushD w) 1 (g (t.getD j default)), [], 0⟩ ((t.drop (j + 1)).map (fun x => DU.K (g x)) ++ us) T G := by
  rw [dropD hj, List.map_cons, List.cons_append] at h
  exact ⟨h.units _ (by simp), h.keep (n := 0)⟩
theorem DN.mono {m n : Nat} {l : List DStep} (h : DN m l) (hm : m ≤ n) : DN n l := fun s hs => ⟨Nat.le_trans (h s hs).1 hm, Nat.le_trans (h s hs).2.1 hm, fun x hx => Nat.le_trans ((h s hs).2.2 x hx) hm⟩
theorem EOk.an {f : List Elem} (h : EOk f) : AN 400000000000 f := fun x hx => by have := (h x hx).2; omega
theorem EOk.take {f : List Elem} (h : EOk f) (n : Nat) : EOk (f.take n) := fun x hx => h x (List.mem_of_mem_take hx)
theorem EOk.drop {f : List Elem} (h : EOk f) (n : Nat) : EOk (f.drop n) := fun x hx => h x (List.mem_of_mem_drop hx)
end Go.Ch
end
section
set_option linter.unusedVariables false
set_option linter.unusedSimpArgs false
namespace Go.Ch
open Go Go.Ab

def elemsT (l : List Elem) : Tree := .lst 3 (l.map elemT)
def boolT (b : Bool) : Tree := .sc (.bool b)
def attrsT (l : List Attr) : Tree := .lst 2 (l.map attrT)
structure Act where
  ins : List (List Elem)
  cut : List Bool
  set : List (List Attr)
def actT (x : Act) : Tree := .agg [.lst 1 (x.ins.map elemsT), .lst 1 (x.cut.map boolT), .lst 1 (x.set.map attrsT)]
/-- What is left from place i on, as units. -/
def actR (x : Act) (i : Nat) : List DU :=
  if i < x.cut.length then (x.ins.getD i default).map .A ++ ((if x.cut.getD i default = true then .C else .K (x.set.getD i default)) :: actR x (i + 1))
  else (x.ins.getD i default).map .A
termination_by x.cut.length - i
def tailR (x : Act) (i : Nat) : List DU := if i < x.cut.length then (if x.cut.getD i default = true then .C else .K (x.set.getD i default)) :: actR x (i + 1) else []
variable {w G : DWr} {us : List DU} {T : Nat}
theorem DI.of_eq {o o' : List DStep} {a : List Elem} {c : Int} (e : o' = o) (h : DI ⟨o, a, c⟩ us T G) : DI ⟨o', a, c⟩ us T G := e ▸ h
end Go.Ch
end
section
set_option linter.unusedVariables false
set_option linter.unusedSimpArgs false
namespace Go.Ch
open Go Go.Ab

def onB : ByteArray := { data := #[111, 110] }
def boldB : ByteArray := { data := #[98, 111, 108, 100] }
def insE (tag : ByteArray) (i j : Nat) : Elem := ⟨65 + ((i : Int) + (j : Int)) % 26, 0, [⟨tag, { data := #[111, 110] }⟩]⟩
def insL (tag : ByteArray) (i k : Nat) : List Elem := (List.range k).map (insE tag i)
def setL (tag : ByteArray) (v : Int) : List Attr :=
  if v = 1 then [⟨{ data := #[98, 111, 108, 100] }, { data := #[111, 110] }⟩]
  else if v = 2 then [⟨{ data := #[98, 111, 108, 100] }, { data := #[] }⟩]
  else if v = 3 then [⟨{ data := #[98, 111, 108, 100] }, tag⟩, ⟨tag, { data := #[111, 110] }⟩] else []
def insK (raw : List Int) (used : Int) : Nat := (max 0 (rollV raw used 8 - 5)).toNat
def chgF (raw : List Int) (tag : ByteArray) (n : Nat) : Nat → Int → Act → Act
  | 0, used, x => ⟨x.ins ++ [insL tag n (insK raw used)], x.cut, x.set⟩
  | k + 1, used, x => chgF raw tag n k (rollU raw (rollU raw (rollU raw used)))
      ⟨x.ins ++ [insL tag (n - (k + 1)) (insK raw used)], x.cut ++ [rollV raw (rollU raw (rollU raw used)) 8 == 0], x.set ++ [setL tag (rollV raw (rollU raw used) 8)]⟩
def chgX (raw : List Int) (tag : ByteArray) (n : Nat) : Act := chgF raw tag n n 0 ⟨[], [], []⟩
def TagOk (tag : ByteArray) : Prop := (∀ v, VG true (setL tag v)) ∧ VG false [⟨tag, { data := #[111, 110] }⟩]
structure ActOk (x : Act) : Prop where
  ins : ∀ e ∈ x.ins, e.length ≤ 2 ∧ ∀ y ∈ e, elemE y = 0 ∧ y.attrs.length ≤ 100
  set : ∀ c ∈ x.set, VG true c ∧ c.length ≤ 100
def UnitS : DU → Prop
  | .K c => VG true c ∧ c.length ≤ 100
  | .A e => elemE e = 0 ∧ e.attrs.length ≤ 100
  | .C => True
theorem UnitS.ok {u : DU} (h : UnitS u) : UnitOk u := by
  cases u with
  | K c => exact ⟨h.1, by have := h.2; omega⟩
  | A e => exact ⟨h.1, by have := h.2; omega⟩
  | C => trivial
theorem getD_mem' {α : Type} [Inhabited α] {l : List α} {k : Nat} (h : k < l.length) : l.getD k default ∈ l := by
  rw [show l.getD k default = l[k] by simp [List.getD, List.getElem?_eq_getElem h]]
  exact List.getElem_mem h
end Go.Ch
end
section
set_option linter.unusedVariables false
set_option linter.unusedSimpArgs false
namespace Go.Ch
open Go Go.Ab

def axPut (o : List AxStep) (s : DStep) : List AxStep :=
  if s.kind = 0 ∧ 0 < o.length ∧ (o.getD (o.length - 1) default).kind = 0 then o.set (o.length - 1) ⟨(o.getD (o.length - 1) default).kind, (o.getD (o.length - 1) default).n + s.n⟩ else o ++ [⟨s.kind, szD s⟩]
def axF (o : List AxStep) : List DStep → List AxStep
  | [] => o
  | s :: l => axF (axPut o s) l
def axD (d : List DStep) : List AxStep := axF [] d
def forg : DU → U
  | .K _ => .K
  | .A _ => .A
  | .C => .C
def AdjK (k k' : Int) : Prop := (k = k' → k' = 0) ∧ ¬ (k = 2 ∧ k' = 1)
/-! ### Places by units -/
def placeU : List U → Int → Int → Int → Int
  | [], _, _, _ => -1
  | .A :: u, p, fr, tq => placeU u p fr (tq + 1)
  | .K :: u, p, fr, tq => if p = fr then tq else placeU u p (fr + 1) (tq + 1)
  | .C :: u, p, fr, tq => if p = fr then -1 else placeU u p (fr + 1) tq
/-! ### What a range leaves, from outside -/
theorem hull_from : ∀ {l : List AxStep} (hl : Form l) (f t first old now : Int), 0 ≤ now → (hullS l f t first 0 old now).2 = 0 ∨ now ≤ (hullS l f t first 0 old now).1
  | [], _, f, t, first, old, now, h => .inl rfl
  | s :: l, hl, f, t, first, old, now, h => by
    have hn := hl.head.2.2
    have hk := kinds hl.head
    rw [hullS]
    by_cases c : s.kind = 0 ∧ max f old < min t (old + s.n)
    · rw [if_pos ⟨c, rfl⟩, if_pos c, if_neg (by omega), if_neg (by omega)]
      have := hull_keep hl.tail f t (now + max f old - old) (now + min t (old + s.n) - old) (old + s.n) (now + s.n) (by omega) (by omega)
      right; rw [this.1]; omega
    · rw [if_neg (fun e => c e.1), if_neg c]
      rcases hull_from hl.tail f t first (if s.kind = 1 then old else old + s.n) (if s.kind = 2 then now else now + s.n) (by split <;> omega) with q | q
      · exact .inl q
      · right
        refine Int.le_trans ?_ q
        split <;> omega
theorem hull_left : ∀ {l : List AxStep} (hl : Form l) (f t first old now p : Int), 0 ≤ now → old ≤ p → p < f → 0 ≤ placeS l p old now → (hullS l f t first 0 old now).2 = 0 ∨ placeS l p old now < (hullS l f t first 0 old now).1
  | [], _, f, t, first, old, now, p, h1, h2, h3, h0 => by simp [placeS] at h0
  | s :: l, hl, f, t, first, old, now, p, h1, h2, h3, h0 => by
    have hn := hl.head.2.2
    have hk := kinds hl.head
    rw [placeS] at h0 ⊢
    rw [hullS]
    by_cases k1 : s.kind = 1
    · rw [if_pos k1] at h0 ⊢
      rw [if_neg (by omega : ¬ ((s.kind = 0 ∧ max f old < min t (old + s.n)) ∧ (0 : Int) = 0)), if_neg (by omega : ¬ (s.kind = 0 ∧ max f old < min t (old + s.n))), if_pos k1, if_neg (by omega : ¬ s.kind = 2)]
      exact hull_left hl.tail f t first old _ p (by omega) h2 h3 h0
    · rw [if_neg k1] at h0 ⊢
      rw [if_neg k1]
      by_cases k0 : s.kind = 0
      · rw [if_pos k0] at h0 ⊢
        rw [if_neg (by omega : ¬ s.kind = 2)]
        by_cases c : p < old + s.n
        · rw [if_pos c] at h0 ⊢
          by_cases hc : s.kind = 0 ∧ max f old < min t (old + s.n)
          · rw [if_pos ⟨hc, rfl⟩, if_pos hc]
            have := hull_keep hl.tail f t (now + max f old - old) (now + min t (old + s.n) - old) (old + s.n) (now + s.n) (by omega) (by omega)
            right; rw [this.1]; omega
          · rw [if_neg (fun e => hc e.1), if_neg hc]
            rcases hull_from hl.tail f t first (old + s.n) (now + s.n) (by omega) with q | q
            · exact .inl q
            · right; omega
        · rw [if_neg c] at h0 ⊢
          rw [if_neg (by omega : ¬ ((s.kind = 0 ∧ max f old < min t (old + s.n)) ∧ (0 : Int) = 0)), if_neg (by omega : ¬ (s.kind = 0 ∧ max f old < min t (old + s.n)))]
          exact hull_left hl.tail f t first _ _ p (by omega) (by omega) h3 h0
      · rw [if_neg k0] at h0 ⊢
        rw [if_neg (by omega : ¬ ((s.kind = 0 ∧ max f old < min t (old + s.n)) ∧ (0 : Int) = 0)), if_neg (by omega : ¬ (s.kind = 0 ∧ max f old < min t (old + s.n))), if_pos (by omega : s.kind = 2)]
        by_cases c : p < old + s.n
        · rw [if_pos c] at h0; omega
        · rw [if_neg c] at h0 ⊢
          exact hull_left hl.tail f t first _ now p h1 (by omega) h3 h0
/-! ### What the drawn changes add -/
/-! ### The laws -/
/-- The letters that the laws number their elements with. -/
def abcL (n : Nat) : List Elem := (List.range n).map fun i : Nat => (⟨97 + (i : Int), 0, []⟩ : Elem)
def thrL (d : List DStep) (f t : Int) : List (Int × Int) := if (hullS (axD d) f t 0 0 0 0).1 < (hullS (axD d) f t 0 0 0 0).2 then [hullS (axD d) f t 0 0 0 0] else []
end Go.Ch
namespace Go.Ch
open Go Go.Ab
structure AxB (o : List AxStep) (i : Nat) : Prop where
  len : o.length ≤ i
  n : ∀ t ∈ o, 0 ≤ t.n ∧ t.n ≤ 2147483647 * (i : Int)
theorem AxB.start : AxB [] 0 := ⟨Nat.le_refl _, fun t ht => by cases ht⟩
theorem AxB.last {o : List AxStep} {i : Nat} (h : AxB o i) (hp : 0 < o.length) : 0 ≤ (o.getD (o.length - 1) default).n ∧ (o.getD (o.length - 1) default).n ≤ 2147483647 * (i : Int) :=
  h.n _ (getD_mem' (by omega))
theorem AxB.next {o : List AxStep} {i : Nat} {s : DStep} (h : AxB o i) (hz : 0 ≤ szD s ∧ szD s ≤ 2147483647) (hs : 0 ≤ s.n ∧ s.n ≤ 2147483647) : AxB (axPut o s) (i + 1) := by
  have hl := h.len
  unfold axPut
  split
  · rename_i c
    have hq := h.last c.2.1
    refine ⟨by rw [List.length_set]; omega, fun t ht => ?_⟩
    rcases List.mem_or_eq_of_mem_set ht with ht | rfl
    · have := h.n t ht; omega
    · simp only; omega
  · refine ⟨by rw [List.length_append]; simp; omega, fun t ht => ?_⟩
    rcases List.mem_append.1 ht with ht | ht
    · have := h.n t ht; omega
    · rw [List.mem_singleton] at ht; subst ht; simp only; omega
end Go.Ch
namespace Go.Ch
open Go Go.Ab
end Go.Ch
end
section
set_option linter.unusedVariables false
namespace Go.Ch
open Go Go.Ab

theorem putC_asc {c : Cell} {ns r : List Cell} (hns : ∀ y ∈ ns, ordC c y < 0) (hr : ∀ y ∈ r, ordC c y < 0) (h : Asc (putL ns r)) : Asc ((if emptyC c = true then [] else [c]) ++ putL ns r) := by
  cases he : emptyC c with
  | true => rw [if_pos rfl]; exact h
  | false =>
    rw [if_neg (by decide)]
    refine ⟨fun y hy => ?_, h⟩
    rcases put_mem ns r y hy with ⟨h1, _⟩ | h1
    · exact hns y h1
    · exact hr y h1
theorem put_asc : ∀ (ns l : List Cell), Asc ns → Asc l → Asc (putL ns l)
  | [], l, _, h => h
  | c :: ns, [], h1, h2 => by
    rw [putL, putC]
    exact putC_asc h1.1 (fun y hy => by cases hy) (put_asc ns [] h1.2 trivial)
  | c :: ns, x :: l, h1, h2 => by
    rw [putL, putC]
    by_cases o1 : ordC x c < 0
    · rw [if_pos o1]
      have ih := put_asc (c :: ns) l h1 h2.2
      rw [putL] at ih
      refine ⟨fun y hy => ?_, ih⟩
      rcases put_mem (c :: ns) l y hy with ⟨h, _⟩ | h
      · rcases List.mem_cons.1 h with rfl | h
        · exact o1
        · exact ordC_trans o1 (h1.1 y h)
      · exact h2.1 y h
    · rw [if_neg o1]
      by_cases o2 : ordC x c = 0
      · rw [if_pos o2]
        have e := ordC_eq.1 o2
        exact putC_asc h1.1 (fun y hy => ordC_le_trans (by rw [ordC_eq.2 ⟨e.1.symm, e.2.symm⟩]; decide) (h2.1 y hy)) (put_asc ns l h1.2 h2.2)
      · rw [if_neg o2]
        have hcx : ordC c x < 0 := ordC_flip.1 (by omega)
        exact putC_asc h1.1 (fun y hy => by
          rcases List.mem_cons.1 hy with rfl | hy
          · exact hcx
          · exact ordC_trans hcx (h2.1 y hy)) (put_asc ns (x :: l) h1.2 h2)
termination_by ns l => ns.length + l.length
theorem place_mono {l : List AxStep} (hl : Form l) {p q : Int} (h0 : 0 ≤ p) (h : p < q) (hp : 0 ≤ placeS l p 0 0) (hq : 0 ≤ placeS l q 0 0) : placeS l p 0 0 < placeS l q 0 0 := by
  have h1 := place_gap hl p q 0 0 h0 h hp
  have h2 := gap_mono hl q 0 0 0 (Int.le_refl _)
  have h3 := gap_place hl q 0 0 (by omega) hq
  omega
theorem mvR_mono {a : List AxStep} {p q : Int} (hp : PIn a p) (hq : PIn a q) (h : p < q) (h1 : ¬ (0 < a.length ∧ mvR a p < 0)) (h2 : ¬ (0 < a.length ∧ mvR a q < 0)) : mvR a p < mvR a q := by
  unfold mvR at *
  by_cases c : 0 < a.length
  · simp only [if_pos c] at *
    obtain ⟨v, p0, _⟩ := hp c
    exact place_mono v.1 p0 h (by omega) (by omega)
  · simp only [if_neg c] at *; exact h
theorem mvC_some {rows cols : List AxStep} {c d : Cell} (h : mvC rows cols c = some d) : ¬ (0 < rows.length ∧ mvR rows c.row < 0) ∧ ¬ (0 < cols.length ∧ mvR cols c.col < 0) ∧ d = { c with row := mvR rows c.row, col := mvR cols c.col } := by
  unfold mvC at h
  split at h
  · cases h
  · rename_i h1
    split at h
    · cases h
    · rename_i h2
      exact ⟨h1, h2, by cases h; rfl⟩
theorem mov_asc {rows cols : List AxStep} : ∀ {l : List Cell}, Asc l → (∀ c ∈ l, PIn rows c.row) → (∀ c ∈ l, PIn cols c.col) → Asc (movL l rows cols)
  | [], _, _, _ => trivial
  | c :: l, h, hr, hc => by
    have ih := mov_asc (l := l) h.2 (fun x hx => hr x (by simp [hx])) (fun x hx => hc x (by simp [hx]))
    unfold movL at *
    rw [List.filterMap_cons]
    cases hm : mvC rows cols c with
    | none => exact ih
    | some d =>
      refine ⟨fun y hy => ?_, ih⟩
      obtain ⟨x, hx, hxy⟩ := List.mem_filterMap.1 hy
      obtain ⟨a1, a2, rfl⟩ := mvC_some hm
      obtain ⟨b1, b2, rfl⟩ := mvC_some hxy
      have ho := h.1 x hx
      rw [ordC_lt] at ho ⊢
      rcases ho with ho | ⟨e, ho⟩
      · exact .inl (mvR_mono (hr c (by simp)) (hr x (by simp [hx])) ho a1 b1)
      · refine .inr ⟨by show mvR rows c.row = mvR rows x.row; rw [e], mvR_mono (hc c (by simp)) (hc x (by simp [hx])) ho a2 b2⟩
end Go.Ch
end
section
set_option linter.unusedVariables false
namespace Go.Ch
open Go Go.Ab

theorem mergE_all {l : List Rect} {m n : Int} : ∀ (k i : Nat), l.length - i = k →
    (mergE l m n i = 0 ↔ ∀ j, i ≤ j → j < l.length → insB (l.getD j default) m n = true ∧ ¬ ((l.getD j default).h = 1 ∧ (l.getD j default).w = 1) ∧ (0 < j → befB (l.getD (j - 1) default) (l.getD j default) = true) ∧ anyM (l.take j) (l.getD j default) = false)
  | 0, i, h => by
    rw [mergE, if_neg (by omega)]
    exact ⟨fun _ j h1 h2 => by omega, fun _ => rfl⟩
  | k + 1, i, h => by
    have ih := mergE_all (l := l) (m := m) (n := n) k (i + 1) (by omega)
    rw [mergE, if_pos (by omega)]
    by_cases c1 : insB (l.getD i default) m n = false
    · rw [if_pos c1]
      refine ⟨fun q => (by cases q), fun q => ?_⟩
      have := (q i (Nat.le_refl _) (by omega)).1
      rw [c1] at this; cases this
    · rw [if_neg c1]
      by_cases c2 : (l.getD i default).h = 1 ∧ (l.getD i default).w = 1
      · rw [if_pos c2]
        exact ⟨fun q => (by cases q), fun q => absurd c2 (q i (Nat.le_refl _) (by omega)).2.1⟩
      · rw [if_neg c2]
        by_cases c3 : 0 < i ∧ befB (l.getD (i - 1) default) (l.getD i default) = false
        · rw [if_pos c3]
          refine ⟨fun q => (by cases q), fun q => ?_⟩
          have := (q i (Nat.le_refl _) (by omega)).2.2.1 c3.1
          rw [c3.2] at this; cases this
        · rw [if_neg c3]
          by_cases c4 : anyM (l.take i) (l.getD i default) = true
          · rw [if_pos c4]
            refine ⟨fun q => (by cases q), fun q => ?_⟩
            have := (q i (Nat.le_refl _) (by omega)).2.2.2
            rw [c4] at this; cases this
          · rw [if_neg c4, ih]
            refine ⟨fun q j h1 h2 => ?_, fun q j h1 h2 => q j (by omega) h2⟩
            by_cases e : i = j
            · subst e
              refine ⟨by simpa using c1, c2, fun h0 => ?_, by simpa using c4⟩
              cases hb : befB (l.getD (i - 1) default) (l.getD i default) with
              | true => rfl
              | false => exact absurd ⟨h0, hb⟩ c3
            · exact q j (by omega) h2
theorem bef_trans {a b c : Rect} (h1 : befB a b = true) (h2 : befB b c = true) : befB a c = true := by
  rw [befB_iff] at *; omega
/-- A valid list of rectangles. -/
structure MV (l : List Rect) (m n : Int) : Prop where
  ins : ∀ r ∈ l, insB r m n = true
  big : ∀ r ∈ l, ¬ (r.h = 1 ∧ r.w = 1)
  pw : l.Pairwise (fun a b => befB a b = true ∧ meetB a b = false)
theorem mergE_iff {l : List Rect} {m n : Int} : mergE l m n 0 = 0 ↔ MV l m n := by
  rw [mergE_all _ 0 rfl]
  constructor
  · intro h
    refine ⟨fun r hr => ?_, fun r hr => ?_, ?_⟩
    · obtain ⟨j, hj, rfl⟩ := mem_getDX hr
      exact (h j (Nat.zero_le _) hj).1
    · obtain ⟨j, hj, rfl⟩ := mem_getDX hr
      exact (h j (Nat.zero_le _) hj).2.1
    · have hb : ∀ d p, p + d + 1 < l.length → befB (l.getD p default) (l.getD (p + d + 1) default) = true := by
        intro d
        induction d with
        | zero => intro p hp; exact (h (p + 0 + 1) (Nat.zero_le _) hp).2.2.1 (by omega)
        | succ d ih =>
          intro p hp
          have h1 := ih p (by omega)
          have h2 := (h (p + (d + 1) + 1) (Nat.zero_le _) hp).2.2.1 (by omega)
          rw [show p + (d + 1) + 1 - 1 = p + d + 1 by omega] at h2
          exact bef_trans h1 h2
      rw [List.pairwise_iff_getElem]
      intro p q hp hq hpq
      have e1 : l[p] = l.getD p default := by simp [List.getD, List.getElem?_eq_getElem hp]
      have e2 : l[q] = l.getD q default := by simp [List.getD, List.getElem?_eq_getElem hq]
      rw [e1, e2]
      refine ⟨?_, ?_⟩
      · have := hb (q - p - 1) p (by omega)
        rwa [show p + (q - p - 1) + 1 = q by omega] at this
      · have h3 := (h q (Nat.zero_le _) hq).2.2.2
        cases hm : meetB (l.getD p default) (l.getD q default) with
        | false => rfl
        | true =>
          have := anyM_take.2 ⟨p, hpq, hp, hm⟩
          rw [h3] at this; cases this
  · intro h j _ hj
    have hpw := List.pairwise_iff_getElem.1 h.pw
    have hg : ∀ p (hp : p < l.length), l[p] = l.getD p default := fun p hp => by simp [List.getD, List.getElem?_eq_getElem hp]
    refine ⟨h.ins _ (getDX_mem hj), h.big _ (getDX_mem hj), fun h0 => ?_, ?_⟩
    · have := (hpw (j - 1) j (by omega) hj (by omega)).1
      rwa [hg, hg] at this
    · cases ha : anyM (l.take j) (l.getD j default) with
      | false => rfl
      | true =>
        obtain ⟨p, p1, p2, p3⟩ := anyM_take.1 ha
        have := (hpw p j p2 hj p1).2
        rw [hg, hg, p3] at this; cases this
/-- Apart: no two of them meet. -/
def Apart (l : List Rect) : Prop := l.Pairwise (fun a b => meetB a b = false)
theorem addQ_apart {l : List Rect} {r : Rect} (h : Apart l) : Apart (addQ l r) := by
  unfold addQ Apart
  rw [List.pairwise_append]
  refine ⟨h.filter _, List.pairwise_singleton _ _, fun a ha b hb => ?_⟩
  rw [List.mem_singleton.1 hb]
  unfold delL at ha
  simpa using (List.mem_filter.1 ha).2
theorem foldl_apart : ∀ (ms l : List Rect), Apart l → Apart (ms.foldl addQ l)
  | [], l, h => h
  | r :: ms, l, h => foldl_apart ms (addQ l r) (addQ_apart h)
theorem addQ_all {P : Rect → Prop} {l : List Rect} {r : Rect} (h : ∀ q ∈ l, P q) (hr : P r) : ∀ q ∈ addQ l r, P q := fun q hq => by
  unfold addQ delL at hq
  rcases List.mem_append.1 hq with hq | hq
  · exact h q (List.mem_filter.1 hq).1
  · rw [List.mem_singleton.1 hq]; exact hr
theorem foldl_all {P : Rect → Prop} : ∀ (ms l : List Rect), (∀ q ∈ l, P q) → (∀ r ∈ ms, P r) → ∀ q ∈ ms.foldl addQ l, P q
  | [], l, h, _ => h
  | r :: ms, l, h, hm => foldl_all ms (addQ l r) (addQ_all h (hm r (by simp))) (fun x hx => hm x (by simp [hx]))
theorem meet_f {a b : Rect} (h : meetB a b = false) : ¬ (a.row < b.row + b.h ∧ b.row < a.row + a.h ∧ a.col < b.col + b.w ∧ b.col < a.col + a.w) := fun q => by
  rw [meetB_iff.2 q] at h; cases h
theorem bef_of_apart {a b : Rect} {m n : Int} (ha : insB a m n = true) (hb : insB b m n = true) (h1 : befB b a = false) (h2 : meetB a b = false) : befB a b = true := by
  have u := insB_iff.1 ha
  have v := insB_iff.1 hb
  have w := meet_f h2
  rw [bef_f] at h1
  rw [befB_iff]
  omega
theorem apart_perm {l k : List Rect} (h : l.Perm k) (ha : Apart k) : Apart l :=
  (List.Perm.pairwise_iff (fun {a b} (q : meetB a b = false) => by rw [meetB_comm]; exact q) h).2 ha
theorem sort_mv {l : List Rect} {m n : Int} (h1 : ∀ r ∈ l, insB r m n = true) (h2 : ∀ r ∈ l, ¬ (r.h = 1 ∧ r.w = 1)) (h3 : Apart l) : MV (sortQ l) m n := by
  have hp := sortQ_perm l
  have i1 : ∀ r ∈ sortQ l, insB r m n = true := fun r hr => h1 r (hp.mem_iff.1 hr)
  refine ⟨i1, fun r hr => h2 r (hp.mem_iff.1 hr), ?_⟩
  have ha := apart_perm hp h3
  rw [List.pairwise_iff_getElem]
  intro i j hi hj hij
  have ha' := List.pairwise_iff_getElem.1 ha i j hi hj hij
  refine ⟨?_, ha'⟩
  have hs := sortQ_sorted l i j hij (by rw [sortQ_len] at hj; exact hj)
  rw [show (sortQ l).getD j default = (sortQ l)[j] by simp [List.getD, List.getElem?_eq_getElem hj], show (sortQ l).getD i default = (sortQ l)[i] by simp [List.getD, List.getElem?_eq_getElem hi]] at hs
  exact bef_of_apart (i1 _ (List.getElem_mem hi)) (i1 _ (List.getElem_mem hj)) hs ha'
/-- Two valid lists with the same members are one. -/
theorem mv_ext : ∀ {l k : List Rect} {m n : Int}, MV l m n → MV k m n → (∀ r, r ∈ l ↔ r ∈ k) → l = k
  | [], [], _, _, _, _, _ => rfl
  | [], b :: k, _, _, _, _, h => by have := (h b).2 (by simp); cases this
  | a :: l, [], _, _, _, _, h => by have := (h a).1 (by simp); cases this
  | a :: l, b :: k, m, n, ha, hb, h => by
    obtain ⟨p1, p2⟩ := List.pairwise_cons.1 ha.pw
    obtain ⟨q1, q2⟩ := List.pairwise_cons.1 hb.pw
    have irr : ∀ x : Rect, befB x x = false := fun x => by rw [bef_f]; omega
    have asym : ∀ x y : Rect, befB x y = true → befB y x = false := fun x y q => by rw [befB_iff] at q; rw [bef_f]; omega
    have e : a = b := by
      rcases List.mem_cons.1 ((h a).1 (by simp)) with e | e
      · exact e
      · rcases List.mem_cons.1 ((h b).2 (by simp)) with e' | e'
        · exact e'.symm
        · have x := (q1 a e).1
          have y := asym _ _ (p1 b e').1
          rw [x] at y; cases y
    subst e
    have hl : MV l m n := ⟨fun r hr => ha.ins r (by simp [hr]), fun r hr => ha.big r (by simp [hr]), p2⟩
    have hk : MV k m n := ⟨fun r hr => hb.ins r (by simp [hr]), fun r hr => hb.big r (by simp [hr]), q2⟩
    rw [mv_ext hl hk (fun r => ?_)]
    constructor
    · intro hr
      rcases List.mem_cons.1 ((h r).1 (by simp [hr])) with rfl | hr'
      · have := (p1 r hr).1; rw [irr] at this; cases this
      · exact hr'
    · intro hr
      rcases List.mem_cons.1 ((h r).2 (by simp [hr])) with rfl | hr'
      · have := (q1 r hr).1; rw [irr] at this; cases this
      · exact hr'
end Go.Ch
end
section
set_option linter.unusedVariables false
namespace Go.Ch
open Go Go.Ab

theorem hull_last : ∀ {l : List AxStep} (hl : Form l) (f t first last old now : Int), 0 ≤ now →
    (hullS l f t first last old now).2 = last ∨ ∃ p, old ≤ p ∧ f ≤ p ∧ p < t ∧ 0 ≤ placeS l p old now ∧ (hullS l f t first last old now).2 = placeS l p old now + 1
  | [], _, f, t, first, last, old, now, h0 => .inl rfl
  | s :: l, hl, f, t, first, last, old, now, h0 => by
    have hn := hl.head.2.2
    have hk := kinds hl.head
    rw [hullS]
    by_cases k1 : s.kind = 1
    · rw [if_neg (by omega : ¬ ((s.kind = 0 ∧ max f old < min t (old + s.n)) ∧ last = 0)), if_neg (by omega : ¬ (s.kind = 0 ∧ max f old < min t (old + s.n))), if_pos k1, if_neg (by omega : ¬ s.kind = 2)]
      rcases hull_last hl.tail f t first last old (now + s.n) (by omega) with h | ⟨p, p1, p2, p3, p4, p5⟩
      · exact .inl h
      · exact .inr ⟨p, p1, p2, p3, by rw [placeS, if_pos k1]; exact p4, by rw [placeS, if_pos k1]; exact p5⟩
    · by_cases k0 : s.kind = 0
      · rw [if_neg k1, if_neg (by omega : ¬ s.kind = 2)]
        have hpl : ∀ p, old + s.n ≤ p → placeS (s :: l) p old now = placeS l p (old + s.n) (now + s.n) := fun p hp => by rw [placeS, if_neg k1, if_pos k0, if_neg (by omega)]
        have hps : ∀ p, p < old + s.n → placeS (s :: l) p old now = now + p - old := fun p hp => by rw [placeS, if_neg k1, if_pos k0, if_pos hp]
        rcases hull_last hl.tail f t (if (s.kind = 0 ∧ max f old < min t (old + s.n)) ∧ last = 0 then now + max f old - old else first) (if s.kind = 0 ∧ max f old < min t (old + s.n) then now + min t (old + s.n) - old else last) (old + s.n) (now + s.n) (by omega) with h | ⟨p, p1, p2, p3, p4, p5⟩
        · by_cases c : s.kind = 0 ∧ max f old < min t (old + s.n)
          · have hp := hps (min t (old + s.n) - 1) (by omega)
            refine .inr ⟨min t (old + s.n) - 1, by omega, by omega, by omega, by omega, ?_⟩
            rw [h, hp, if_pos c]; omega
          · rw [h, if_neg c]; exact .inl rfl
        · exact .inr ⟨p, by omega, p2, p3, by rw [hpl p p1]; exact p4, by rw [hpl p p1]; exact p5⟩
      · have k2 : s.kind = 2 := by omega
        rw [if_neg (by omega : ¬ ((s.kind = 0 ∧ max f old < min t (old + s.n)) ∧ last = 0)), if_neg (by omega : ¬ (s.kind = 0 ∧ max f old < min t (old + s.n))), if_neg k1, if_pos k2]
        rcases hull_last hl.tail f t first last (old + s.n) now h0 with h | ⟨p, p1, p2, p3, p4, p5⟩
        · exact .inl h
        · have hpl : placeS (s :: l) p old now = placeS l p (old + s.n) now := by rw [placeS, if_neg k1, if_neg k0, if_neg (by omega)]
          exact .inr ⟨p, by omega, p2, p3, by rw [hpl]; exact p4, by rw [hpl]; exact p5⟩
/-- A kept row's place lies in what there is afterwards. -/
theorem place_lt : ∀ {l : List AxStep} (hl : Form l) (p fr tq : Int), fr ≤ p → 0 ≤ placeS l p fr tq → placeS l p fr tq < tq + newU (ex l)
  | [], _, p, fr, tq, h, h0 => by simp [placeS] at h0
  | s :: l, hl, p, fr, tq, h, h0 => by
    have hn := hl.head.2.2
    have hk := kinds hl.head
    have e : (newU (ex (s :: l)) : Int) = (if s.kind = 2 then 0 else s.n) + newU (ex l) := by
      rw [ex, new_rep, Int.toNat_of_nonneg (by omega)]
    rw [e]
    rw [placeS] at h0 ⊢
    by_cases k1 : s.kind = 1
    · rw [if_pos k1] at h0 ⊢
      rw [if_neg (show ¬ s.kind = 2 by omega)]
      have := place_lt hl.tail p fr (tq + s.n) h h0
      omega
    · rw [if_neg k1] at h0 ⊢
      by_cases k0 : s.kind = 0
      · rw [if_pos k0] at h0 ⊢
        rw [if_neg (show ¬ s.kind = 2 by omega)]
        by_cases c : p < fr + s.n
        · rw [if_pos c] at h0 ⊢
          have : (0 : Int) ≤ newU (ex l) := by omega
          omega
        · rw [if_neg c] at h0 ⊢
          have := place_lt hl.tail p (fr + s.n) (tq + s.n) (by omega) h0
          omega
      · rw [if_neg k0] at h0 ⊢
        by_cases c : p < fr + s.n
        · rw [if_pos c] at h0; omega
        · rw [if_neg c] at h0 ⊢
          rw [if_pos (show s.kind = 2 by omega)]
          have := place_lt hl.tail p (fr + s.n) tq (by omega) h0
          omega
/-- What one range leaves ends where the other's rest begins, or before. -/
theorem hull_apart {l : List AxStep} (hl : Form l) {f1 t1 f2 t2 : Int} (h0 : 0 ≤ f1) (h : t1 ≤ f2) (hn1 : (hullS l f1 t1 0 0 0 0).2 ≠ 0) (hn2 : (hullS l f2 t2 0 0 0 0).2 ≠ 0) : (hullS l f1 t1 0 0 0 0).2 ≤ (hullS l f2 t2 0 0 0 0).1 := by
  rcases hull_last hl f1 t1 0 0 0 0 (Int.le_refl _) with e | ⟨p, p1, p2, p3, p4, p5⟩
  · exact absurd e hn1
  · rcases hull_left hl f2 t2 0 0 0 p (Int.le_refl _) p1 (by omega) p4 with e | e
    · exact absurd e hn2
    · omega
theorem hull_new {l : List AxStep} (hl : Form l) (f t : Int) : (hullS l f t 0 0 0 0).2 ≤ newU (ex l) := by
  rcases hull_last hl f t 0 0 0 0 (Int.le_refl _) with e | ⟨p, p1, p2, p3, p4, p5⟩
  · rw [e]; omega
  · have := place_lt hl p 0 0 p1 p4
    omega
/-- Two rectangles that are apart stay so, where both are left. -/
theorem thr_apart {a b : Rect} {rows cols : List AxStep} (ha : QIn rows cols a) (hb : QIn rows cols b) (h : meetB a b = false) (h1 : 1 ≤ a.h) (h2 : 1 ≤ a.w) (h3 : 1 ≤ b.h) (h4 : 1 ≤ b.w)
    (va : thrB (thrR a rows cols) = true) (vb : thrB (thrR b rows cols) = true) : meetB (thrR a rows cols) (thrR b rows cols) = false := by
  have hm := meet_f h
  cases hc : meetB (thrR a rows cols) (thrR b rows cols) with
  | false => rfl
  | true =>
    exfalso
    rw [meetB_iff] at hc
    unfold thrB at va vb
    rw [decide_eq_true_eq] at va vb
    have hap : ∀ (l : List AxStep) (f1 t1 f2 t2 : Int), Form l → 0 ≤ f1 → t1 ≤ f2 → (hullS l f1 t1 0 0 0 0).1 < (hullS l f1 t1 0 0 0 0).2 → (hullS l f2 t2 0 0 0 0).1 < (hullS l f2 t2 0 0 0 0).2 → 0 ≤ (hullS l f1 t1 0 0 0 0).1 → 0 ≤ (hullS l f2 t2 0 0 0 0).1 → (hullS l f1 t1 0 0 0 0).2 ≤ (hullS l f2 t2 0 0 0 0).1 :=
      fun l f1 t1 f2 t2 hl h0 hle n1 n2 z1 z2 => hull_apart hl h0 hle (by omega) (by omega)
    unfold thrR at hc va vb
    obtain ⟨_, ra, ca⟩ := ha
    obtain ⟨_, rb, cb⟩ := hb
    by_cases c1 : 0 < rows.length <;> by_cases c2 : 0 < cols.length
    all_goals simp only [c1, c2, if_true, if_false] at hc va vb
    · obtain ⟨v1, w1⟩ := ra c1
      obtain ⟨_, w2⟩ := rb c1
      obtain ⟨v2, w3⟩ := ca c2
      obtain ⟨_, w4⟩ := cb c2
      have b1 := hull_bd v1 w1; have b2 := hull_bd v1 w2; have b3 := hull_bd v2 w3; have b4 := hull_bd v2 w4
      by_cases q1 : a.row + a.h ≤ b.row
      · have := hap rows a.row (a.row + a.h) b.row (b.row + b.h) v1.1 w1.1 q1 (by omega) (by omega) (by omega) (by omega); omega
      · by_cases q2 : b.row + b.h ≤ a.row
        · have := hap rows b.row (b.row + b.h) a.row (a.row + a.h) v1.1 w2.1 q2 (by omega) (by omega) (by omega) (by omega); omega
        · by_cases q3 : a.col + a.w ≤ b.col
          · have := hap cols a.col (a.col + a.w) b.col (b.col + b.w) v2.1 w3.1 q3 (by omega) (by omega) (by omega) (by omega); omega
          · have := hap cols b.col (b.col + b.w) a.col (a.col + a.w) v2.1 w4.1 (show b.col + b.w ≤ a.col by omega) (by omega) (by omega) (by omega) (by omega); omega
    · obtain ⟨v1, w1⟩ := ra c1
      obtain ⟨_, w2⟩ := rb c1
      have b1 := hull_bd v1 w1; have b2 := hull_bd v1 w2
      by_cases q1 : a.row + a.h ≤ b.row
      · have := hap rows a.row (a.row + a.h) b.row (b.row + b.h) v1.1 w1.1 q1 (by omega) (by omega) (by omega) (by omega); omega
      · have := hap rows b.row (b.row + b.h) a.row (a.row + a.h) v1.1 w2.1 (show b.row + b.h ≤ a.row by omega) (by omega) (by omega) (by omega) (by omega); omega
    · obtain ⟨v2, w3⟩ := ca c2
      obtain ⟨_, w4⟩ := cb c2
      have b3 := hull_bd v2 w3; have b4 := hull_bd v2 w4
      by_cases q3 : a.col + a.w ≤ b.col
      · have := hap cols a.col (a.col + a.w) b.col (b.col + b.w) v2.1 w3.1 q3 (by omega) (by omega) (by omega) (by omega); omega
      · have := hap cols b.col (b.col + b.w) a.col (a.col + a.w) v2.1 w4.1 (show b.col + b.w ≤ a.col by omega) (by omega) (by omega) (by omega) (by omega); omega
    · omega
theorem keepQ_apart {rows cols : List AxStep} {split : List Rect} : ∀ {l : List Rect}, Apart l → (∀ r ∈ l, QIn rows cols r ∧ 1 ≤ r.h ∧ 1 ≤ r.w) → Apart (keepQ l rows cols split)
  | [], _, _ => List.Pairwise.nil
  | a :: l, h, hq => by
    obtain ⟨p1, p2⟩ := List.pairwise_cons.1 h
    have ih := keepQ_apart (l := l) (split := split) p2 (fun r hr => hq r (by simp [hr]))
    unfold keepQ at *
    rw [List.filterMap_cons]
    unfold keepO at *
    by_cases c : thrB (thrR a rows cols) = true ∧ hasQ split (thrR a rows cols) = false
    · rw [if_pos c]
      refine List.pairwise_cons.2 ⟨fun y hy => ?_, ih⟩
      obtain ⟨b, hb, he⟩ := List.mem_filterMap.1 hy
      split at he
      · rename_i c2
        cases he
        obtain ⟨q1, q2, q3⟩ := hq a (by simp)
        obtain ⟨r1, r2, r3⟩ := hq b (by simp [hb])
        exact thr_apart q1 r1 (p1 b hb) q2 q3 r2 r3 c.1 c2.1
      · cases he
    · rw [if_neg c]; exact ih
theorem keepQ_ins {rows cols : List AxStep} {split l : List Rect} {m n : Int} (hl : ∀ r ∈ l, insB r m n = true ∧ QIn rows cols r) : ∀ q ∈ keepQ l rows cols split, insB q (nwS m rows) (nwS n cols) = true ∧ ¬ (q.h = 1 ∧ q.w = 1) := fun q hq => by
  unfold keepQ at hq
  obtain ⟨r, hr, he⟩ := List.mem_filterMap.1 hq
  unfold keepO at he
  split at he
  · rename_i c
    cases he
    obtain ⟨h1, _, ra, ca⟩ := hl r hr
    have u := insB_iff.1 h1
    have hb := c.1
    unfold thrB at hb
    rw [decide_eq_true_eq] at hb
    rw [insB_iff]
    unfold thrR nwS newI at *
    by_cases c1 : 0 < rows.length <;> by_cases c2 : 0 < cols.length
    all_goals simp only [c1, c2, if_true, if_false] at hb ⊢
    · obtain ⟨v1, w1⟩ := ra c1
      obtain ⟨v2, w2⟩ := ca c2
      have b1 := hull_bd v1 w1; have b2 := hull_bd v2 w2
      have n1 := hull_new v1.1 r.row (r.row + r.h); have n2 := hull_new v2.1 r.col (r.col + r.w)
      omega
    · obtain ⟨v1, w1⟩ := ra c1
      have b1 := hull_bd v1 w1
      have n1 := hull_new v1.1 r.row (r.row + r.h)
      omega
    · obtain ⟨v2, w2⟩ := ca c2
      have b2 := hull_bd v2 w2
      have n2 := hull_new v2.1 r.col (r.col + r.w)
      omega
    · omega
  · cases he
/-- The merged rectangles after an edit are valid. -/
theorem raw_mv {x : Grid} {e : GEd} (hm : MV x.merges x.rows x.cols) (hr : RawIn x e) (he : ∀ r ∈ e.merge, insB r (nwS x.rows e.rows) (nwS x.cols e.cols) = true ∧ ¬ (r.h = 1 ∧ r.w = 1)) : MV (rawGr x e).merges (rawGr x e).rows (rawGr x e).cols := by
  have hk := keepQ_ins (rows := e.rows) (cols := e.cols) (split := e.split) (l := x.merges) (m := x.rows) (n := x.cols) (fun r h => ⟨hm.ins r h, hr.q r h⟩)
  have ha : Apart x.merges := hm.pw.imp (fun h => h.2)
  have hka := keepQ_apart (rows := e.rows) (cols := e.cols) (split := e.split) ha (fun r h => ⟨hr.q r h, by have := insB_iff.1 (hm.ins r h); omega, by have := insB_iff.1 (hm.ins r h); omega⟩)
  have hall := foldl_all (P := fun q => insB q (nwS x.rows e.rows) (nwS x.cols e.cols) = true ∧ ¬ (q.h = 1 ∧ q.w = 1)) e.merge _ hk he
  exact sort_mv (fun r h => (hall r h).1) (fun r h => (hall r h).2) (foldl_apart _ _ hka)
end Go.Ch
end
section
set_option linter.unusedVariables false
namespace Go.Ch
open Go Go.Ab

theorem mvR_in {a : List AxStep} {p m : Int} (hp : PIn a p) (h0 : 0 ≤ p ∧ p < m) (hn : ¬ (0 < a.length ∧ mvR a p < 0)) : 0 ≤ mvR a p ∧ mvR a p < nwS m a := by
  unfold mvR at hn ⊢
  unfold nwS newI
  by_cases c : 0 < a.length
  · rw [if_pos c] at hn ⊢
    rw [if_pos c]
    obtain ⟨v, p0, _⟩ := hp c
    have h1 : 0 ≤ placeS a p 0 0 := by
      refine Classical.byContradiction fun q => hn ⟨c, by omega⟩
    have := place_lt v.1 p 0 0 p0 h1
    omega
  · rw [if_neg c, if_neg c]; exact h0
theorem mov_cell {rows cols : List AxStep} {c d : Cell} {m n : Int} (hr : PIn rows c.row) (hc : PIn cols c.col) (h : cellE c m n false = 0) (hd : mvC rows cols c = some d) : cellE d (nwS m rows) (nwS n cols) false = 0 := by
  obtain ⟨a1, a2, rfl⟩ := mvC_some hd
  obtain ⟨h1, h2, h3, h4, h5⟩ := cellE_iff.1 h
  have b1 := mvR_in (m := m) hr ⟨h1.1, h1.2.1⟩ a1
  have b2 := mvR_in (m := n) hc ⟨h1.2.2.1, h1.2.2.2⟩ a2
  exact cellE_iff.2 ⟨⟨b1.1, b1.2, b2.1, b2.2⟩, h2, h3, h4, h5⟩
/-- The cells after an edit are valid. -/
theorem raw_cells {x : Grid} {e : GEd} (h1 : cellsE x.cells x.rows x.cols false 0 = 0) (h2 : cellsE e.cells 2147483647 2147483647 true 0 = 0) (hr : RawIn x e) (hf : ∀ c ∈ e.cells, c.row < nwS x.rows e.rows ∧ c.col < nwS x.cols e.cols) :
    cellsE (rawGr x e).cells (rawGr x e).rows (rawGr x e).cols false 0 = 0 := by
  obtain ⟨a1, a2⟩ := cellsE_iff.1 h1
  obtain ⟨b1, b2⟩ := cellsE_iff.1 h2
  refine cellsE_iff.2 ⟨fun c hc => ?_, put_asc _ _ b2 (mov_asc a2 hr.p1 hr.p2)⟩
  rcases put_mem _ _ c hc with ⟨h, he⟩ | h
  · obtain ⟨q1, q2, q3, q4, _⟩ := cellE_iff.1 (b1 c h)
    have := hf c h
    exact cellE_iff.2 ⟨⟨q1.1, this.1, q1.2.2.1, this.2⟩, q2, q3, q4, fun _ => he⟩
  · obtain ⟨c0, hc0, hm⟩ := List.mem_filterMap.1 h
    exact mov_cell (hr.p1 c0 hc0) (hr.p2 c0 hc0) (a1 c0 hc0) hm
theorem gridE_iff {g : Grid} : gridE g = 0 ↔ (0 ≤ g.rows ∧ g.rows ≤ 2147483647 ∧ 0 ≤ g.cols ∧ g.cols ≤ 2147483647) ∧ cellsE g.cells g.rows g.cols false 0 = 0 ∧ MV g.merges g.rows g.cols := by
  unfold gridE
  by_cases c1 : g.rows < 0 ∨ 2147483647 < g.rows ∨ g.cols < 0 ∨ 2147483647 < g.cols
  · rw [if_pos c1]; exact ⟨fun q => (by cases q), fun q => by omega⟩
  · rw [if_neg c1]
    by_cases c2 : cellsE g.cells g.rows g.cols false 0 = 0
    · rw [if_neg (fun q => q c2), mergE_iff]
      exact ⟨fun q => ⟨by omega, c2, q⟩, fun q => q.2.2⟩
    · rw [if_pos c2]
      exact ⟨fun q => absurd q c2, fun q => q.2.1⟩
/-- A grid after an edit is valid. -/
theorem raw_valid {x : Grid} {e : GEd} (h : AppIn x e) : gridE (rawGr x e) = 0 := by
  obtain ⟨hg, he, hf, hr, _⟩ := h
  obtain ⟨g1, g2, g3⟩ := gridE_iff.1 hg
  have b1 := nwS_bd (n := x.rows) he.okr (by omega)
  have b2 := nwS_bd (n := x.cols) he.okc (by omega)
  exact gridE_iff.2 ⟨⟨b1.1, b1.2, b2.1, b2.2⟩, raw_cells g2 he.cells hr hf.cells, raw_mv g3 hr (fun r hm => ⟨hf.merge r hm, (he.merge r hm).2⟩)⟩
end Go.Ch
end
section
set_option linter.unusedVariables false
namespace Go.Ch
open Go Go.Ab

theorem undo_cells {x : Grid} {e : GEd} (h1 : cellsE x.cells x.rows x.cols false 0 = 0) (h2 : Asc (rawGr x e).cells) (hr : RawIn (rawGr x e) (undoA e)) : (rawGr (rawGr x e) (undoE x e)).cells = x.cells := by
  obtain ⟨a1, a2⟩ := cellsE_iff.1 h1
  exact put_dif x.cells (movL (rawGr x e).cells (undoX e.rows) (undoX e.cols)) a2 (mov_asc h2 hr.p1 hr.p2) (fun c hc => (cellE_iff.1 (a1 c hc)).2.2.2.2 rfl)
theorem addQ_mem {l : List Rect} {r : Rect} (h : ∀ q ∈ l, meetB q r = false) (q : Rect) : q ∈ addQ l r ↔ q ∈ l ∨ q = r := by
  unfold addQ delL
  rw [List.mem_append, List.mem_singleton, List.mem_filter]
  exact ⟨fun p => p.imp (fun p => p.1) id, fun p => p.imp (fun p => ⟨p, by show (!meetB q r) = true; rw [h q p]; rfl⟩) id⟩
theorem foldl_mem : ∀ (ms l : List Rect), (∀ r ∈ ms, ∀ q ∈ l, meetB q r = false) → Apart ms → ∀ q, q ∈ ms.foldl addQ l ↔ q ∈ l ∨ q ∈ ms
  | [], l, _, _, q => by simp
  | r :: ms, l, h, ha, q => by
    obtain ⟨p1, p2⟩ := List.pairwise_cons.1 ha
    have hm := addQ_mem (h r (by simp))
    rw [List.foldl_cons, foldl_mem ms (addQ l r) (fun s hs q hq => by
      rcases (hm q).1 hq with hq | rfl
      · exact h s (by simp [hs]) q hq
      · exact p1 s hs) p2, hm q]
    simp only [List.mem_cons]
    exact ⟨fun p => by rcases p with (p | p) | p; (exact .inl p); (exact .inr (.inl p)); (exact .inr (.inr p)), fun p => by rcases p with p | p | p; (exact .inl (.inl p)); (exact .inl (.inr p)); (exact .inr p)⟩
theorem hasQ_f {l : List Rect} {r : Rect} : hasQ l r = false ↔ r ∉ l := by unfold hasQ; rw [decide_eq_false_iff_not]
theorem outQ_mem {l k : List Rect} {r : Rect} : r ∈ outQ l k ↔ r ∈ l ∧ r ∉ k := by
  unfold outQ
  rw [List.mem_filter, Bool.not_eq_true', hasQ_f]
theorem keepQ_mem {l : List Rect} {rows cols : List AxStep} {split : List Rect} {q : Rect} : q ∈ keepQ l rows cols split ↔ q ∈ keepQ l rows cols [] ∧ q ∉ split := by
  unfold keepQ
  rw [List.mem_filterMap, List.mem_filterMap]
  constructor
  · rintro ⟨r, hr, he⟩
    unfold keepO at he ⊢
    split at he
    · rename_i c
      cases he
      exact ⟨⟨r, hr, by rw [if_pos ⟨c.1, hasQ_f.2 (by simp)⟩]⟩, hasQ_f.1 c.2⟩
    · cases he
  · rintro ⟨⟨r, hr, he⟩, hs⟩
    unfold keepO at he ⊢
    split at he
    · rename_i c
      cases he
      exact ⟨r, hr, by rw [if_pos ⟨c.1, hasQ_f.2 hs⟩]⟩
    · cases he
theorem back_mem {x : Grid} {e : GEd} {q : Rect} : q ∈ (rawGr (rawGr x e) (undoA e)).merges ↔ q ∈ keepQ (rawGr x e).merges (undoX e.rows) (undoX e.cols) [] := (sortQ_perm _).mem_iff
theorem undo_merges {x : Grid} {e : GEd} (hm : MV x.merges x.rows x.cols) (hu : MV (rawGr (rawGr x e) (undoE x e)).merges x.rows x.cols) : (rawGr (rawGr x e) (undoE x e)).merges = x.merges := by
  refine mv_ext hu hm (fun q => ?_)
  have hap : Apart x.merges := hm.pw.imp (fun h => h.2)
  have hin : ∀ a ∈ x.merges, ∀ b ∈ x.merges, a ≠ b → meetB a b = false := by
    intro a ha b hb hne
    obtain ⟨i, hi, rfl⟩ := List.mem_iff_getElem.1 ha
    obtain ⟨j, hj, rfl⟩ := List.mem_iff_getElem.1 hb
    have hp := List.pairwise_iff_getElem.1 hap
    by_cases c : i < j
    · exact hp i j hi hj c
    · by_cases c2 : j < i
      · rw [meetB_comm]; exact hp j i hj hi c2
      · have : i = j := by omega
        subst this; exact absurd rfl hne
  show q ∈ sortQ ((outQ x.merges (rawGr (rawGr x e) (undoA e)).merges).foldl addQ (keepQ (rawGr x e).merges (undoX e.rows) (undoX e.cols) (outQ (rawGr (rawGr x e) (undoA e)).merges x.merges))) ↔ _
  rw [(sortQ_perm _).mem_iff]
  have hk : ∀ r, r ∈ keepQ (rawGr x e).merges (undoX e.rows) (undoX e.cols) (outQ (rawGr (rawGr x e) (undoA e)).merges x.merges) ↔ r ∈ (rawGr (rawGr x e) (undoA e)).merges ∧ r ∈ x.merges := fun r => by
    rw [keepQ_mem, ← back_mem, outQ_mem]
    constructor
    · rintro ⟨h1, h2⟩; exact ⟨h1, Classical.byContradiction fun h => h2 ⟨h1, h⟩⟩
    · rintro ⟨h1, h2⟩; exact ⟨h1, fun h => h.2 h2⟩
  have hap2 : Apart (outQ x.merges (rawGr (rawGr x e) (undoA e)).merges) := List.Pairwise.filter _ hap
  rw [foldl_mem _ _ (fun r hr p hp => by
    obtain ⟨r1, r2⟩ := outQ_mem.1 hr
    obtain ⟨p1, p2⟩ := (hk p).1 hp
    exact hin p p2 r r1 (fun e => r2 (e ▸ p1))) hap2, hk, outQ_mem]
  constructor
  · rintro (⟨_, h⟩ | ⟨h, _⟩) <;> exact h
  · intro h
    by_cases c : q ∈ (rawGr (rawGr x e) (undoA e)).merges
    · exact .inl ⟨c, h⟩
    · exact .inr ⟨h, c⟩
end Go.Ch
end
section
set_option linter.unusedVariables false
namespace Go.Ch
open Go Go.Ab

theorem sameC_self (c : Cell) : sameC c c = true := by
  unfold sameC
  simp only [Bool.and_eq_true, beq_iff_eq, true_and]
  exact ⟨⟨seq_iff.2 rfl, trivial⟩, sameL_self c.attrs⟩
theorem sameCells_self (a : List Cell) : ∀ (k i : Nat), a.length - i = k → sameCells a a i = true
  | 0, i, h => by rw [sameCells, if_neg (by omega)]
  | k + 1, i, h => by rw [sameCells, if_pos (by omega), if_pos (sameC_self _)]; exact sameCells_self a k (i + 1) (by omega)
theorem sameRects_self (a : List Rect) : ∀ (k i : Nat), a.length - i = k → sameRects a a i = true
  | 0, i, h => by rw [sameRects, if_neg (by omega)]
  | k + 1, i, h => by rw [sameRects, if_pos (by omega), if_pos rfl]; exact sameRects_self a k (i + 1) (by omega)
theorem sameG_self (g : Grid) : sameG g g = true := by
  unfold sameG sameCs sameQs
  rw [if_pos rfl, if_pos rfl, sameCells_self _ _ 0 rfl, sameRects_self _ _ 0 rfl]
  simp
end Go.Ch
end
section
set_option linter.unusedVariables false
namespace Go.Ch
open Go Go.Ab

/-- Lengths of a grid's lists. -/
structure LimG (k : Nat) (g : Grid) : Prop where
  c : g.cells.length ≤ k
  m : g.merges.length ≤ k
  a : CAN 1000000000000 g.cells
structure LimE (k : Nat) (e : GEd) : Prop where
  c : e.cells.length ≤ k
  s : e.split.length ≤ k
  m : e.merge.length ≤ k
  a : CAN 1000000000000 e.cells
theorem LimG.mono {k l : Nat} {g : Grid} (h : LimG k g) (hk : k ≤ l) : LimG l g := ⟨Nat.le_trans h.c hk, Nat.le_trans h.m hk, h.a⟩
theorem LimE.mono {k l : Nat} {g : GEd} (h : LimE k g) (hk : k ≤ l) : LimE l g := ⟨Nat.le_trans h.c hk, Nat.le_trans h.s hk, Nat.le_trans h.m hk, h.a⟩
theorem pin_of {a : List AxStep} {n p : Int} (v : Valid a) (f : 0 < a.length → oldI a = n) (h0 : 0 ≤ p) (h : p < n) : PIn a p := fun q => ⟨v, h0, by rw [f q]; exact h⟩
theorem app_in {k : Nat} {x : Grid} {e : GEd} (hk : k ≤ 10000000000) (hg : gridE x = 0) (he : EdOk e) (hf : FitOk x e) (lx : LimG k x) (le : LimE k e) : AppIn x e := by
  obtain ⟨g1, g2, g3⟩ := gridE_iff.1 hg
  obtain ⟨a1, a2⟩ := cellsE_iff.1 g2
  refine ⟨hg, he, hf, ⟨fun _ => he.okr, fun _ => he.okc, by have := lx.c; omega, by have := le.c; omega, by have := lx.m; omega, by have := le.m; omega, lx.a, le.a, fun c hc => ?_, fun c hc => ?_, fun r hr => ?_, fun r hr => ?_⟩, by have := le.s; omega⟩
  · have := (cellE_iff.1 (a1 c hc)).1
    exact pin_of he.okr hf.rows this.1 this.2.1
  · have := (cellE_iff.1 (a1 c hc)).1
    exact pin_of he.okc hf.cols this.2.2.1 this.2.2.2
  · have hi := g3.ins r hr
    have := insB_iff.1 hi
    exact ⟨RB_ins hi (by omega) (by omega), fun q => ⟨he.okr, by omega, by omega, by rw [hf.rows q]; omega⟩, fun q => ⟨he.okc, by omega, by omega, by rw [hf.cols q]; omega⟩⟩
  · exact RB_ins (he.merge r hr).1 (by decide) (by decide)
/-! ### Differences -/
theorem dif_asc : ∀ (g fr : List Cell), Asc g → Asc fr → Asc (difL g fr)
  | [], [], _, _ => trivial
  | [], x :: l, h1, h2 => by
    have ih := dif_asc [] l trivial h2.2
    rw [difL] at ih ⊢
    refine ⟨fun y hy => ?_, ih⟩
    obtain ⟨z, hz, rfl⟩ := List.mem_map.1 hy
    rw [bareC_ord, bareC_ord']; exact h2.1 z hz
  | c :: ns, [], h1, h2 => by
    rw [difL, difC]
    refine ⟨fun y hy => ?_, dif_asc ns [] h1.2 trivial⟩
    rcases dif_mem ns [] y hy with h | ⟨z, hz, _⟩
    · exact h1.1 y h
    · cases hz
  | c :: ns, x :: l, h1, h2 => by
    rw [difL, difC]
    by_cases o1 : ordC x c < 0
    · rw [if_pos o1]
      have ih := dif_asc (c :: ns) l h1 h2.2
      rw [difL] at ih
      refine ⟨fun y hy => ?_, ih⟩
      rw [bareC_ord']
      rcases dif_mem (c :: ns) l y (by rw [difL]; exact hy) with h | ⟨z, hz, rfl⟩
      · rcases List.mem_cons.1 h with rfl | h
        · exact o1
        · exact ordC_trans o1 (h1.1 y h)
      · rw [bareC_ord]; exact h2.1 z hz
    · rw [if_neg o1]
      by_cases o2 : ordC x c = 0
      · rw [if_pos o2]
        have ih := dif_asc ns l h1.2 h2.2
        by_cases o3 : sameC x c = true
        · rw [if_pos o3]; exact ih
        · rw [if_neg o3]
          refine ⟨fun y hy => ?_, ih⟩
          have e := ordC_eq.1 o2
          rcases dif_mem ns l y hy with h | ⟨z, hz, rfl⟩
          · exact h1.1 y h
          · rw [bareC_ord]; exact ordC_le_trans (by rw [ordC_eq.2 ⟨e.1.symm, e.2.symm⟩]; decide) (h2.1 z hz)
      · rw [if_neg o2]
        have hcx : ordC c x < 0 := ordC_flip.1 (by omega)
        refine ⟨fun y hy => ?_, dif_asc ns (x :: l) h1.2 h2⟩
        rcases dif_mem ns (x :: l) y hy with h | ⟨z, hz, rfl⟩
        · exact h1.1 y h
        · rw [bareC_ord]
          rcases List.mem_cons.1 hz with rfl | hz
          · exact hcx
          · exact ordC_trans hcx (h2.1 z hz)
termination_by g fr => g.length + fr.length
theorem dif_len : ∀ (g fr : List Cell), (difL g fr).length ≤ g.length + fr.length
  | [], fr => by rw [difL, List.length_map]; omega
  | c :: ns, [] => by
    have := dif_len ns []
    rw [difL, difC, List.length_cons, List.length_cons]; omega
  | c :: ns, x :: l => by
    have i1 := dif_len (c :: ns) l
    have i2 := dif_len ns l
    have i3 := dif_len ns (x :: l)
    rw [difL] at i1
    rw [difL, difC]
    simp only [List.length_cons] at *
    by_cases o1 : ordC x c < 0
    · rw [if_pos o1, List.length_cons]; omega
    · rw [if_neg o1]
      by_cases o2 : ordC x c = 0
      · rw [if_pos o2]
        by_cases o3 : sameC x c = true
        · rw [if_pos o3]; omega
        · rw [if_neg o3, List.length_cons]; omega
      · rw [if_neg o2, List.length_cons]; omega
termination_by g fr => g.length + fr.length
theorem put_len : ∀ (g fr : List Cell), (putL g fr).length ≤ g.length + fr.length
  | [], fr => by rw [putL]; simp
  | c :: ns, [] => by
    have := put_len ns []
    rw [putL, putC, List.length_append, List.length_cons]
    split <;> simp only [List.length_cons, List.length_nil] at * <;> omega
  | c :: ns, x :: l => by
    have i1 := put_len (c :: ns) l
    have i2 := put_len ns l
    have i3 := put_len ns (x :: l)
    have hb : (if emptyC c = true then ([] : List Cell) else [c]).length ≤ 1 := by split <;> simp
    rw [putL] at i1
    rw [putL, putC]
    simp only [List.length_cons] at *
    by_cases o1 : ordC x c < 0
    · rw [if_pos o1, List.length_cons]; omega
    · rw [if_neg o1]
      by_cases o2 : ordC x c = 0
      · rw [if_pos o2, List.length_append]; omega
      · rw [if_neg o2, List.length_append]; omega
termination_by g fr => g.length + fr.length
theorem foldl_len : ∀ (ms l : List Rect), (ms.foldl addQ l).length ≤ l.length + ms.length
  | [], l => by simp
  | r :: ms, l => by
    have := foldl_len ms (addQ l r)
    have := addQ_len l r
    rw [List.foldl_cons, List.length_cons]; omega
theorem raw_mlen (x : Grid) (e : GEd) : (rawGr x e).merges.length ≤ x.merges.length + e.merge.length := by
  show (sortQ (e.merge.foldl addQ (keepQ x.merges e.rows e.cols e.split))).length ≤ _
  rw [(sortQ_perm _).length_eq]
  have := foldl_len e.merge (keepQ x.merges e.rows e.cols e.split)
  have := keepQ_len x.merges e.rows e.cols e.split
  omega
theorem raw_clen (x : Grid) (e : GEd) : (rawGr x e).cells.length ≤ x.cells.length + e.cells.length := by
  show (putL e.cells (movL x.cells e.rows e.cols)).length ≤ _
  have := put_len e.cells (movL x.cells e.rows e.cols)
  have := movL_len x.cells e.rows e.cols
  omega
/-- A property of a cell that its place has no part in. -/
theorem raw_call {P : ByteArray → List Attr → Prop} {x : Grid} {e : GEd} (h1 : ∀ c ∈ x.cells, P c.text c.attrs) (h2 : ∀ c ∈ e.cells, P c.text c.attrs) : ∀ c ∈ (rawGr x e).cells, P c.text c.attrs := fun c hc => by
  rcases put_mem _ _ c hc with ⟨h, _⟩ | h
  · exact h2 c h
  · obtain ⟨d, hd, hm⟩ := List.mem_filterMap.1 h
    obtain ⟨_, _, rfl⟩ := mvC_some hm
    exact h1 d hd
theorem raw_lim {k l : Nat} {x : Grid} {e : GEd} (hx : LimG k x) (he : LimE l e) : LimG (k + l) (rawGr x e) := by
  have := raw_clen x e; have := raw_mlen x e; have := hx.c; have := hx.m; have := he.c; have := he.m
  exact ⟨by omega, by omega, raw_call (P := fun _ a => a.length ≤ 1000000000000) hx.a he.a⟩
/-! ### The undone axes -/
theorem undo_len {a : List AxStep} (v : Valid a) : 0 < (undoX a).length ↔ 0 < a.length := by
  have h := undoX_ok v
  have z : ∀ {b : List AxStep}, Valid b → (b.length = 0 ↔ oldI b = 0 ∧ newI b = 0) := fun {b} vb => by
    have h1 := ex_len b
    have h2 := ex_len' vb.1
    unfold oldI newI
    constructor
    · intro hb
      have : b = [] := List.length_eq_zero_iff.1 hb
      subst this; exact ⟨rfl, rfl⟩
    · intro hb; omega
  have z1 := z v; have z2 := z h.1
  rw [h.2.1, h.2.2] at z2
  omega
theorem undo_size {n : Int} {a : List AxStep} (v : Valid a) (f : 0 < a.length → oldI a = n) : nwS (nwS n a) (undoX a) = n := by
  have h := undoX_ok v
  have hl := undo_len v
  unfold nwS
  by_cases c : 0 < a.length
  · rw [if_pos (hl.2 c), h.2.2, f c]
  · rw [if_neg (fun q => c (hl.1 q)), if_neg c]
theorem undo_old {n : Int} {a : List AxStep} (v : Valid a) : 0 < (undoX a).length → oldI (undoX a) = nwS n a := fun q => by
  rw [(undoX_ok v).2.1]; unfold nwS; rw [if_pos ((undo_len v).1 q)]
theorem ins_mono {r : Rect} {m n m' n' : Int} (h : insB r m n = true) (h1 : m ≤ m') (h2 : n ≤ n') : insB r m' n' = true := by
  have := insB_iff.1 h
  exact insB_iff.2 (by omega)
theorem limE_undoA (e : GEd) : LimE 0 (undoA e) := ⟨Nat.le_refl _, Nat.le_refl _, Nat.le_refl _, fun c hc => by cases hc⟩
theorem chkA_nil : chkA false [] 0 = 0 := by decide +kernel
theorem textG_nil : textG { data := #[] } = true := textG_end (by decide)
/-- What an edit and its undoing give. -/
structure UndOk (x : Grid) (e : GEd) : Prop where
  und : UndIn x e
  app : AppIn (rawGr x e) (undoE x e)
  back : rawGr (rawGr x e) (undoE x e) = x
theorem undo_ok {k : Nat} {x : Grid} {e : GEd} (hk : k ≤ 1000000000) (h : AppIn x e) (lx : LimG k x) (le : LimE k e) : UndOk x e := by
  have hg := raw_valid h
  have vr := h.he.okr; have vc := h.he.okc
  have ur := undoX_ok vr; have uc := undoX_ok vc
  have lr := raw_lim lx le
  obtain ⟨g1, g2, g3⟩ := gridE_iff.1 h.hg
  obtain ⟨a1, a2⟩ := cellsE_iff.1 g2
  have e1 : nwS (rawGr x e).rows (undoX e.rows) = x.rows := undo_size vr h.hf.rows
  have e2 : nwS (rawGr x e).cols (undoX e.cols) = x.cols := undo_size vc h.hf.cols
  have hA : AppIn (rawGr x e) (undoA e) := app_in (k := 10000000000) (Nat.le_refl _) hg
    ⟨ur.1, uc.1, by rw [show (undoA e).cells = [] from rfl, cellsE]; rfl, fun r hr => (by cases hr), fun r hr => (by cases hr)⟩
    ⟨undo_old vr, undo_old vc, fun c hc => (by cases hc), fun r hr => (by cases hr), fun r hr => (by cases hr)⟩ (lr.mono (by omega)) ((limE_undoA e).mono (by omega))
  have hB := raw_valid hA
  have lB := raw_lim lr (limE_undoA e)
  obtain ⟨b1, b2, b3⟩ := gridE_iff.1 hB
  have e3 : (rawGr (rawGr x e) (undoA e)).rows = x.rows := e1
  have e4 : (rawGr (rawGr x e) (undoA e)).cols = x.cols := e2
  rw [e3, e4] at b2 b3
  obtain ⟨c1, c2⟩ := cellsE_iff.1 b2
  have hmem : ∀ c ∈ (undoE x e).cells, cellE c x.rows x.cols true = 0 := fun c hc => by
    rcases dif_mem x.cells _ c hc with hc | ⟨d, hd, rfl⟩
    · obtain ⟨q1, q2, q3, q4, q5⟩ := cellE_iff.1 (a1 c hc)
      exact cellE_iff.2 ⟨q1, q2, q3, q4, fun q => by cases q⟩
    · obtain ⟨q1, _⟩ := cellE_iff.1 (c1 d hd)
      exact cellE_iff.2 ⟨q1, ⟨Int.le_refl 0, (by decide : (0 : Int) ≤ 1073741824)⟩, textG_nil, chkA_nil, fun q => by cases q⟩
  have hE : EdOk (undoE x e) := by
    refine ⟨ur.1, uc.1, cellsE_iff.2 ⟨fun c hc => ?_, dif_asc _ _ a2 c2⟩, fun r hr => ?_, fun r hr => ?_⟩
    · obtain ⟨q1, q2, q3, q4, q5⟩ := cellE_iff.1 (hmem c hc)
      exact cellE_iff.2 ⟨⟨q1.1, by omega, q1.2.2.1, by omega⟩, q2, q3, q4, q5⟩
    · exact ins_mono (b3.ins r (outQ_mem.1 hr).1) (by omega) (by omega)
    · exact ⟨ins_mono (g3.ins r (outQ_mem.1 hr).1) (by omega) (by omega), g3.big r (outQ_mem.1 hr).1⟩
  have hF : FitOk (rawGr x e) (undoE x e) := by
    refine ⟨undo_old vr, undo_old vc, fun c hc => ?_, fun r hr => ?_, fun r hr => ?_⟩
    · obtain ⟨q1, _⟩ := cellE_iff.1 (hmem c hc)
      show c.row < nwS (rawGr x e).rows (undoX e.rows) ∧ c.col < nwS (rawGr x e).cols (undoX e.cols)
      rw [e1, e2]; omega
    · show insB r (nwS (rawGr x e).rows (undoX e.rows)) (nwS (rawGr x e).cols (undoX e.cols)) = true
      rw [e1, e2]; exact b3.ins r (outQ_mem.1 hr).1
    · show insB r (nwS (rawGr x e).rows (undoX e.rows)) (nwS (rawGr x e).cols (undoX e.cols)) = true
      rw [e1, e2]; exact g3.ins r (outQ_mem.1 hr).1
  have lU : LimE (k + (k + k + 0)) (undoE x e) := by
    have := dif_len x.cells (rawGr (rawGr x e) (undoA e)).cells
    have h1 : (outQ (rawGr (rawGr x e) (undoA e)).merges x.merges).length ≤ (rawGr (rawGr x e) (undoA e)).merges.length := List.length_filter_le _ _
    have h2 : (outQ x.merges (rawGr (rawGr x e) (undoA e)).merges).length ≤ x.merges.length := List.length_filter_le _ _
    have := lx.c; have := lx.m; have := lB.c; have := lB.m
    refine ⟨?_, ?_, ?_, fun c hc => ?_⟩
    · show (difL x.cells (rawGr (rawGr x e) (undoA e)).cells).length ≤ _; omega
    · show (outQ (rawGr (rawGr x e) (undoA e)).merges x.merges).length ≤ _; omega
    · show (outQ x.merges (rawGr (rawGr x e) (undoA e)).merges).length ≤ _; omega
    · rcases dif_mem x.cells _ c hc with hc | ⟨d, hd, rfl⟩
      · exact lx.a c hc
      · exact Nat.zero_le _
  have hU : AppIn (rawGr x e) (undoE x e) := app_in (k := 10000000000) (Nat.le_refl _) hg hE hF (lr.mono (by omega)) (lU.mono (by omega))
  have hV := raw_valid hU
  obtain ⟨_, v2, v3⟩ := gridE_iff.1 hV
  have e5 : (rawGr (rawGr x e) (undoE x e)).rows = x.rows := e1
  have e6 : (rawGr (rawGr x e) (undoE x e)).cols = x.cols := e2
  rw [e5, e6] at v3
  obtain ⟨_, r2, _⟩ := gridE_iff.1 hg
  refine ⟨⟨h, hA.raw, by have := lB.c; omega, by have := lB.m; omega, check_iff.2 ur.1, check_iff.2 uc.1⟩, hU, ?_⟩
  have q1 := undo_cells g2 (cellsE_iff.1 r2).2 hA.raw
  have q2 := undo_merges g3 v3
  show (⟨(rawGr (rawGr x e) (undoE x e)).rows, (rawGr (rawGr x e) (undoE x e)).cols, (rawGr (rawGr x e) (undoE x e)).cells, (rawGr (rawGr x e) (undoE x e)).merges⟩ : Grid) = x
  rw [e5, e6, q1, q2]
end Go.Ch
end
section
set_option linter.unusedVariables false
namespace Go.Ch
open Go Go.Ab

theorem asc_app : ∀ {a b : List Cell}, Asc a → Asc b → (∀ x ∈ a, ∀ y ∈ b, ordC x y < 0) → Asc (a ++ b)
  | [], b, _, h, _ => h
  | x :: a, b, h1, h2, h3 => ⟨fun y hy => by
      rcases List.mem_append.1 hy with hy | hy
      · exact h1.1 y hy
      · exact h3 x (by simp) y hy, asc_app h1.2 h2 (fun z hz y hy => h3 z (by simp [hz]) y hy)⟩
theorem asc_one : ∀ {l : List Cell}, l.length ≤ 1 → Asc l
  | [], _ => trivial
  | [c], _ => ⟨fun x hx => (by cases hx), trivial⟩
  | a :: b :: l, h => by simp at h
theorem flat_succ {f : Nat → List Cell} (k : Nat) : (List.range (k + 1)).flatMap f = (List.range k).flatMap f ++ f k := by
  rw [List.range_succ, List.flatMap_append]; simp
theorem row_all (f : Nat → List Cell) (r : Nat) (P : Cell → Prop) (h1 : ∀ k, ∀ c ∈ f k, c.row = (r : Int) ∧ c.col = (k : Int) ∧ P c) (h2 : ∀ k, (f k).length ≤ 1) :
    ∀ k : Nat, (∀ c ∈ (List.range k).flatMap f, c.row = (r : Int) ∧ 0 ≤ c.col ∧ c.col < (k : Int) ∧ P c) ∧ Asc ((List.range k).flatMap f)
  | 0 => ⟨fun c hc => by simp at hc, trivial⟩
  | k + 1 => by
    obtain ⟨i1, i2⟩ := row_all f r P h1 h2 k
    rw [flat_succ]
    refine ⟨fun c hc => ?_, asc_app i2 (asc_one (h2 k)) (fun x hx y hy => ?_)⟩
    · rcases List.mem_append.1 hc with hc | hc
      · obtain ⟨q1, q2, q3, q4⟩ := i1 c hc
        exact ⟨q1, q2, by omega, q4⟩
      · obtain ⟨q1, q2, q4⟩ := h1 k c hc
        exact ⟨q1, by omega, by omega, q4⟩
    · obtain ⟨q1, q2, q3, q4⟩ := i1 x hx
      obtain ⟨p1, p2, p4⟩ := h1 k y hy
      rw [ordC_lt]; omega
theorem tab_all (f : Nat → Nat → List Cell) (n : Nat) (P : Cell → Prop) (h1 : ∀ r k, ∀ c ∈ f r k, c.row = (r : Int) ∧ c.col = (k : Int) ∧ P c) (h2 : ∀ r k, (f r k).length ≤ 1) :
    ∀ r : Nat, (∀ c ∈ (List.range r).flatMap (fun r => (List.range n).flatMap (f r)), 0 ≤ c.row ∧ c.row < (r : Int) ∧ 0 ≤ c.col ∧ c.col < (n : Int) ∧ P c) ∧ Asc ((List.range r).flatMap (fun r => (List.range n).flatMap (f r)))
  | 0 => ⟨fun c hc => by simp at hc, trivial⟩
  | r + 1 => by
    obtain ⟨i1, i2⟩ := tab_all f n P h1 h2 r
    obtain ⟨j1, j2⟩ := row_all (f r) r P (h1 r) (h2 r) n
    rw [flat_succ]
    refine ⟨fun c hc => ?_, asc_app i2 j2 (fun x hx y hy => ?_)⟩
    · rcases List.mem_append.1 hc with hc | hc
      · obtain ⟨q1, q2, q3, q4, q5⟩ := i1 c hc
        exact ⟨q1, by omega, q3, q4, q5⟩
      · obtain ⟨q1, q2, q3, q4⟩ := j1 c hc
        exact ⟨by omega, by omega, q2, q3, q4⟩
    · obtain ⟨q1, q2, q3, q4, q5⟩ := i1 x hx
      obtain ⟨p1, p2, p3, p4⟩ := j1 y hy
      rw [ordC_lt]; omega
/-- A cell with one of two texts alone. -/
def DrC (text : ByteArray) (c : Cell) : Prop := (c.text = text ∨ c.text = { data := #[] }) ∧ c.ref = 0 ∧ c.attrs = []
theorem edC_mem {raw : List Int} {text : ByteArray} {cols : Nat} (r k : Nat) (c : Cell) (h : c ∈ edC raw text cols r k) : c.row = (r : Int) ∧ c.col = (k : Int) ∧ DrC text c := by
  unfold edC at h
  split at h
  · cases h
  · split at h
    · rw [List.mem_singleton.1 h]; exact ⟨rfl, rfl, .inl rfl, rfl, rfl⟩
    · split at h
      · rw [List.mem_singleton.1 h]; exact ⟨rfl, rfl, .inr rfl, rfl, rfl⟩
      · cases h
theorem edA_all (raw : List Int) (text : ByteArray) (cols r : Nat) : (∀ c ∈ edA raw text cols r, 0 ≤ c.row ∧ c.row < (r : Int) ∧ 0 ≤ c.col ∧ c.col < (cols : Int) ∧ DrC text c) ∧ Asc (edA raw text cols r) :=
  tab_all (edC raw text cols) cols (DrC text) (fun r k c h => edC_mem r k c h) (fun r k => edC_len raw text cols r k) r
theorem newI_nil {l : List AxStep} (h : ¬ 0 < l.length) : newI l = 0 := by
  have : l = [] := List.length_eq_zero_iff.1 (by omega)
  subst this; rfl
theorem nwS_new {n p : Int} {l : List AxStep} (h0 : 0 ≤ p) (h : p < newI l) : nwS n l = newI l := by
  unfold nwS
  by_cases c : 0 < l.length
  · rw [if_pos c]
  · rw [newI_nil c] at h; omega
theorem edM_mem {raw : List Int} {rows cols : Int} {ms : Bool} {r : Rect} (h : r ∈ edM raw rows cols ms) : 1 < rows ∧ 1 < cols ∧ insB r rows cols = true ∧ r.h = 2 ∧ r.w = 2 := by
  unfold edM at h
  split at h
  · rename_i q
    have b1 := withinI_bd (raw.getD 0 default) (lo := 0) (hi := rows - 2) (by omega)
    have b2 := withinI_bd (raw.getD (raw.length - 1) default) (lo := 0) (hi := cols - 2) (by omega)
    rw [List.mem_singleton.1 h]
    exact ⟨q.2.1, q.2.2.1, insB_iff.2 (by simp only []; omega), rfl, rfl⟩
  · cases h
structure EdtOk (x : Grid) (e : GEd) : Prop where
  ed : EdOk e
  fit : FitOk x e
  lim : LimE 1000000 e
  split : e.split = []
  cells : ∀ c ∈ e.cells, c.attrs = []
  nr : newI e.rows ≤ 1000 ∧ newI e.cols ≤ 1000
  lr : oldI e.rows = x.rows ∧ oldI e.cols = x.cols
theorem edit_ok {x : Grid} (raw : List Int) {text : ByteArray} (ms : Bool) (hr : 0 ≤ x.rows ∧ x.rows ≤ 100) (hc : 0 ≤ x.cols ∧ x.cols ≤ 100) (ht : textG text = true) : EdtOk x (editE x raw text ms) := by
  obtain ⟨r1, r2, r3, r4⟩ := fit_ok (raw.take (raw.length / 2)) x.rows hr.1 (by omega)
  obtain ⟨c1, c2, c3, c4⟩ := fit_ok (raw.drop (raw.length / 2)) x.cols hc.1 (by omega)
  generalize hR : stepsL (fitU (raw.take (raw.length / 2)) x.rows.toNat) 0 [] = R at r1 r2 r3 r4
  generalize hC : stepsL (fitU (raw.drop (raw.length / 2)) x.cols.toNat) 0 [] = C at c1 c2 c3 c4
  have he : editE x raw text ms = ⟨R, C, edA raw text (newI C).toNat (newI R).toNat, [], edM raw (newI R) (newI C) ms⟩ := by
    unfold editE fitR; rw [hR, hC]
  rw [he]
  obtain ⟨a1, a2⟩ := edA_all raw text (newI C).toNat (newI R).toNat
  have hl := edA_len raw text (newI C).toNat (newI R).toNat
  have hm : (newI R).toNat * (newI C).toNat ≤ 302 * 302 := Nat.mul_le_mul (by omega) (by omega)
  have hml : (edM raw (newI R) (newI C) ms).length ≤ 1 := by unfold edM; split <;> simp
  have hcell : ∀ c ∈ edA raw text (newI C).toNat (newI R).toNat, 0 ≤ c.row ∧ c.row < newI R ∧ 0 ≤ c.col ∧ c.col < newI C ∧ DrC text c := fun c h => by
    obtain ⟨q1, q2, q3, q4, q5⟩ := a1 c h
    exact ⟨q1, by omega, q3, by omega, q5⟩
  refine ⟨⟨r1, c1, cellsE_iff.2 ⟨fun c h => ?_, a2⟩, fun r h => (by cases h), fun r h => ?_⟩, ⟨fun _ => r2, fun _ => c2, fun c h => ?_, fun r h => (by cases h), fun r h => ?_⟩, ⟨by show (edA raw text (newI C).toNat (newI R).toNat).length ≤ _; omega, Nat.zero_le _, by show (edM raw (newI R) (newI C) ms).length ≤ _; omega, fun c h => ?_⟩, rfl, fun c h => (hcell c h).2.2.2.2.2.2, ⟨by show newI R ≤ _; omega, by show newI C ≤ _; omega⟩, r2, c2⟩
  · obtain ⟨q1, q2, q3, q4, q5, q6, q7⟩ := hcell c h
    refine cellE_iff.2 ⟨by omega, by omega, ?_, ?_, fun q => by cases q⟩
    · rcases q5 with q5 | q5 <;> rw [q5]
      · exact ht
      · exact textG_nil
    · rw [q7]; exact chkA_nil
  · obtain ⟨q1, q2, q3, q4, q5⟩ := edM_mem h
    exact ⟨ins_mono q3 (by omega) (by omega), by omega⟩
  · obtain ⟨q1, q2, q3, q4, q5⟩ := hcell c h
    show c.row < nwS x.rows R ∧ c.col < nwS x.cols C
    rw [nwS_new q1 q2, nwS_new q3 q4]; exact ⟨q2, q4⟩
  · obtain ⟨q1, q2, q3, q4, q5⟩ := edM_mem h
    show insB r (nwS x.rows R) (nwS x.cols C) = true
    rw [nwS_new (p := 0) (by decide) (by omega), nwS_new (p := 0) (by decide) (by omega)]; exact q3
  · rw [(hcell c h).2.2.2.2.2.2]; exact Nat.zero_le _
/-! ### The board -/
def BdC (c : Cell) : Prop := (∃ v : Int, (2 ≤ v ∧ v ≤ 4) ∧ c.text = bdT v) ∧ c.ref = 0 ∧ c.attrs = []
end Go.Ch
end
section
set_option linter.unusedVariables false
namespace Go.Ch
open Go Go.Ab

theorem raw_sz {x : Grid} {e : GEd} (h1 : SzC x.cells) (h2 : SzC e.cells) : SzC (rawGr x e).cells :=
  raw_call (P := fun t a => t.size ≤ 9223372036854775807 ∧ Szd a) h1 h2
theorem szd_nil : Szd [] := fun a h => by cases h
structure UndAll (x : Grid) (e : GEd) : Prop where
  app : AppIn x e
  und : UndIn x e
  app2 : AppIn (rawGr x e) (undoE x e)
  len : (rawGr x e).merges.length ≤ 100000000000
  sz : SzC (rawGr x e).cells
  back : rawGr (rawGr x e) (undoE x e) = x
  ok : gridE (rawGr x e) = 0
theorem und_all {x : Grid} {e : GEd} (hg : gridE x = 0) (he : EdOk e) (hf : FitOk x e) (lx : LimG 100000000 x) (le : LimE 100000000 e) (zx : SzC x.cells) (ze : SzC e.cells) : UndAll x e := by
  have h := app_in (k := 100000000) (by decide) hg he hf lx le
  obtain ⟨u1, u2, u3⟩ := undo_ok (k := 100000000) (by decide) h lx le
  exact ⟨h, u1, u2, by have := raw_mlen x e; have := lx.m; have := le.m; omega, raw_sz zx ze, u3, raw_valid h⟩
theorem und_given {x : Grid} {e : GEd} (hg : gridE x = 0) (h1 : edE e = 0) (h2 : fitE x e = 0) (lx : LimG 100000000 x) (le : LimE 100000000 e) (zx : SzC x.cells) (ze : SzC e.cells) : UndAll x e :=
  und_all hg (edE_ok h1) (fitE_ok h2) lx le zx ze
theorem small_iff {x : Grid} {e : GEd} : smallB x e = true ↔ ((x.rows ≤ 30 ∧ x.cols ≤ 30) ∧ sumN e.rows ≤ 60) ∧ sumN e.cols ≤ 60 := by
  unfold smallB
  simp only [Bool.and_eq_true, decide_eq_true_eq]
theorem edit_sz {x : Grid} {raw : List Int} {text : ByteArray} {ms : Bool} (ht : text.size ≤ 100) : SzC (editE x raw text ms).cells := fun c hc => by
  obtain ⟨q1, q2, q3, q4, q5, q6, q7⟩ := (edA_all raw text (newI (fitR (raw.drop (raw.length / 2)) x.cols)).toNat (newI (fitR (raw.take (raw.length / 2)) x.rows)).toNat).1 c hc
  refine ⟨?_, by rw [q7]; exact szd_nil⟩
  rcases q5 with q5 | q5 <;> rw [q5]
  · omega
  · decide
theorem txN : textG { data := #[110] } = true := by decide +kernel
theorem und_drawn {x : Grid} (raw : List Int) (hg : gridE x = 0) (hs : smallB x ⟨[], [], [], [], []⟩ = true) (lx : LimG 100000000 x) (zx : SzC x.cells) : UndAll x (editE x raw { data := #[110] } true) := by
  have h := (small_iff.1 hs).1.1
  obtain ⟨⟨g1, g2, g3, g4⟩, _⟩ := gridE_iff.1 hg
  have e := edit_ok raw true ⟨g1, by omega⟩ ⟨g3, by omega⟩ txN
  exact und_all hg e.ed e.fit lx (e.lim.mono (by decide)) zx (edit_sz (by decide))
end Go.Ch
end
