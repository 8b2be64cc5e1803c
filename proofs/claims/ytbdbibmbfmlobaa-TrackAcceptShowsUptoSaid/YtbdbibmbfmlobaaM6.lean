/- The list of tracked changes. -/
import Derived.Test.YtbdbibmbfmlobaaM1
import Derived.Test.YtbdbibmbfmlobaaM2
import Derived.Test.YtbdbibmbfmlobaaM3
import Derived.Test.YtbdbibmbfmlobaaM4
import Derived.Test.YtbdbibmbfmlobaaM5
import Derived.Test.YtbdbibmbfmlobaaRows
import Derived.JoinedOf
import Derived.ProofKit
section
set_option linter.unusedVariables false
set_option linter.unusedSimpArgs false
namespace Go.Ch
open Go Go.Ab
def gA (f : List Elem) (n : ByteArray) (i : Nat) : ByteArray := getA (f.getD i default).attrs n 0
def chS (f : List Elem) (o : List Span) (i : Nat) : List Span :=
  if gA f addB i = mt ∧ gA f cutB i = mt then o
  else if 0 < o.length ∧ (o.getD (o.length - 1) default).to = (i : Int) ∧ gA f addB (i - 1) = gA f addB i ∧ gA f cutB (i - 1) = gA f cutB i then o.set (o.length - 1) ⟨(o.getD (o.length - 1) default).fr, (o.getD (o.length - 1) default).to + 1⟩
  else o ++ [⟨(i : Int), (i : Int) + 1⟩]
def chL (f : List Elem) : Nat → List Span
  | 0 => []
  | i + 1 => chS f (chL f i) i
theorem chL_bd (f : List Elem) : ∀ i, (chL f i).length ≤ i ∧ ∀ s ∈ chL f i, 0 ≤ s.to ∧ s.to ≤ (i : Int)
  | 0 => ⟨Nat.le_refl _, fun s h => by cases h⟩
  | i + 1 => by
    obtain ⟨h1, h2⟩ := chL_bd f i
    have e : chL f (i + 1) = chS f (chL f i) i := rfl
    rw [e]
    generalize chL f i = o at *
    unfold chS
    split
    · exact ⟨by omega, fun s hs => by have := h2 s hs; omega⟩
    · split
      · rename_i c
        refine ⟨by rw [List.length_set]; omega, fun s hs => ?_⟩
        rcases List.mem_or_eq_of_mem_set hs with hs | rfl
        · have := h2 s hs; omega
        · have := h2 _ (getD_mem' (l := o) (k := o.length - 1) (by omega)); simp only; omega
      · refine ⟨by simp; omega, fun s hs => ?_⟩
        rcases List.mem_append.1 hs with hs | hs
        · have := h2 s hs; omega
        · rw [List.mem_singleton] at hs; subst hs; simp only; omega
theorem chL_last {f : List Elem} {i : Nat} (h : 0 < (chL f i).length) : 0 ≤ ((chL f i).getD ((chL f i).length - 1) default).to ∧ ((chL f i).getD ((chL f i).length - 1) default).to ≤ (i : Int) := (chL_bd f i).2 _ (getD_mem' (by omega))
theorem chL_none {f : List Elem} : ∀ {n : Nat}, (chL f n).length = 0 → ∀ i, i < n → gA f addB i = mt ∧ gA f cutB i = mt
  | 0, _, i, hi => by omega
  | n + 1, h, i, hi => by
    have e : chL f (n + 1) = chS f (chL f n) n := rfl
    rw [e] at h
    unfold chS at h
    split at h
    · rename_i c
      by_cases q : i = n
      · subst q; exact c
      · exact chL_none h i (by omega)
    · split at h
      · rename_i c; rw [List.length_set] at h; omega
      · simp at h
theorem gotA_mt {f : List Elem} {n : ByteArray} {i : Nat} (h : gA f n i = mt) : gotA (f.getD i default).attrs n = false := by
  unfold gotA
  unfold gA at h
  rw [h, show seq mt { data := #[] } = true from seq_iff.2 rfl]; rfl
end Go.Ch
namespace Go.Ch
open Go Go.Ab
theorem vis_yes {f : List Elem} {mode : Int} {i : Nat} (h : hidX (f.getD i default) mode = false ∨ (i : Int) = (f.length : Int) - 1 ∧ (f.getD i default).char = 10) : visB f mode i = true := by
  unfold visB
  rcases h with h | ⟨h, k⟩
  · rw [h]; rfl
  · rw [decide_eq_true h, decide_eq_true k]; simp
theorem vis_no {f : List Elem} {mode : Int} {i : Nat} (h : hidX (f.getD i default) mode = true ∧ (¬(i : Int) = (f.length : Int) - 1 ∨ ¬(f.getD i default).char = 10)) : visB f mode i = false := by
  unfold visB
  rw [h.1]
  rcases h.2 with k | k
  · rw [decide_eq_false k]; simp
  · rw [decide_eq_false k]; simp
theorem flowE_bad {f : List Elem} {i : Nat} (h : partE f 0 = partE f i) (hi : i < f.length) (he : ¬ elemE (f.getD i default) = 0) : flowE f = elemE (f.getD i default) := by
  have : partE f 0 = elemE (f.getD i default) := by rw [h, partE, if_pos hi]; split <;> omega
  unfold flowE
  rw [this, if_pos he]
theorem flowE_end {f : List Elem} {i : Nat} (h : partE f 0 = partE f i) (hi : f.length ≤ i) : flowE f = if f.length = 0 ∨ (f.getD (f.length - 1) default).char ≠ 10 then 11 else 0 := by
  have : partE f 0 = 0 := by rw [h, partE, if_neg (by omega)]
  unfold flowE
  rw [this, if_neg (by simp)]
theorem flowE_ok {f : List Elem} (h : flowE f = 0) : partE f 0 = 0 ∧ 0 < f.length ∧ (f.getD (f.length - 1) default).char = 10 := by
  unfold flowE at h
  split at h
  · rename_i q; exact absurd h q
  · rename_i q
    split at h
    · cases h
    · rename_i r
      refine ⟨by omega, by omega, Classical.byContradiction fun q => r (.inr q)⟩
end Go.Ch
namespace Go.Ch
open Go Go.Ab
def trkL : List Elem := [({ char := 97, ref := 0, attrs := [] } : Elem), ({ char := 98, ref := 0, attrs := [({ name := { data := #[99, 117, 116] }, val := { data := #[120] } } : Attr)] } : Elem), ({ char := 10, ref := 0, attrs := [] } : Elem)]
theorem trk_facts : partE trkL 0 = 0 ∧ plcL trkL 0 (trkL).length = [0, 2] ∧ trkL.length ≤ 100 := by decide +kernel
end Go.Ch
namespace Go.Ch
open Go Go.Ab
theorem unit_cut {f : List Elem} {k l : ByteArray} {i : Nat} (h : seq (getA (f.getD i default).attrs l 0) { data := #[] } = false ∧ (i : Int) < (f.length : Int) - 1) : stepU (unitT f k l i) = ⟨2, 1, [], []⟩ := by
  unfold unitT goneB gotA
  rw [h.1, decide_eq_true h.2]; rfl
theorem unit_keep {f : List Elem} {k l : ByteArray} {i : Nat} (h : seq (getA (f.getD i default).attrs l 0) { data := #[] } = true ∨ (f.length : Int) - 1 ≤ i) : stepU (unitT f k l i) = ⟨0, 1, stpC (f.getD i default).attrs k l, []⟩ := by
  have : goneB f l i = false := by
    unfold goneB gotA
    rcases h with h | h
    · rw [h]; rfl
    · rw [decide_eq_false (by omega), Bool.and_false]
  unfold unitT
  rw [this]; rfl
theorem stpC_kl {a : List Attr} {k l : ByteArray} (h : seq (getA a k 0) { data := #[] } = false) (g : seq (getA a l 0) { data := #[] } = false) : stpC a k l = [⟨addB, { data := #[] }⟩, ⟨cutB, { data := #[] }⟩] := by
  unfold stpC gotA; rw [h, g]; rfl
theorem stpC_k {a : List Attr} {k l : ByteArray} (h : seq (getA a k 0) { data := #[] } = false) (g : seq (getA a l 0) { data := #[] } = true) : stpC a k l = [⟨k, { data := #[] }⟩] := by
  unfold stpC gotA; rw [h, g]; rfl
theorem stpC_l {a : List Attr} {k l : ByteArray} (h : seq (getA a k 0) { data := #[] } = true) (g : seq (getA a l 0) { data := #[] } = false) : stpC a k l = [⟨l, { data := #[] }⟩] := by
  unfold stpC gotA; rw [h, g]; rfl
theorem stpC_0 {a : List Attr} {k l : ByteArray} (h : seq (getA a k 0) { data := #[] } = true) (g : seq (getA a l 0) { data := #[] } = true) : stpC a k l = [] := by
  unfold stpC gotA; rw [h, g]; rfl
end Go.Ch
namespace Go.Ch
open Go Go.Ab
theorem chL_1 {f : List Elem} {i : Nat} (h : seq (gA f addB i) { data := #[] } = true ∧ seq (gA f cutB i) { data := #[] } = true) : chL f (i + 1) = chL f i := by
  show chS f (chL f i) i = _
  unfold chS; rw [if_pos ⟨seq_iff.1 h.1, seq_iff.1 h.2⟩]
theorem chL_2 {f : List Elem} {i : Nat} {o : List Span} (ho : o = chL f i) (h0 : seq (gA f addB i) { data := #[] } = false ∨ seq (gA f cutB i) { data := #[] } = false) (h : 0 < o.length ∧ (o.getD (o.length - 1) default).to = (i : Int) ∧ seq (gA f addB (i - 1)) (gA f addB i) = true ∧ seq (gA f cutB (i - 1)) (gA f cutB i) = true) :
    chL f (i + 1) = o.set (o.length - 1) ⟨(o.getD (o.length - 1) default).fr, (o.getD (o.length - 1) default).to + 1⟩ := by
  show chS f (chL f i) i = _
  unfold chS
  rw [← ho, if_neg, if_pos ⟨h.1, h.2.1, seq_iff.1 h.2.2.1, seq_iff.1 h.2.2.2⟩]
  rintro ⟨a, b⟩
  rcases h0 with q | q
  · exact seq_no.1 q a
  · exact seq_no.1 q b
theorem chL_3 {f : List Elem} {i : Nat} {o : List Span} (ho : o = chL f i) (h0 : seq (gA f addB i) { data := #[] } = false ∨ seq (gA f cutB i) { data := #[] } = false) (h : ¬ (0 < o.length ∧ (o.getD (o.length - 1) default).to = (i : Int) ∧ seq (gA f addB (i - 1)) (gA f addB i) = true ∧ seq (gA f cutB (i - 1)) (gA f cutB i) = true)) :
    chL f (i + 1) = o ++ [⟨(i : Int), (i : Int) + 1⟩] := by
  show chS f (chL f i) i = _
  unfold chS
  rw [← ho, if_neg, if_neg]
  · rintro ⟨a, b, c, d⟩; exact h ⟨a, b, seq_iff.2 c, seq_iff.2 d⟩
  · rintro ⟨a, b⟩
    rcases h0 with q | q
    · exact seq_no.1 q a
    · exact seq_no.1 q b
end Go.Ch
namespace Go.Ch
open Go Go.Ab
theorem mode_cut : modeOf cutB = 0 := if_pos rfl
theorem mode_add : modeOf addB = 1 := if_neg add_ne
end Go.Ch
end
section
set_option linter.unusedVariables false
set_option linter.unusedSimpArgs false
set_option maxRecDepth 100000
set_option maxHeartbeats 4000000
open Go Go.Proofs Go.Ab
namespace Go.Ch
theorem fc_dKeep0 (o : List DStep) (a : List Elem) (c : Int) (n : Int) (l : List Attr) (h0 : n = 0) : FC Try.prog 103 [.ptr 0 0, VI n, VL 2 attrT l] (app emp [(0, .box [.row 1 o.length, .row 2 a.length, VI c]), (1, OR 4 dstepT o), (2, OR 3 elemT a)]) (.tup []) (app emp [(0, .box [.row 1 o.length, .row 2 a.length, VI c]), (1, OR 4 dstepT o), (2, OR 3 elemT a)]) := by
 refine .go Try.f103 ?_
 refine .len 2 (fun hl2 => ?_)
 refine .br [.r []] (n == 0) (fun h0 => ?_) (fun h0 => ?_)
 ·
  (try simp only [beq_iff_eq, beq_eq_false_iff_ne, ne_eq] at h0)
  exact .fin [] [(0, 0), (1, 1), (2, 2)]
 ·
  (try simp only [beq_iff_eq, beq_eq_false_iff_ne, ne_eq] at h0)
  exfalso
  omega

theorem fc_dDoneE (o : List DStep) (a : List Elem) (c : Int) (ho : o.length ≤ 100000000000) (hc : ¬ checkD (flushD ⟨o, a, c⟩) = 0) (hd : DN 400000000000 (flushD ⟨o, a, c⟩)) : FC Try.prog 105 [.ptr 0 0] (app emp [(0, .box [.row 1 o.length, .row 2 a.length, VI c]), (1, OR 4 dstepT o), (2, OR 3 elemT a)]) (.tup [VL 4 dstepT [], VI 3]) (app emp [(0, .box [.row 1 ((flushD ⟨o, a, c⟩).length), .row 3 0, VI 0]), (1, OR 4 dstepT (flushD ⟨o, a, c⟩)), (2, OF 3 elemT a), (3, OR 3 elemT [])]) := by
 refine .go Try.f105 ?_
 refine .br [.r [], .r [(1, X (Xc3 27 [(0, 0), (1, 1), (2, 2)] (fc_dFlush o a c (by omega)) X0))], .r [(4, X (Xc0 (fc_dCheck (flushD ⟨o, a, c⟩) (by assumption)) (rowC dstepT (flushD ⟨o, a, c⟩) X0)))]] ((checkD (flushD ⟨o, a, c⟩)) != 0) (fun h2 => ?_) (fun h2 => ?_)
 ·
  (try simp only [bne_iff_ne, bne_eq_false_iff_eq, ne_eq] at h2)
  exact .fin [.r [], .le (.nL 2 4)] [(0, 0), (1, 1), (2, 2), (27, 3)]
 ·
  (try simp only [bne_iff_ne, bne_eq_false_iff_eq, ne_eq] at h2)
  exfalso
  omega

theorem fc_dTidy (d : List DStep) (hd : DN 100000000000 d) (hl : d.length ≤ 100000000) (he : elS d ≤ 10000000000) : FC Try.prog 49 [VL 4 dstepT d] (app emp []) (.tup [VL 4 dstepT (tidyL d), VI (tidyE d)]) (app emp []) := by
 refine .go Try.f49 ?_
 refine .len 0 (fun hl0 => ?_)
 have hd4 := hd.mono (n := 400000000000) (by decide)
 refine .loop (α := Nat × Int × (List DStep) × (List Elem)) [.r [], .r [], .le (.nB 16 0 4), .le (.nB 16 1 3), .r [(1, X (Xl dstepT d))]] 50 (fun (i, y, o, x) => ([(4, .ptr 16 0), (8, VL 4 dstepT d), (9, VI (d.length : Int)), (10, VI (i : Int))], [(16, .box [.row 24 o.length, .row 25 x.length, VI y]), (24, OR 4 dstepT o), (25, OR 3 elemT x)])) (fun (i, y, o, x) => i ≤ d.length ∧ tidyG ⟨[], [], 0⟩ d = tidyG ⟨o, x, y⟩ (d.drop i) ∧ TB d i ⟨o, x, y⟩) (fun (i, y, o, x) => d.length - i) (0, 0, [], []) ?_ ?_
 ·
  exact ⟨by omega, rfl, TB.start d⟩
 rintro ⟨i, y, o, x⟩ I3 ih3
 try dsimp only at I3
 have b1 := I3.2.2.out
 have b2 := I3.2.2.add
 have b3 := I3.2.2.cut
 simp only at b1 b2 b3
 refine .br [.r []] (decide ((i : Int) < (d.length : Int))) (fun h3 => ?_) (fun h3 => ?_)
 ·
  (try simp only [decide_eq_true_eq, decide_eq_false_iff_not, Int.not_lt, Int.not_le] at h3)
  obtain ⟨e1, e2⟩ := elS_take (d := d) (i := i) (by omega)
  have hT := tidyG_at (d := d) (i := i) (by omega) ⟨o, x, y⟩
  obtain ⟨d1, d2, d3⟩ := hd4 _ (getD_mem' (l := d) (k := i) (by omega))
  obtain ⟨f1, f2⟩ := I3.2.2.flush (by omega) (by omega) (by omega)
  refine .br [.r [(0, X (Xi dstepT d (i : Int)))], .r [(1, X (Xc0 (fc_step ((d.getD i default))) X0))], .r [(5, Xv 1 ((((d.getD i default)).kind) == 1) X0), (6, Xv 1 ((((d.getD i default)).kind) == 1) (Xl elemT (((d.getD i default)).elems))), (7, Xv 1 ((((d.getD i default)).kind) == 1) X0), (8, X (Xk ((((d.getD i default)).kind) == 1))), (11, Xv 1 (((((d.getD i default)).kind) == 1) && (((((d.getD i default)).elems).length : Int) == 0)) X0), (12, X (Xk (((((d.getD i default)).kind) == 1) && (((((d.getD i default)).elems).length : Int) == 0)))), (15, Xv 1 (!((((((d.getD i default)).kind) == 1) && (((((d.getD i default)).elems).length : Int) == 0)) && ((stepD ((d.getD i default))) == 11))) X0), (16, Xv 1 (!((((((d.getD i default)).kind) == 1) && (((((d.getD i default)).elems).length : Int) == 0)) && ((stepD ((d.getD i default))) == 11))) X0), (17, Xv 1 (!((((((d.getD i default)).kind) == 1) && (((((d.getD i default)).elems).length : Int) == 0)) && ((stepD ((d.getD i default))) == 11))) X0), (19, Xv 1 ((!((((((d.getD i default)).kind) == 1) && (((((d.getD i default)).elems).length : Int) == 0)) && ((stepD ((d.getD i default))) == 11))) && ((((d.getD i default)).kind) != 1)) X0), (20, Xv 1 ((!((((((d.getD i default)).kind) == 1) && (((((d.getD i default)).elems).length : Int) == 0)) && ((stepD ((d.getD i default))) == 11))) && ((((d.getD i default)).kind) != 1)) X0), (21, Xka (!((((((d.getD i default)).kind) == 1) && (((((d.getD i default)).elems).length : Int) == 0)) && ((stepD ((d.getD i default))) == 11))) ((((d.getD i default)).kind) != 1)), (22, Xv 1 (!((((((d.getD i default)).kind) == 1) && (((((d.getD i default)).elems).length : Int) == 0)) && ((stepD ((d.getD i default))) == 11))) X0), (24, Xv 1 ((!((((((d.getD i default)).kind) == 1) && (((((d.getD i default)).elems).length : Int) == 0)) && ((stepD ((d.getD i default))) == 11))) && (((((d.getD i default)).kind) != 1) && ((((d.getD i default)).n) == 0))) X0), (25, Xka (!((((((d.getD i default)).kind) == 1) && (((((d.getD i default)).elems).length : Int) == 0)) && ((stepD ((d.getD i default))) == 11))) (((((d.getD i default)).kind) != 1) && ((((d.getD i default)).n) == 0))), (26, X (Xk' ((((((d.getD i default)).kind) == 1) && (((((d.getD i default)).elems).length : Int) == 0)) && ((stepD ((d.getD i default))) == 11))))]] (((((((d.getD i default)).kind) == 1) && (((((d.getD i default)).elems).length : Int) == 0)) && ((stepD ((d.getD i default))) == 11)) || ((((((d.getD i default)).kind) != 1) && ((((d.getD i default)).n) == 0)) && ((stepD ((d.getD i default))) == 2))) (fun h6 => ?_) (fun h6 => ?_)
  ·
   (try simp only [Bool.and_eq_true, Bool.and_eq_false_iff, Bool.not_eq_true', Bool.not_eq_false', Bool.or_eq_true, Bool.or_eq_false_iff, beq_iff_eq, beq_eq_false_iff_ne, ne_eq, bne_iff_ne, bne_eq_false_iff_eq] at h6)
   have hL : lenE (d.getD i default) = (chkA true (((d.getD i default)).attrs) 0) := by unfold lenE; first | rw [if_pos (by omega)] | rw [if_neg (by omega)]
   refine .br [.r [(2, X (Xc0 (fc_acheckChange (((d.getD i default)).attrs)) X0))], .r []] ((chkA true (((d.getD i default)).attrs) 0) != 0) (fun h8 => ?_) (fun h8 => ?_)
   ·
    (try simp only [bne_iff_ne, bne_eq_false_iff_eq, ne_eq] at h8)
    have e1 : ((tidyL d) : List DStep) = [] := by
     unfold tidyL
     rw [I3.2.1, hT, if_pos (by rw [hL]; exact h8)]
    have e2 : ((tidyE d) : Int) = (chkA true (((d.getD i default)).attrs) 0) := by
     unfold tidyE
     rw [I3.2.1, hT, if_pos (by rw [hL]; exact h8)]
     exact hL
    exact .finE [.r [], .le (.nL 2 4)] [] (fun (z0, z1) => (.tup [VL 4 dstepT z0, VI z1], [])) (([] : List DStep), ((chkA true (((d.getD i default)).attrs) 0) : Int)) (((tidyL d) : List DStep), ((tidyE d) : Int)) (pr e1 e2)
   ·
    (try simp only [bne_iff_ne, bne_eq_false_iff_eq, ne_eq] at h8)
    have hL0 : lenE (d.getD i default) = 0 := by rw [hL]; omega
    rw [if_neg (by rw [hL0]; decide)] at hT
    obtain ⟨hk, hn1, hn2⟩ := lenE_ok hL0
    have hN := I3.2.2.next (by omega) hd hL0
    clear h6
    refine .br [.r [], .r []] ((((d.getD i default)).kind) == 0) (fun h14 => ?_) (fun h14 => ?_)
    ·
     (try simp only [beq_iff_eq, beq_eq_false_iff_ne, ne_eq] at h14)
     by_cases hn0 : (d.getD i default).n = 0
     ·
      refine .back [.r [(4, X (Xc3 442 [(0, 16), (1, 24), (2, 25)] (fc_dKeep0 o x y (((d.getD i default)).n) (((d.getD i default)).attrs) (by assumption)) X0))], .r [(0, X (Xn ((i : Int) + 1)))]] [(16, 16), (24, 24), (25, 25)] (ih3 ((i + 1), y, o, x) ?_ ?_)
      ·
       have hW : tdW ⟨o, x, y⟩ (d.getD i default) = ⟨o, x, y⟩ := by unfold tdW; rw [if_pos h14, if_pos hn0]
       have hb : ¬ tdBad ⟨o, x, y⟩ (d.getD i default) := fun h => h.1 h14
       have hN2 := hN hb
       rw [if_neg hb] at hT
       rw [hW] at hT hN2
       exact ⟨by omega, I3.2.1.trans hT, hN2⟩
      ·
       ((try dsimp only); omega)
     ·
      refine .back [.r [(4, X (Xc3 442 [(0, 16), (1, 24), (2, 25)] (fc_dKeep o x y (((d.getD i default)).n) (((d.getD i default)).attrs) (by omega) (by first | omega | simp) (by omega) (by first | assumption | exact kbd (by assumption))) X0))], .r [(0, X (Xn ((i : Int) + 1)))]] [(16, 16), (24, 24), (442, 25)] (ih3 ((i + 1), 0, (keepD (flushD ⟨o, x, y⟩) (((d.getD i default)).n) (((d.getD i default)).attrs)), []) ?_ ?_)
      ·
       have hW : tdW ⟨o, x, y⟩ (d.getD i default) = ⟨keepD (flushD ⟨o, x, y⟩) (d.getD i default).n (d.getD i default).attrs, [], 0⟩ := by unfold tdW; rw [if_pos h14, if_neg hn0]
       have hb : ¬ tdBad ⟨o, x, y⟩ (d.getD i default) := fun h => h.1 h14
       have hN2 := hN hb
       rw [if_neg hb] at hT
       rw [hW] at hT hN2
       exact ⟨by omega, I3.2.1.trans hT, hN2⟩
      ·
       ((try dsimp only); omega)
    ·
     (try simp only [beq_iff_eq, beq_eq_false_iff_ne, ne_eq] at h14)
     refine .br [.r []] ((((d.getD i default)).kind) == 1) (fun h16 => ?_) (fun h16 => ?_)
     ·
      (try simp only [beq_iff_eq, beq_eq_false_iff_ne, ne_eq] at h16)
      have hz : True := trivial
      refine .back [.r [(2, X (Xc3 442 [(0, 16), (1, 24), (2, 25)] (fc_dElems o x y (((d.getD i default)).elems) (by assumption) (by omega)) X0))], .r [(0, X (Xn ((i : Int) + 1)))]] [(16, 16), (24, 24), (25, 25)] (ih3 ((i + 1), y, o, (x ++ (((d.getD i default)).elems))) ?_ ?_)
      ·
       have hW : tdW ⟨o, x, y⟩ (d.getD i default) = ⟨o, x ++ (d.getD i default).elems, y⟩ := by unfold tdW; rw [if_neg h14, if_pos h16]
       have hb : ¬ tdBad ⟨o, x, y⟩ (d.getD i default) := fun h => h.2.1 h16
       have hN2 := hN hb
       rw [if_neg hb] at hT
       rw [hW] at hT hN2
       exact ⟨by omega, I3.2.1.trans hT, hN2⟩
      ·
       ((try dsimp only); omega)
     ·
      (try simp only [beq_iff_eq, beq_eq_false_iff_ne, ne_eq] at h16)
      refine .br [.r [(4, X (Xn (y + (((d.getD i default)).n))))], .r []] (decide ((y + (((d.getD i default)).n)) > 2147483647)) (fun h12 => ?_) (fun h12 => ?_)
      ·
       (try simp only [decide_eq_true_eq, decide_eq_false_iff_not, Int.not_lt, Int.not_le, gt_iff_lt] at h12)
       refine .at 506 [(16, 16), (24, 24), (25, 25)] ([(4, .ptr 16 0), (8, VL 4 dstepT d), (9, VI (d.length : Int)), (10, VI (i : Int)), (59, VB (decide ((y + (((d.getD i default)).n)) > 2147483647)))], [(16, .box [.row 24 o.length, .row 25 x.length, VI (y + (((d.getD i default)).n))]), (24, OR 4 dstepT o), (25, OR 3 elemT x)]) ?_
       have e3 : ((tidyL d) : List DStep) = [] := by
        unfold tidyL
        rw [I3.2.1, hT, if_pos ⟨h14, h16, by simp only; omega⟩]
       have e4 : ((tidyE d) : Int) = 3 := by
        unfold tidyE
        rw [I3.2.1, hT, if_pos ⟨h14, h16, by simp only; omega⟩]
       exact .finE [.r [], .le (.nL 2 4)] [] (fun (z0, z1) => (.tup [VL 4 dstepT z0, VI z1], [])) (([] : List DStep), (3 : Int)) (((tidyL d) : List DStep), ((tidyE d) : Int)) (pr e3 e4)
      ·
       (try simp only [decide_eq_true_eq, decide_eq_false_iff_not, Int.not_lt, Int.not_le, gt_iff_lt] at h12)
       refine .at 506 [(16, 16), (24, 24), (25, 25)] ([(4, .ptr 16 0), (8, VL 4 dstepT d), (9, VI (d.length : Int)), (10, VI (i : Int)), (59, VB (decide ((y + (((d.getD i default)).n)) > 2147483647)))], [(16, .box [.row 24 o.length, .row 25 x.length, VI (y + (((d.getD i default)).n))]), (24, OR 4 dstepT o), (25, OR 3 elemT x)]) ?_
       refine .back [.r [(0, X (Xn ((i : Int) + 1)))]] [(16, 16), (24, 24), (25, 25)] (ih3 ((i + 1), (y + (((d.getD i default)).n)), o, x) ?_ ?_)
       ·
        have hW : tdW ⟨o, x, y⟩ (d.getD i default) = ⟨o, x, y + (d.getD i default).n⟩ := by unfold tdW; rw [if_neg h14, if_neg h16]
        have hb : ¬ tdBad ⟨o, x, y⟩ (d.getD i default) := fun h => by have := h.2.2; simp only at this; omega
        have hN2 := hN hb
        rw [if_neg hb] at hT
        rw [hW] at hT hN2
        exact ⟨by omega, I3.2.1.trans hT, hN2⟩
       ·
        ((try dsimp only); omega)
  ·
   (try simp only [Bool.and_eq_true, Bool.and_eq_false_iff, Bool.not_eq_true', Bool.not_eq_false', Bool.or_eq_true, Bool.or_eq_false_iff, beq_iff_eq, beq_eq_false_iff_ne, ne_eq, bne_iff_ne, bne_eq_false_iff_eq] at h6)
   have hL : lenE (d.getD i default) = (stepD ((d.getD i default))) := by unfold lenE; first | rw [if_pos (by omega)] | rw [if_neg (by omega)]
   refine .br [.r []] ((stepD ((d.getD i default))) != 0) (fun h8 => ?_) (fun h8 => ?_)
   ·
    (try simp only [bne_iff_ne, bne_eq_false_iff_eq, ne_eq] at h8)
    have e5 : ((tidyL d) : List DStep) = [] := by
     unfold tidyL
     rw [I3.2.1, hT, if_pos (by rw [hL]; exact h8)]
    have e6 : ((tidyE d) : Int) = (stepD ((d.getD i default))) := by
     unfold tidyE
     rw [I3.2.1, hT, if_pos (by rw [hL]; exact h8)]
     exact hL
    exact .finE [.r [], .le (.nL 2 4)] [] (fun (z0, z1) => (.tup [VL 4 dstepT z0, VI z1], [])) (([] : List DStep), ((stepD ((d.getD i default))) : Int)) (((tidyL d) : List DStep), ((tidyE d) : Int)) (pr e5 e6)
   ·
    (try simp only [bne_iff_ne, bne_eq_false_iff_eq, ne_eq] at h8)
    have hL0 : lenE (d.getD i default) = 0 := by rw [hL]; omega
    rw [if_neg (by rw [hL0]; decide)] at hT
    obtain ⟨hk, hn1, hn2⟩ := lenE_ok hL0
    have hN := I3.2.2.next (by omega) hd hL0
    clear h6
    refine .br [.r [], .r []] ((((d.getD i default)).kind) == 0) (fun h14 => ?_) (fun h14 => ?_)
    ·
     (try simp only [beq_iff_eq, beq_eq_false_iff_ne, ne_eq] at h14)
     by_cases hn0 : (d.getD i default).n = 0
     ·
      refine .back [.r [(4, X (Xc3 410 [(0, 16), (1, 24), (2, 25)] (fc_dKeep0 o x y (((d.getD i default)).n) (((d.getD i default)).attrs) (by assumption)) X0))], .r [(0, X (Xn ((i : Int) + 1)))]] [(16, 16), (24, 24), (25, 25)] (ih3 ((i + 1), y, o, x) ?_ ?_)
      ·
       have hW : tdW ⟨o, x, y⟩ (d.getD i default) = ⟨o, x, y⟩ := by unfold tdW; rw [if_pos h14, if_pos hn0]
       have hb : ¬ tdBad ⟨o, x, y⟩ (d.getD i default) := fun h => h.1 h14
       have hN2 := hN hb
       rw [if_neg hb] at hT
       rw [hW] at hT hN2
       exact ⟨by omega, I3.2.1.trans hT, hN2⟩
      ·
       ((try dsimp only); omega)
     ·
      refine .back [.r [(4, X (Xc3 410 [(0, 16), (1, 24), (2, 25)] (fc_dKeep o x y (((d.getD i default)).n) (((d.getD i default)).attrs) (by omega) (by first | omega | simp) (by omega) (by first | assumption | exact kbd (by assumption))) X0))], .r [(0, X (Xn ((i : Int) + 1)))]] [(16, 16), (24, 24), (410, 25)] (ih3 ((i + 1), 0, (keepD (flushD ⟨o, x, y⟩) (((d.getD i default)).n) (((d.getD i default)).attrs)), []) ?_ ?_)
      ·
       have hW : tdW ⟨o, x, y⟩ (d.getD i default) = ⟨keepD (flushD ⟨o, x, y⟩) (d.getD i default).n (d.getD i default).attrs, [], 0⟩ := by unfold tdW; rw [if_pos h14, if_neg hn0]
       have hb : ¬ tdBad ⟨o, x, y⟩ (d.getD i default) := fun h => h.1 h14
       have hN2 := hN hb
       rw [if_neg hb] at hT
       rw [hW] at hT hN2
       exact ⟨by omega, I3.2.1.trans hT, hN2⟩
      ·
       ((try dsimp only); omega)
    ·
     (try simp only [beq_iff_eq, beq_eq_false_iff_ne, ne_eq] at h14)
     refine .br [.r []] ((((d.getD i default)).kind) == 1) (fun h16 => ?_) (fun h16 => ?_)
     ·
      (try simp only [beq_iff_eq, beq_eq_false_iff_ne, ne_eq] at h16)
      have hz : True := trivial
      refine .back [.r [(2, X (Xc3 410 [(0, 16), (1, 24), (2, 25)] (fc_dElems o x y (((d.getD i default)).elems) (by assumption) (by omega)) X0))], .r [(0, X (Xn ((i : Int) + 1)))]] [(16, 16), (24, 24), (25, 25)] (ih3 ((i + 1), y, o, (x ++ (((d.getD i default)).elems))) ?_ ?_)
      ·
       have hW : tdW ⟨o, x, y⟩ (d.getD i default) = ⟨o, x ++ (d.getD i default).elems, y⟩ := by unfold tdW; rw [if_neg h14, if_pos h16]
       have hb : ¬ tdBad ⟨o, x, y⟩ (d.getD i default) := fun h => h.2.1 h16
       have hN2 := hN hb
       rw [if_neg hb] at hT
       rw [hW] at hT hN2
       exact ⟨by omega, I3.2.1.trans hT, hN2⟩
      ·
       ((try dsimp only); omega)
     ·
      (try simp only [beq_iff_eq, beq_eq_false_iff_ne, ne_eq] at h16)
      refine .br [.r [(4, X (Xn (y + (((d.getD i default)).n))))], .r []] (decide ((y + (((d.getD i default)).n)) > 2147483647)) (fun h12 => ?_) (fun h12 => ?_)
      ·
       (try simp only [decide_eq_true_eq, decide_eq_false_iff_not, Int.not_lt, Int.not_le, gt_iff_lt] at h12)
       refine .at 474 [(16, 16), (24, 24), (25, 25)] ([(4, .ptr 16 0), (8, VL 4 dstepT d), (9, VI (d.length : Int)), (10, VI (i : Int)), (59, VB (decide ((y + (((d.getD i default)).n)) > 2147483647)))], [(16, .box [.row 24 o.length, .row 25 x.length, VI (y + (((d.getD i default)).n))]), (24, OR 4 dstepT o), (25, OR 3 elemT x)]) ?_
       have e7 : ((tidyL d) : List DStep) = [] := by
        unfold tidyL
        rw [I3.2.1, hT, if_pos ⟨h14, h16, by simp only; omega⟩]
       have e8 : ((tidyE d) : Int) = 3 := by
        unfold tidyE
        rw [I3.2.1, hT, if_pos ⟨h14, h16, by simp only; omega⟩]
       exact .finE [.r [], .le (.nL 2 4)] [] (fun (z0, z1) => (.tup [VL 4 dstepT z0, VI z1], [])) (([] : List DStep), (3 : Int)) (((tidyL d) : List DStep), ((tidyE d) : Int)) (pr e7 e8)
      ·
       (try simp only [decide_eq_true_eq, decide_eq_false_iff_not, Int.not_lt, Int.not_le, gt_iff_lt] at h12)
       refine .at 474 [(16, 16), (24, 24), (25, 25)] ([(4, .ptr 16 0), (8, VL 4 dstepT d), (9, VI (d.length : Int)), (10, VI (i : Int)), (59, VB (decide ((y + (((d.getD i default)).n)) > 2147483647)))], [(16, .box [.row 24 o.length, .row 25 x.length, VI (y + (((d.getD i default)).n))]), (24, OR 4 dstepT o), (25, OR 3 elemT x)]) ?_
       refine .back [.r [(0, X (Xn ((i : Int) + 1)))]] [(16, 16), (24, 24), (25, 25)] (ih3 ((i + 1), (y + (((d.getD i default)).n)), o, x) ?_ ?_)
       ·
        have hW : tdW ⟨o, x, y⟩ (d.getD i default) = ⟨o, x, y + (d.getD i default).n⟩ := by unfold tdW; rw [if_neg h14, if_neg h16]
        have hb : ¬ tdBad ⟨o, x, y⟩ (d.getD i default) := fun h => by have := h.2.2; simp only at this; omega
        have hN2 := hN hb
        rw [if_neg hb] at hT
        rw [hW] at hT hN2
        exact ⟨by omega, I3.2.1.trans hT, hN2⟩
       ·
        ((try dsimp only); omega)
 ·
  (try simp only [decide_eq_true_eq, decide_eq_false_iff_not, Int.not_lt, Int.not_le] at h3)
  by_cases hck : checkD (flushD ⟨o, x, y⟩) = 0
  ·
   have hTe := tidyG_end (d := d) (i := i) (by omega) ⟨o, x, y⟩
   obtain ⟨f1, f2⟩ := I3.2.2.flush (by omega) (by omega) (by rw [List.take_of_length_le (by omega)]; omega)
   have e9 : ((tidyL d) : List DStep) = (flushD ⟨o, x, y⟩) := by
    unfold tidyL
    rw [I3.2.1, hTe, if_pos hck]
   have e10 : ((tidyE d) : Int) = 0 := by
    unfold tidyE
    rw [I3.2.1, hTe, if_pos hck]
   exact .finE [.r [(0, X (Xc3 58 [(0, 16), (1, 24), (2, 25)] (fc_dDone o x y (by omega) (by assumption) (by assumption)) X0))], .le (.fr 2 [(((flushD ⟨o, x, y⟩).length) : Nat) = (List.map dstepT (flushD ⟨o, x, y⟩)).length] ⟨lm, trivial⟩)] [] (fun (z0, z1) => (.tup [VL 4 dstepT z0, VI z1], [])) (((flushD ⟨o, x, y⟩) : List DStep), (0 : Int)) (((tidyL d) : List DStep), ((tidyE d) : Int)) (pr e9 e10)
  ·
   have hTe := tidyG_end (d := d) (i := i) (by omega) ⟨o, x, y⟩
   obtain ⟨f1, f2⟩ := I3.2.2.flush (by omega) (by omega) (by rw [List.take_of_length_le (by omega)]; omega)
   have e11 : ((tidyL d) : List DStep) = [] := by
    unfold tidyL
    rw [I3.2.1, hTe, if_neg hck]
   have e12 : ((tidyE d) : Int) = 3 := by
    unfold tidyE
    rw [I3.2.1, hTe, if_neg hck]
   exact .finE [.r [(0, X (Xc3 58 [(0, 16), (1, 24), (2, 25)] (fc_dDoneE o x y (by omega) (by assumption) (by assumption)) X0))]] [] (fun (z0, z1) => (.tup [VL 4 dstepT z0, VI z1], [])) (([] : List DStep), (3 : Int)) (((tidyL d) : List DStep), ((tidyE d) : Int)) (pr e11 e12)
end Go.Ch
end
section
set_option linter.unusedVariables false
set_option linter.unusedSimpArgs false
set_option maxRecDepth 100000
set_option maxHeartbeats 4000000
open Go Go.Proofs Go.Ab
namespace Go.Ch
theorem fc_deltas  : FC Try.prog 46 [] (app emp []) (VB true) (app emp []) := by
 refine .go Try.f46 ?_
 obtain ⟨p1, p2, p3, p4⟩ := probe_facts
 have p5 := probe_dn
 have p6 := ltr_an { data := #[97, 98] } 400000000000
 unfold probeD at *
 have e1 : ((true && (sameF (rawD (lettersL ({ data := #[97, 98] })) [({ kind := 1, n := 0, attrs := [], elems := (lettersL ({ data := #[120] })) } : DStep), ({ kind := 2, n := 1, attrs := [], elems := [] } : DStep), ({ kind := 0, n := 1, attrs := [], elems := [] } : DStep)]) (lettersL ({ data := #[120, 98] })))) : Bool) = true := by
  rw [p4]; simp
 exact .finE [.r [], .r [(0, X (Xc1 8 (fc_letters ({ data := #[97, 98] }) (by decide)) X0)), (1, X (Xc1 16 (fc_letters ({ data := #[120] }) (by decide)) X0)), (2, X (Xf [(2, 2)])), (3, X (Xf [(2, 2), (3, 3)])), (4, X (Xf [(2, 2), (3, 3)])), (6, X (Xc1 56 (fc_dApply (lettersL ({ data := #[97, 98] })) [({ kind := 1, n := 0, attrs := [], elems := (lettersL ({ data := #[120] })) } : DStep), ({ kind := 2, n := 1, attrs := [], elems := [] } : DStep), ({ kind := 0, n := 1, attrs := [], elems := [] } : DStep)] (by assumption) (by assumption) (by assumption) (by assumption) (by omega)) (rowC dstepT [({ kind := 1, n := 0, attrs := [], elems := (lettersL ({ data := #[120] })) } : DStep), ({ kind := 2, n := 1, attrs := [], elems := [] } : DStep), ({ kind := 0, n := 1, attrs := [], elems := [] } : DStep)] X0)))], .r [(4, Xg true (Xc1 136 (fc_letters ({ data := #[120, 98] }) (by decide)) X0)), (5, Xv 2 true (Xc0 (fc_sameFlow (rawD (lettersL ({ data := #[97, 98] })) [({ kind := 1, n := 0, attrs := [], elems := (lettersL ({ data := #[120] })) } : DStep), ({ kind := 2, n := 1, attrs := [], elems := [] } : DStep), ({ kind := 0, n := 1, attrs := [], elems := [] } : DStep)]) (lettersL ({ data := #[120, 98] }))) X0)), (6, X (Xk true))]] [] (fun z0 => (VB z0, [])) ((true && (sameF (rawD (lettersL ({ data := #[97, 98] })) [({ kind := 1, n := 0, attrs := [], elems := (lettersL ({ data := #[120] })) } : DStep), ({ kind := 2, n := 1, attrs := [], elems := [] } : DStep), ({ kind := 0, n := 1, attrs := [], elems := [] } : DStep)]) (lettersL ({ data := #[120, 98] })))) : Bool) (true : Bool) e1.symm

end Go.Ch
end
section
set_option linter.unusedVariables false
set_option linter.unusedSimpArgs false
set_option maxRecDepth 100000
set_option maxHeartbeats 4000000
open Go Go.Proofs Go.Ab
namespace Go.Ch
end Go.Ch
end
section
set_option linter.unusedVariables false
set_option linter.unusedSimpArgs false
set_option maxRecDepth 100000
set_option maxHeartbeats 4000000
open Go Go.Proofs Go.Ab
namespace Go.Ch
theorem fc_put1 (l : List Attr) (a : Attr) (hn : l.length ≤ 400000000000) : FC Try.prog 156 [VL 2 attrT l, .t (attrT a)] (app emp []) (VL 2 attrT (putA a l false)) (app emp []) := by
 refine .go Try.f156 ?_
 refine .len 0 (fun hl0 => ?_)
 refine .loop (α := Bool × Nat × (List Attr)) [.r [], .r [], .r [], .r [(1, X (Xl attrT l))], .le (.nR 5 2)] 57 (fun (b, i, o) => ([(0, VL 2 attrT l), (3, .ptr 0 0), (5, .row 56 o.length), (6, VB b), (9, VI (l.length : Int)), (10, VI (i : Int))], [(0, .box [VS a.name, VS a.val]), (56, OR 2 attrT o)])) (fun (b, i, o) => i ≤ l.length ∧ o ++ putA a (l.drop i) b = putA a l false ∧ o.length ≤ 2 * i) (fun (b, i, o) => l.length - i) (false, 0, []) ?_ ?_
 ·
  exact ⟨by omega, rfl, by simp⟩
 rintro ⟨b, i, o⟩ I4 ih4
 try dsimp only at I4
 refine .br [.r []] (decide ((i : Int) < (l.length : Int))) (fun h4 => ?_) (fun h4 => ?_)
 ·
  (try simp only [decide_eq_true_eq, decide_eq_false_iff_not, Int.not_lt, Int.not_le] at h4)
  have hP := (putA_step (l := l) (i := i) (by omega) a b o).symm.trans I4.2.1
  refine .br [.r [], .r [(5, Xv 2 (!b) (Xi attrT l (i : Int))), (6, Xv 1 (!b) X0), (7, Xv 1 (!b) X0), (9, Xv 1 (!b) X0), (10, Xv 2 (!b) X0), (11, X (Xk (!b)))]] (!b && !(slt (((l.getD i default)).name) a.name)) (fun h6 => ?_) (fun h6 => ?_)
  ·
   (try simp only [Bool.not_eq_true', Bool.not_eq_false', Bool.and_eq_true, Bool.and_eq_false_iff] at h6)
   first
   | (rw [if_pos h6, h6.1, h6.2] at hP)
   | (have hb : (b || !(slt (l.getD i default).name a.name)) = b := by rcases h6 with h | h <;> simp [-List.getD_eq_getElem?_getD, h]
      rw [if_neg (by rintro ⟨x, y⟩; rcases h6 with h | h; (rw [x] at h; cases h); (rw [y] at h; cases h)), hb] at hP)
   refine .br [.r [(3, X (rowC attrT [a] (Xap 2 attrT 56 o [a])))], .r [], .r [(2, X (Xi attrT l (i : Int)))]] (!(seq (((l.getD i default)).name) a.name)) (fun h9 => ?_) (fun h9 => ?_)
   ·
    (try simp only [Bool.not_eq_true', Bool.not_eq_false'] at h9)
    refine .back [.r [(3, X (Xi attrT l (i : Int))), (6, X (rowC attrT [((l.getD i default))] (Xap 2 attrT 56 (o ++ [a]) [((l.getD i default))])))], .r [(0, X (Xn ((i : Int) + 1)))]] [(0, 0), (56, 56)] (ih4 (true, (i + 1), ((o ++ [a]) ++ [((l.getD i default))])) ?_ ?_)
    ·
     first | rw [if_pos h9] at hP | rw [if_neg (by rw [h9]; decide)] at hP
     refine ⟨by omega, ?_, by (try simp only [List.length_append, List.length_cons, List.length_nil]); omega⟩
     first | exact hP | (rw [← hP]; simp)
    ·
     ((try dsimp only); omega)
   ·
    (try simp only [Bool.not_eq_true', Bool.not_eq_false'] at h9)
    refine .back [.r [(0, X (Xn ((i : Int) + 1)))]] [(0, 0), (56, 56)] (ih4 (true, (i + 1), (o ++ [a])) ?_ ?_)
    ·
     first | rw [if_pos h9] at hP | rw [if_neg (by rw [h9]; decide)] at hP
     refine ⟨by omega, ?_, by (try simp only [List.length_append, List.length_cons, List.length_nil]); omega⟩
     first | exact hP | (rw [← hP]; simp)
    ·
     ((try dsimp only); omega)
  ·
   (try simp only [Bool.not_eq_true', Bool.not_eq_false', Bool.and_eq_true, Bool.and_eq_false_iff] at h6)
   first
   | (rw [if_pos h6, h6.1, h6.2] at hP)
   | (have hb : (b || !(slt (l.getD i default).name a.name)) = b := by rcases h6 with h | h <;> simp [-List.getD_eq_getElem?_getD, h]
      rw [if_neg (by rintro ⟨x, y⟩; rcases h6 with h | h; (rw [x] at h; cases h); (rw [y] at h; cases h)), hb] at hP)
   refine .br [.r [(2, X (Xi attrT l (i : Int)))]] (!(seq (((l.getD i default)).name) a.name)) (fun h9 => ?_) (fun h9 => ?_)
   ·
    (try simp only [Bool.not_eq_true', Bool.not_eq_false'] at h9)
    refine .back [.r [(3, X (Xi attrT l (i : Int))), (6, X (rowC attrT [((l.getD i default))] (Xap 2 attrT 56 o [((l.getD i default))])))], .r [(0, X (Xn ((i : Int) + 1)))]] [(0, 0), (56, 56)] (ih4 (b, (i + 1), (o ++ [((l.getD i default))])) ?_ ?_)
    ·
     first | rw [if_pos h9] at hP | rw [if_neg (by rw [h9]; decide)] at hP
     refine ⟨by omega, ?_, by (try simp only [List.length_append, List.length_cons, List.length_nil]); omega⟩
     first | exact hP | (rw [← hP]; simp)
    ·
     ((try dsimp only); omega)
   ·
    (try simp only [Bool.not_eq_true', Bool.not_eq_false'] at h9)
    refine .back [.r [(0, X (Xn ((i : Int) + 1)))]] [(0, 0), (56, 56)] (ih4 (b, (i + 1), o) ?_ ?_)
    ·
     first | rw [if_pos h9] at hP | rw [if_neg (by rw [h9]; decide)] at hP
     refine ⟨by omega, ?_, by (try simp only [List.length_append, List.length_cons, List.length_nil]); omega⟩
     first | exact hP | (rw [← hP]; simp)
    ·
     ((try dsimp only); omega)
 ·
  (try simp only [decide_eq_true_eq, decide_eq_false_iff_not, Int.not_lt, Int.not_le] at h4)
  have hP := I4.2.1
  rw [List.drop_eq_nil_of_le (by omega)] at hP
  have hol := I4.2.2
  refine .br [.r []] (!b) (fun h12 => ?_) (fun h12 => ?_)
  ·
   (try simp only [Bool.not_eq_true', Bool.not_eq_false'] at h12)
   have e1 : ((putA a l false) : List Attr) = (o ++ [a]) := by
    rw [← hP, h12]; simp [putA]
   exact .finE [.r [(3, X (rowC attrT [a] (Xap 2 attrT 56 o [a])))], .r [], .le (.fr 4 [(((o ++ [a]).length) : Nat) = (List.map attrT (o ++ [a])).length] ⟨lm, trivial⟩)] [] (fun z0 => (VL 2 attrT z0, [])) ((o ++ [a]) : List Attr) ((putA a l false) : List Attr) e1
  ·
   (try simp only [Bool.not_eq_true', Bool.not_eq_false'] at h12)
   have e2 : ((putA a l false) : List Attr) = o := by
    rw [← hP, h12]; simp [putA]
   exact .finE [.r [], .le (.fr 4 [(o.length : Nat) = (List.map attrT o).length] ⟨lm, trivial⟩)] [] (fun z0 => (VL 2 attrT z0, [])) (o : List Attr) ((putA a l false) : List Attr) e2

theorem fc_changedR (l c : List Attr) (hn : l.length ≤ 100000000000) (hc : c.length ≤ 100000000000) : FC Try.prog 147 [VL 2 attrT l, VL 2 attrT c] (app emp []) (VL 2 attrT (changedR l c)) (app emp []) := by
 refine .go Try.f147 ?_
 refine .len 0 (fun hl0 => ?_)
 refine .len 1 (fun hl1 => ?_)
 refine .loop (α := (List Attr) × Nat) [.r [], .r [], .r [(1, X (Xl attrT l))], .le (.nL 5 2)] 40 (fun (o, i) => ([(0, VL 2 attrT l), (1, VL 2 attrT c), (5, VL 2 attrT o), (11, VI (l.length : Int)), (12, VI (i : Int))], [])) (fun (o, i) => i ≤ l.length ∧ o = putsA [] (l.take i)) (fun (o, i) => l.length - i) ([], 0) ?_ ?_
 ·
  exact ⟨by omega, rfl⟩
 rintro ⟨o, i⟩ I3 ih3
 try dsimp only at I3
 have ol : o.length ≤ 100000000000 := by rw [I3.2]; have := putsA_len (l.take i) []; simp only [List.length_take, List.length_nil] at this; omega
 refine .br [.r []] (decide ((i : Int) < (l.length : Int))) (fun h3 => ?_) (fun h3 => ?_)
 ·
  (try simp only [decide_eq_true_eq, decide_eq_false_iff_not, Int.not_lt, Int.not_le] at h3)
  refine .back [.r [], .r [(3, X (Xi attrT l (i : Int))), (5, X (Xc1 104 (fc_put1 o ((l.getD i default)) (by omega)) X0))], .r [(0, X (Xn ((i : Int) + 1)))]] [] (ih3 ((putA ((l.getD i default)) o false), (i + 1)) ?_ ?_)
  ·
   refine ⟨by omega, ?_⟩
   rw [takeA (by omega), putsA_snoc, ← I3.2]
  ·
   ((try dsimp only); omega)
 ·
  (try simp only [decide_eq_true_eq, decide_eq_false_iff_not, Int.not_lt, Int.not_le] at h3)
  refine .loop (α := (List Attr) × Nat) [.r [(1, X (Xl attrT c))]] 72 (fun (p, j) => ([(1, VL 2 attrT c), (5, VL 2 attrT p), (23, VI (c.length : Int)), (24, VI (j : Int))], [])) (fun (p, j) => j ≤ c.length ∧ p = putsA (putsA [] l) (c.take j)) (fun (p, j) => c.length - j) (o, 0) ?_ ?_
  ·
   exact ⟨by omega, by rw [I3.2, List.take_of_length_le (by omega)]; rfl⟩
  rintro ⟨p, j⟩ I8 ih8
  try dsimp only at I8
  have pl : p.length ≤ 200000000000 := by rw [I8.2]; have h1 := putsA_len (c.take j) (putsA [] l); have h2 := putsA_len l []; simp only [List.length_take, List.length_nil] at h1 h2; omega
  refine .br [.r []] (decide ((j : Int) < (c.length : Int))) (fun h8 => ?_) (fun h8 => ?_)
  ·
   (try simp only [decide_eq_true_eq, decide_eq_false_iff_not, Int.not_lt, Int.not_le] at h8)
   refine .back [.r [], .r [(3, X (Xi attrT c (j : Int))), (5, X (Xc1 136 (fc_put1 p ((c.getD j default)) (by omega)) X0))], .r [(0, X (Xn ((j : Int) + 1)))]] [] (ih8 ((putA ((c.getD j default)) p false), (j + 1)) ?_ ?_)
   ·
    refine ⟨by omega, ?_⟩
    rw [takeA (by omega), putsA_snoc, ← I8.2]
   ·
    ((try dsimp only); omega)
  ·
   (try simp only [decide_eq_true_eq, decide_eq_false_iff_not, Int.not_lt, Int.not_le] at h8)
   refine .loop (α := Nat × (List Attr)) [.r [], .r [(1, X (Xl attrT p))], .le (.nR 8 2)] 113 (fun (k, r) => ([(5, VL 2 attrT p), (8, .row 112 r.length), (35, VI (p.length : Int)), (36, VI (k : Int))], [(112, OR 2 attrT r)])) (fun (k, r) => k ≤ p.length ∧ r = fullA (p.take k)) (fun (k, r) => p.length - k) (0, []) ?_ ?_
   ·
    exact ⟨by omega, rfl⟩
   rintro ⟨k, r⟩ I14 ih14
   try dsimp only at I14
   have rl : r.length ≤ p.length := by rw [I14.2]; have := fullA_len (p.take k); rw [List.length_take] at this; omega
   refine .br [.r []] (decide ((k : Int) < (p.length : Int))) (fun h14 => ?_) (fun h14 => ?_)
   ·
    (try simp only [decide_eq_true_eq, decide_eq_false_iff_not, Int.not_lt, Int.not_le] at h14)
    refine .br [.r [], .r [(2, X (Xi attrT p (k : Int)))]] (!(seq (((p.getD k default)).val) ({ data := #[] }))) (fun h16 => ?_) (fun h16 => ?_)
    ·
     (try simp only [Bool.not_eq_true', Bool.not_eq_false'] at h16)
     refine .back [.r [(3, X (Xi attrT p (k : Int))), (6, X (rowC attrT [((p.getD k default))] (Xap 2 attrT 112 r [((p.getD k default))])))], .r [(0, X (Xn ((k : Int) + 1)))]] [(112, 112)] (ih14 ((k + 1), (r ++ [((p.getD k default))])) ?_ ?_)
     ·
      refine ⟨by omega, ?_⟩
      rw [takeA (by omega), fullA_snoc, ← I14.2]
      first | rw [if_pos h16, List.append_nil] | rw [if_neg (by rw [h16]; decide)]
     ·
      ((try dsimp only); omega)
    ·
     (try simp only [Bool.not_eq_true', Bool.not_eq_false'] at h16)
     refine .back [.r [(0, X (Xn ((k : Int) + 1)))]] [(112, 112)] (ih14 ((k + 1), r) ?_ ?_)
     ·
      refine ⟨by omega, ?_⟩
      rw [takeA (by omega), fullA_snoc, ← I14.2]
      first | rw [if_pos h16, List.append_nil] | rw [if_neg (by rw [h16]; decide)]
     ·
      ((try dsimp only); omega)
   ·
    (try simp only [decide_eq_true_eq, decide_eq_false_iff_not, Int.not_lt, Int.not_le] at h14)
    have e1 : ((changedR l c) : List Attr) = r := by
     rw [I14.2, List.take_of_length_le (by omega), I8.2, List.take_of_length_le (by omega)]; rfl
    exact .finE [.r [], .le (.fr 4 [(r.length : Nat) = (List.map attrT r).length] ⟨lm, trivial⟩)] [] (fun z0 => (VL 2 attrT z0, [])) (r : List Attr) ((changedR l c) : List Attr) e1
end Go.Ch
end
section
set_option linter.unusedVariables false
set_option linter.unusedSimpArgs false
set_option maxRecDepth 100000
set_option maxHeartbeats 4000000
open Go Go.Proofs Go.Ab
namespace Go.Ch
theorem fc_actOf (d : List DStep) (hv : DValid d) (hd : DN 100000000000 d) : FC Try.prog 124 [VL 4 dstepT d] (app emp []) (.agg [.row 1 ((actOfL d).ins.length), .row 2 ((actOfL d).cut.length), .row 3 ((actOfL d).set.length)]) (app emp [(0, .box [.row 1 ((actOfL d).ins.length), .row 2 ((actOfL d).cut.length), .row 3 ((actOfL d).set.length)]), (1, OR 1 elemsT ((actOfL d).ins)), (2, OR 1 boolT ((actOfL d).cut)), (3, OR 1 attrsT ((actOfL d).set))]) := by
 refine .go Try.f124 ?_
 refine .len 0 (fun hl0 => ?_)
 have hv1 := hv.2.1
 have hv2 := hv.2.2
 refine .loop (α := Nat × (List (List Elem)) × (List Bool) × (List (List Attr))) [.r [], .r [(0, X (Xf [(0, 3)]))], .le (.nB 24 1 1), .le (.nB 24 2 1), .r [(1, X (Xl dstepT d))]] 66 (fun (i, I, C, S) => ([(0, VL 4 dstepT d), (2, .ptr 0 0), (3, .ptr 24 0), (10, VI (d.length : Int)), (11, VI (i : Int))], [(0, .box [VN, VN, VN]), (8, OR 1 elemsT I), (24, .box [.row 8 I.length, .row 40 C.length, .row 41 S.length]), (40, OR 1 boolT C), (41, OR 1 attrsT S)])) (fun (i, I, C, S) => i ≤ d.length ∧ AIv d i ⟨I, C, S⟩) (fun (i, I, C, S) => d.length - i) (0, [[]], [], []) ?_ ?_
 ·
  exact ⟨by omega, AIv.start⟩
 rintro ⟨i, I, C, S⟩ I3 ih3
 try dsimp only at I3
 have hl1 := I3.2.len
 have hl2 := I3.2.fit
 have hla := I3.2.last
 unfold ActFit at hl2
 simp only at hl1 hl2 hla
 refine .br [.r []] (decide ((i : Int) < (d.length : Int))) (fun h3 => ?_) (fun h3 => ?_)
 ·
  (try simp only [decide_eq_true_eq, decide_eq_false_iff_not, Int.not_lt, Int.not_le] at h3)
  have hN := I3.2.next hv (by omega)
  unfold actS at hN
  obtain ⟨s1, s2, s3, s4, s5, s6, s7, s8⟩ := dlens_step (l := d) (i := i) (by omega) hv.1
  obtain ⟨hx, hx2, hx3⟩ := hd.at_ (k := i) (by omega)
  refine .br [.r [], .r [(2, X (Xi dstepT d (i : Int)))], .r []] ((((d.getD i default)).kind) == 1) (fun h6 => ?_) (fun h6 => ?_)
  ·
   (try simp only [beq_iff_eq, beq_eq_false_iff_ne, ne_eq] at h6)
   rw [if_pos h6] at hN
   refine .back [.r [(3, X (Xn ((I.length : Int) - 1)))], .r [(7, X (Xp' elemsT 8 I ((I.length : Int) - 1) (I.length - 1))), (8, X (Xe elemsT I (I.length - 1))), (9, X (Xap 3 elemT 226 [] (I.getD (I.length - 1) default)) (by simp only [List.length_nil, Nat.zero_add]; omega)), (12, X (Xap 3 elemT 226 ([] ++ (I.getD (I.length - 1) default)) (((d.getD i default)).elems)) (by simp only [List.length_append, List.length_nil, Nat.zero_add]; omega)), (13, X (Xp' elemsT 8 I ((I.length : Int) - 1) (I.length - 1))), (14, X (rowC elemT (([] ++ (I.getD (I.length - 1) default)) ++ (((d.getD i default)).elems)) (Xs 1 elemsT 8 I (I.length - 1) (([] ++ (I.getD (I.length - 1) default)) ++ (((d.getD i default)).elems)) [(226, OF 3 elemT (([] ++ (I.getD (I.length - 1) default)) ++ (((d.getD i default)).elems)))])))], .r [(0, X (Xn ((i : Int) + 1)))], .le (.eb 24 0 (.row 8 I.length) (.row 8 ((I.set (I.length - 1) (([] ++ (I.getD (I.length - 1) default)) ++ (((d.getD i default)).elems))).length)) (by simp only [List.length_set]))] [(0, 0), (8, 8), (24, 24), (40, 40), (41, 41)] (ih3 ((i + 1), (I.set (I.length - 1) (([] ++ (I.getD (I.length - 1) default)) ++ (((d.getD i default)).elems))), C, S) ?_ ?_)
   ·
    exact ⟨by omega, hN⟩
   ·
    ((try dsimp only); omega)
  ·
   (try simp only [beq_iff_eq, beq_eq_false_iff_ne, ne_eq] at h6)
   rw [if_neg h6] at hN s1
   refine .loop (α := Nat × (List (List Elem)) × (List Bool) × (List (List Attr))) [.r []] 186 (fun (j, I2, C2, S2) => ([(0, VL 4 dstepT d), (2, .ptr 0 0), (3, .ptr 24 0), (5, .ptr 122 0), (10, VI (d.length : Int)), (11, VI (i : Int)), (40, VI (((d.getD i default)).n)), (41, VI (j : Int))], [(0, .box [VN, VN, VN]), (8, OR 1 elemsT I2), (24, .box [.row 8 I2.length, .row 40 C2.length, .row 41 S2.length]), (40, OR 1 boolT C2), (41, OR 1 attrsT S2), (122, .box [VI (((d.getD i default)).kind), VI (((d.getD i default)).n), VL 2 attrT (((d.getD i default)).attrs), VL 3 elemT (((d.getD i default)).elems)])])) (fun (j, I2, C2, S2) => (j : Int) ≤ (d.getD i default).n ∧ I2 = I ++ List.replicate j [] ∧ C2 = C ++ List.replicate j ((d.getD i default).kind == 2) ∧ S2 = S ++ List.replicate j (d.getD i default).attrs) (fun (j, I2, C2, S2) => (d.getD i default).n.toNat - j) (0, I, C, S) ?_ ?_
   ·
    exact ⟨by omega, by simp, by simp, by simp⟩
   rintro ⟨j, I2, C2, S2⟩ I10 ih10
   try dsimp only at I10
   have il : I2.length = I.length + j := by rw [I10.2.1]; simp
   have cl : C2.length = C.length + j := by rw [I10.2.2.1]; simp
   have sl : S2.length = S.length + j := by rw [I10.2.2.2]; simp
   refine .br [.r []] (decide ((j : Int) < (((d.getD i default)).n))) (fun h10 => ?_) (fun h10 => ?_)
   ·
    (try simp only [decide_eq_true_eq, decide_eq_false_iff_not, Int.not_lt, Int.not_le] at h10)
    refine .back [.r [(2, X (Xf [(0, 3)])), (3, X (rowC elemsT [[]] (Xap 1 elemsT 8 I2 [[]])))], .r [(6, X (rowC boolT [((((d.getD i default)).kind) == 2)] (Xap 1 boolT 40 C2 [((((d.getD i default)).kind) == 2)])))], .r [(5, X (rowC attrsT [((d.getD i default)).attrs] (Xap 1 attrsT 41 S2 [((d.getD i default)).attrs])))], .r [(0, X (Xn ((j : Int) + 1)))]] [(0, 0), (8, 8), (24, 24), (40, 40), (41, 41), (122, 122)] (ih10 ((j + 1), (I2 ++ [[]]), (C2 ++ [((((d.getD i default)).kind) == 2)]), (S2 ++ [((d.getD i default)).attrs])) ?_ ?_)
    ·
     refine ⟨by omega, ?_, ?_, ?_⟩
     · rw [I10.2.1, List.append_assoc, ← List.replicate_succ']
     · rw [I10.2.2.1, List.append_assoc, ← List.replicate_succ']
     · rw [I10.2.2.2, List.append_assoc, ← List.replicate_succ']
    ·
     ((try dsimp only); omega)
   ·
    (try simp only [decide_eq_true_eq, decide_eq_false_iff_not, Int.not_lt, Int.not_le] at h10)
    refine .back [.r [(0, X (Xn ((i : Int) + 1)))]] [(0, 0), (8, 8), (24, 24), (40, 40), (41, 41)] (ih3 ((i + 1), I2, C2, S2) ?_ ?_)
    ·
     refine ⟨by omega, ?_⟩
     have ej : j = (d.getD i default).n.toNat := by omega
     rw [I10.2.1, I10.2.2.1, I10.2.2.2, ej]
     exact hN
    ·
     ((try dsimp only); omega)
 ·
  (try simp only [decide_eq_true_eq, decide_eq_false_iff_not, Int.not_lt, Int.not_le] at h3)
  have hG := I3.2.done (by omega)
  have q1 : I = (actOfL d).ins := by rw [← hG]
  have q2 : C = (actOfL d).cut := by rw [← hG]
  have q3 : S = (actOfL d).set := by rw [← hG]
  have e1 : ((actOfL d).ins.length : Nat) = I.length := by
   first | rw [q1] | rw [q2] | rw [q3]
  have e2 : ((actOfL d).cut.length : Nat) = C.length := by
   first | rw [q1] | rw [q2] | rw [q3]
  have e3 : ((actOfL d).set.length : Nat) = S.length := by
   first | rw [q1] | rw [q2] | rw [q3]
  have e4 : ((actOfL d).ins : List (List Elem)) = I := by
   first | rw [q1] | rw [q2] | rw [q3]
  have e5 : ((actOfL d).cut : List Bool) = C := by
   first | rw [q1] | rw [q2] | rw [q3]
  have e6 : ((actOfL d).set : List (List Attr)) = S := by
   first | rw [q1] | rw [q2] | rw [q3]
  exact .finE [.r []] [(0, 0), (8, 1), (40, 2), (41, 3)] (fun (z0, z1, z2, z3, z4, z5) => (.agg [.row 1 z0, .row 2 z1, .row 3 z2], [(0, .box [.row 1 z0, .row 2 z1, .row 3 z2]), (1, OR 1 elemsT z3), (2, OR 1 boolT z4), (3, OR 1 attrsT z5)])) ((I.length : Nat), (C.length : Nat), (S.length : Nat), (I : List (List Elem)), (C : List Bool), (S : List (List Attr))) (((actOfL d).ins.length : Nat), ((actOfL d).cut.length : Nat), ((actOfL d).set.length : Nat), ((actOfL d).ins : List (List Elem)), ((actOfL d).cut : List Bool), ((actOfL d).set : List (List Attr))) (pr e1 (pr e2 (pr e3 (pr e4 (pr e5 e6)))))

theorem fc_done1 (f : List Elem) (x : Act) (hfit : ActFit x) (hl : x.cut.length = f.length) (hn : (doneR f x 0).length ≤ 100000000000) (ha : AN 100000000000 f) (hs : ∀ c ∈ x.set, c.length ≤ 100000000000) : FC Try.prog 123 [VL 3 elemT f, .t (actT x)] (app emp []) (VL 3 elemT (doneR f x 0)) (app emp []) := by
 refine .go Try.f123 ?_
 refine .len 0 (fun hl0 => ?_)
 obtain ⟨hf1, hf2⟩ := hfit
 refine .loop (α := Nat × (List Elem)) [.r [], .r [], .r [(1, X (Xl elemT f))], .le (.nR 5 3)] 49 (fun (i, o) => ([(0, VL 3 elemT f), (3, .ptr 0 0), (5, .row 48 o.length), (9, VI (f.length : Int)), (10, VI (i : Int))], [(0, .box [VL 1 elemsT x.ins, VL 1 boolT x.cut, VL 1 attrsT x.set]), (48, OR 3 elemT o)])) (fun (i, o) => i ≤ f.length ∧ o ++ doneR f x i = doneR f x 0) (fun (i, o) => f.length - i) (0, []) ?_ ?_
 ·
  exact ⟨by omega, rfl⟩
 rintro ⟨i, o⟩ I3 ih3
 try dsimp only at I3
 have hle := congrArg List.length I3.2
 rw [List.length_append] at hle
 refine .br [.r []] (decide ((i : Int) < (f.length : Int))) (fun h3 => ?_) (fun h3 => ?_)
 ·
  (try simp only [decide_eq_true_eq, decide_eq_false_iff_not, Int.not_lt, Int.not_le] at h3)
  have hP := (doneR_step (f := f) (x := x) (i := i) (by omega) o).symm.trans I3.2
  have hq := congrArg List.length hP
  simp only [List.length_append] at hq
  have hxa := ha _ (getD_mem' (l := f) (k := i) (by omega))
  have hxs := hs _ (getD_mem' (l := x.set) (k := i) (by omega))
  refine .br [.r [], .r [(4, X (Xi elemsT x.ins (i : Int))), (6, X (Xap 3 elemT 48 o (x.ins.getD i default)))], .r [(3, X (Xi boolT x.cut (i : Int)))]] (!(x.cut.getD i default)) (fun h6 => ?_) (fun h6 => ?_)
  ·
   (try simp only [Bool.not_eq_true', Bool.not_eq_false'] at h6)
   rw [if_neg (by rw [h6]; decide)] at hP hq
   simp only [List.length_cons, List.length_nil] at hq
   refine .back [.r [(2, X (Xi elemT f (i : Int)))], .r [(5, X (Xi attrsT x.set (i : Int))), (7, X (Xc1 289 (fc_changedR (((f.getD i default)).attrs) (x.set.getD i default) (by omega) (by omega)) X0))], .r [(3, X (rowC elemT [({ char := ((f.getD i default)).char, ref := ((f.getD i default)).ref, attrs := (changedR (((f.getD i default)).attrs) (x.set.getD i default)) } : Elem)] (Xap 3 elemT 48 (o ++ (x.ins.getD i default)) [({ char := ((f.getD i default)).char, ref := ((f.getD i default)).ref, attrs := (changedR (((f.getD i default)).attrs) (x.set.getD i default)) } : Elem)])) (by simp only [List.length_append, List.length_cons, List.length_nil]; omega))], .r [(0, X (Xn ((i : Int) + 1)))]] [(0, 0), (48, 48)] (ih3 ((i + 1), ((o ++ (x.ins.getD i default)) ++ [({ char := ((f.getD i default)).char, ref := ((f.getD i default)).ref, attrs := (changedR (((f.getD i default)).attrs) (x.set.getD i default)) } : Elem)])) ?_ ?_)
   ·
    refine ⟨by omega, ?_⟩
    first | exact hP | (rw [if_pos h6, List.append_nil] at hP; exact hP)
   ·
    ((try dsimp only); omega)
  ·
   (try simp only [Bool.not_eq_true', Bool.not_eq_false'] at h6)
   refine .back [.r [(0, X (Xn ((i : Int) + 1)))]] [(0, 0), (48, 48)] (ih3 ((i + 1), (o ++ (x.ins.getD i default))) ?_ ?_)
   ·
    refine ⟨by omega, ?_⟩
    first | exact hP | (rw [if_pos h6, List.append_nil] at hP; exact hP)
   ·
    ((try dsimp only); omega)
 ·
  (try simp only [decide_eq_true_eq, decide_eq_false_iff_not, Int.not_lt, Int.not_le] at h3)
  have hE := (doneR_end (f := f) (x := x) (i := i) (by omega) o).symm.trans I3.2
  have hq := congrArg List.length hE
  rw [List.length_append] at hq
  have e1 : ((doneR f x 0) : List Elem) = (o ++ (x.ins.getD f.length default)) := by
   rw [hE]
  exact .finE [.r [(4, X (Xl elemT f)), (5, X (Xi elemsT x.ins (f.length : Int))), (7, X (Xap 3 elemT 48 o (x.ins.getD f.length default)))], .le (.fr 4 [(((o ++ (x.ins.getD f.length default)).length) : Nat) = (List.map elemT (o ++ (x.ins.getD f.length default))).length] ⟨lm, trivial⟩)] [] (fun z0 => (VL 3 elemT z0, [])) ((o ++ (x.ins.getD f.length default)) : List Elem) ((doneR f x 0) : List Elem) e1

theorem fc_after (f : List Elem) (d : List DStep) (hv : DValid d) (hd : DN 100000000000 d) (hl : oldD d = f.length) (ha : AN 100000000000 f) (hf : ∀ e ∈ f, VG false e.attrs) : FC Try.prog 72 [VL 3 elemT f, VL 4 dstepT d] (app emp []) (VL 3 elemT (rawD f d)) (app emp []) := by
 refine .go Try.f72 ?_
 refine .len 0 (fun hl0 => ?_)
 refine .len 1 (fun hl1 => ?_)
 obtain ⟨q1, q2, q3⟩ := after_eq hv hl hf
 have hlen := after_len hv hl
 rw [← q3] at hlen
 have v2 := hv.2.2
 have hs : ∀ c ∈ (actOfL d).set, c.length ≤ 100000000000 := actF_set (Q := fun c => c.length ≤ 100000000000) (fun s hs => by have := (hd s hs).2.1; omega) (fun c hc => by cases hc)
 have e1 : ((rawD f d) : List Elem) = (doneR f (actOfL d) 0) := by
  rw [q3]
 exact .finE [.r [], .r [(2, X (Xc1 24 (fc_actOf d (by assumption) (by assumption)) X0)), (3, X (Xc1 32 (fc_done1 f (actOfL d) (by assumption) (by omega) (by omega) (by assumption) (by assumption)) (rowX ((actOfL d).ins.length) elemsT ((actOfL d).ins) (rowX ((actOfL d).cut.length) boolT ((actOfL d).cut) (rowX ((actOfL d).set.length) attrsT ((actOfL d).set) X0)))))]] [] (fun z0 => (VL 3 elemT z0, [])) ((doneR f (actOfL d) 0) : List Elem) ((rawD f d) : List Elem) e1
end Go.Ch
end
section
set_option linter.unusedVariables false
set_option linter.unusedSimpArgs false
set_option maxRecDepth 100000
set_option maxHeartbeats 4000000
open Go Go.Proofs Go.Ab
namespace Go.Ch
theorem fc_has (l : List Attr) (n : ByteArray) : FC Try.prog 64 [VL 2 attrT l, VS n] (app emp []) (VB (hasA l n)) (app emp []) := by
 refine .go Try.f64 ?_
 refine .len 0 (fun hl0 => ?_)
 refine .loop (α := Nat) [.r [], .r [(1, X (Xl attrT l))]] 32 (fun i => ([(0, VL 2 attrT l), (1, VS n), (7, VI (l.length : Int)), (8, VI (i : Int))], [])) (fun i => i ≤ l.length ∧ hasA l n = hasA (l.drop i) n) (fun i => l.length - i) (0 : Nat) ?_ ?_
 ·
  exact ⟨by omega, rfl⟩
 rintro i I2 ih2
 try dsimp only at I2
 refine .br [.r []] (decide ((i : Int) < (l.length : Int))) (fun h2 => ?_) (fun h2 => ?_)
 ·
  (try simp only [decide_eq_true_eq, decide_eq_false_iff_not, Int.not_lt, Int.not_le] at h2)
  have hs := hasA_at (l := l) (i := i) (by omega) n
  refine .br [.r [], .r [(2, X (Xi attrT l (i : Int)))]] (seq (((l.getD i default)).name) n) (fun h4 => ?_) (fun h4 => ?_)
  ·
   have e1 : ((hasA l n) : Bool) = true := by
    first | (rw [I2.2, hs, h4, Bool.true_or]) | (rw [I2.2, List.drop_eq_nil_of_le (by omega)]; rfl)
   exact .finE [.r []] [] (fun z0 => (VB z0, [])) (true : Bool) ((hasA l n) : Bool) e1
  ·
   refine .back [.r [(0, X (Xn ((i : Int) + 1)))]] [] (ih2 ((i + 1) : Nat) ?_ ?_)
   ·
    refine ⟨by omega, ?_⟩
    rw [I2.2, hs, h4, Bool.false_or]
   ·
    ((try dsimp only); omega)
 ·
  (try simp only [decide_eq_true_eq, decide_eq_false_iff_not, Int.not_lt, Int.not_le] at h2)
  have e2 : ((hasA l n) : Bool) = false := by
   first | (rw [I2.2, hs, h4, Bool.true_or]) | (rw [I2.2, List.drop_eq_nil_of_le (by omega)]; rfl)
  exact .finE [.r []] [] (fun z0 => (VB z0, [])) (false : Bool) ((hasA l n) : Bool) e2

theorem fc_hidden (x : Elem) (mode : Int) : FC Try.prog 152 [.t (elemT x), VI mode] (app emp []) (VB (hidX x mode)) (app emp []) := by
 refine .go Try.f152 ?_
 have e1 : ((hidX x mode) : Bool) = ((seq (getA x.attrs ({ data := #[104, 105, 100, 100, 101, 110] }) 0) ({ data := #[111, 110] }) || ((mode == 0) && !(seq (getA x.attrs ({ data := #[99, 117, 116] }) 0) ({ data := #[] })))) || ((mode == 1) && !(seq (getA x.attrs ({ data := #[97, 100, 100] }) 0) ({ data := #[] })))) := by
  rfl
 exact .finE [.r [], .r [(2, X (Xc0 (fc_get x.attrs ({ data := #[104, 105, 100, 100, 101, 110] })) X0)), (6, Xv 1 (!(seq (getA x.attrs ({ data := #[104, 105, 100, 100, 101, 110] }) 0) ({ data := #[111, 110] }))) X0), (7, Xv 1 (!(seq (getA x.attrs ({ data := #[104, 105, 100, 100, 101, 110] }) 0) ({ data := #[111, 110] }))) X0), (9, Xv 1 ((!(seq (getA x.attrs ({ data := #[104, 105, 100, 100, 101, 110] }) 0) ({ data := #[111, 110] }))) && (mode == 0)) X0), (10, Xv 1 ((!(seq (getA x.attrs ({ data := #[104, 105, 100, 100, 101, 110] }) 0) ({ data := #[111, 110] }))) && (mode == 0)) (Xc0 (fc_get x.attrs ({ data := #[99, 117, 116] })) X0)), (11, Xv 1 ((!(seq (getA x.attrs ({ data := #[104, 105, 100, 100, 101, 110] }) 0) ({ data := #[111, 110] }))) && (mode == 0)) X0), (12, Xka (!(seq (getA x.attrs ({ data := #[104, 105, 100, 100, 101, 110] }) 0) ({ data := #[111, 110] }))) (mode == 0)), (13, X (Xk' (seq (getA x.attrs ({ data := #[104, 105, 100, 100, 101, 110] }) 0) ({ data := #[111, 110] })))), (16, Xv 1 (!(seq (getA x.attrs ({ data := #[104, 105, 100, 100, 101, 110] }) 0) ({ data := #[111, 110] }) || ((mode == 0) && !(seq (getA x.attrs ({ data := #[99, 117, 116] }) 0) ({ data := #[] }))))) X0), (17, Xv 1 (!(seq (getA x.attrs ({ data := #[104, 105, 100, 100, 101, 110] }) 0) ({ data := #[111, 110] }) || ((mode == 0) && !(seq (getA x.attrs ({ data := #[99, 117, 116] }) 0) ({ data := #[] }))))) X0), (19, Xv 1 ((!(seq (getA x.attrs ({ data := #[104, 105, 100, 100, 101, 110] }) 0) ({ data := #[111, 110] }) || ((mode == 0) && !(seq (getA x.attrs ({ data := #[99, 117, 116] }) 0) ({ data := #[] }))))) && (mode == 1)) X0), (20, Xv 1 ((!(seq (getA x.attrs ({ data := #[104, 105, 100, 100, 101, 110] }) 0) ({ data := #[111, 110] }) || ((mode == 0) && !(seq (getA x.attrs ({ data := #[99, 117, 116] }) 0) ({ data := #[] }))))) && (mode == 1)) (Xc0 (fc_get x.attrs ({ data := #[97, 100, 100] })) X0)), (21, Xv 1 ((!(seq (getA x.attrs ({ data := #[104, 105, 100, 100, 101, 110] }) 0) ({ data := #[111, 110] }) || ((mode == 0) && !(seq (getA x.attrs ({ data := #[99, 117, 116] }) 0) ({ data := #[] }))))) && (mode == 1)) X0), (22, Xka (!(seq (getA x.attrs ({ data := #[104, 105, 100, 100, 101, 110] }) 0) ({ data := #[111, 110] }) || ((mode == 0) && !(seq (getA x.attrs ({ data := #[99, 117, 116] }) 0) ({ data := #[] }))))) (mode == 1)), (23, X (Xk' (seq (getA x.attrs ({ data := #[104, 105, 100, 100, 101, 110] }) 0) ({ data := #[111, 110] }) || ((mode == 0) && !(seq (getA x.attrs ({ data := #[99, 117, 116] }) 0) ({ data := #[] }))))))]] [] (fun z0 => (VB z0, [])) (((seq (getA x.attrs ({ data := #[104, 105, 100, 100, 101, 110] }) 0) ({ data := #[111, 110] }) || ((mode == 0) && !(seq (getA x.attrs ({ data := #[99, 117, 116] }) 0) ({ data := #[] })))) || ((mode == 1) && !(seq (getA x.attrs ({ data := #[97, 100, 100] }) 0) ({ data := #[] })))) : Bool) ((hidX x mode) : Bool) e1

theorem fc_places (f : List Elem) (mode : Int) (hn : f.length ≤ 100000000000) : FC Try.prog 142 [VL 3 elemT f, VI mode] (app emp []) (VL 1 intT (plcL f mode f.length)) (app emp []) := by
 refine .go Try.f142 ?_
 refine .len 0 (fun hl0 => ?_)
 refine .loop (α := Nat × (List Int)) [.r [], .r [], .r [(1, X (Xl elemT f))], .le (.nR 5 1)] 41 (fun (i, o) => ([(0, VL 3 elemT f), (1, VI mode), (5, .row 40 o.length), (8, VL 3 elemT f), (9, VI (f.length : Int)), (10, VI (i : Int))], [(40, OR 1 intT o)])) (fun (i, o) => i ≤ f.length ∧ o = plcL f mode i) (fun (i, o) => f.length - i) (0, []) ?_ ?_
 ·
  exact ⟨by omega, rfl⟩
 rintro ⟨i, o⟩ I3 ih3
 try dsimp only at I3
 have ol : o.length ≤ i := by rw [I3.2]; exact plcL_len f mode i
 refine .br [.r []] (decide ((i : Int) < (f.length : Int))) (fun h3 => ?_) (fun h3 => ?_)
 ·
  (try simp only [decide_eq_true_eq, decide_eq_false_iff_not, Int.not_lt, Int.not_le] at h3)
  refine .br [.r [(1, X (Xi elemT f (i : Int)))], .r [(2, X (Xc0 (fc_hidden ((f.getD i default)) mode) X0)), (7, Xv 1 (!(!(hidX ((f.getD i default)) mode))) (Xl elemT f)), (8, Xv 1 (!(!(hidX ((f.getD i default)) mode))) (Xn ((f.length : Int) - 1))), (9, Xv 2 (!(!(hidX ((f.getD i default)) mode))) X0), (10, Xv 1 (!(!(hidX ((f.getD i default)) mode))) X0), (12, Xv 1 ((!(!(hidX ((f.getD i default)) mode))) && ((i : Int) == ((f.length : Int) - 1))) X0), (13, Xv 1 ((!(!(hidX ((f.getD i default)) mode))) && ((i : Int) == ((f.length : Int) - 1))) X0), (14, Xka (!(!(hidX ((f.getD i default)) mode))) ((i : Int) == ((f.length : Int) - 1))), (15, X (Xk' (!(hidX ((f.getD i default)) mode))))]] (!(hidX ((f.getD i default)) mode) || (((i : Int) == ((f.length : Int) - 1)) && ((((f.getD i default)).char) == 10))) (fun h5 => ?_) (fun h5 => ?_)
  ·
   (try simp only [Bool.not_eq_true', Bool.not_eq_false', Bool.and_eq_true, Bool.and_eq_false_iff, Bool.or_eq_true, Bool.or_eq_false_iff, beq_iff_eq, beq_eq_false_iff_ne, ne_eq] at h5)
   refine .back [.r [(3, X (rowC intT [(i : Int)] (Xap 1 intT 40 o [(i : Int)])))], .r [(0, X (Xn ((i : Int) + 1)))]] [(40, 40)] (ih3 ((i + 1), (o ++ [(i : Int)])) ?_ ?_)
   ·
    refine ⟨by omega, ?_⟩
    rw [I3.2, plcL_succ]
    first | rw [if_pos (vis_yes h5)] | rw [if_neg (by rw [vis_no h5]; decide), List.append_nil]
   ·
    ((try dsimp only); omega)
  ·
   (try simp only [Bool.not_eq_true', Bool.not_eq_false', Bool.and_eq_true, Bool.and_eq_false_iff, Bool.or_eq_true, Bool.or_eq_false_iff, beq_iff_eq, beq_eq_false_iff_ne, ne_eq] at h5)
   refine .back [.r [(0, X (Xn ((i : Int) + 1)))]] [(40, 40)] (ih3 ((i + 1), o) ?_ ?_)
   ·
    refine ⟨by omega, ?_⟩
    rw [I3.2, plcL_succ]
    first | rw [if_pos (vis_yes h5)] | rw [if_neg (by rw [vis_no h5]; decide), List.append_nil]
   ·
    ((try dsimp only); omega)
 ·
  (try simp only [decide_eq_true_eq, decide_eq_false_iff_not, Int.not_lt, Int.not_le] at h3)
  have e1 : ((plcL f mode f.length) : List Int) = o := by
   rw [I3.2, show i = f.length by omega]
  exact .finE [.r [], .le (.fr 4 [(o.length : Nat) = (List.map intT o).length] ⟨lm, trivial⟩)] [] (fun z0 => (VL 1 intT z0, [])) (o : List Int) ((plcL f mode f.length) : List Int) e1

theorem fc_shown (f : List Elem) (mode : Int) (hp : partE f 0 = 0) (hm : mode = 0 ∨ mode = 1) (hn : f.length ≤ 100000000000) : FC Try.prog 117 [VL 3 elemT f, VI mode] (app emp []) (.tup [VL 1 intT (plcL f mode f.length), VI 0]) (app emp []) := by
 refine .go Try.f117 ?_
 refine .len 0 (fun hl0 => ?_)
 refine .br [.r [], .r [(1, X (Xc0 (fc_checkPart f) X0))], .r []] ((partE f 0) != 0) (fun h2 => ?_) (fun h2 => ?_)
 ·
  (try simp only [bne_iff_ne, bne_eq_false_iff_eq, ne_eq] at h2)
  exfalso
  omega
 ·
  (try simp only [bne_iff_ne, bne_eq_false_iff_eq, ne_eq] at h2)
  refine .br [.r [(4, Xv 1 (!(decide (mode < 0))) X0), (5, X (Xk' (decide (mode < 0))))]] (decide (mode < 0) || decide (mode > 2)) (fun h4 => ?_) (fun h4 => ?_)
  ·
   (try simp only [decide_eq_true_eq, decide_eq_false_iff_not, Int.not_lt, Int.not_le, gt_iff_lt, Bool.or_eq_true, Bool.or_eq_false_iff] at h4)
   exfalso
   omega
  ·
   (try simp only [decide_eq_true_eq, decide_eq_false_iff_not, Int.not_lt, Int.not_le, gt_iff_lt, Bool.or_eq_true, Bool.or_eq_false_iff] at h4)
   have e1 : ((plcL f mode f.length) : List Int) = (plcL f mode (f).length) := by
    (first | omega | with_reducible exact fun h => h | (intro hq; rw [hq]; done) | (intro hq; rw [hq]; rfl) | (simp only [List.length_map]; done) | (simp only [List.length_map]; omega) | (simp; omega) | (simp; done))
   exact .finE [.r [(2, X (Xc1 120 (fc_places f mode (by omega)) X0))]] [] (fun z0 => (.tup [VL 1 intT z0, VI 0], [])) ((plcL f mode (f).length) : List Int) ((plcL f mode f.length) : List Int) e1

theorem fc_flowCheck (f : List Elem) : FC Try.prog 143 [VL 3 elemT f, VB true] (app emp []) (VI (flowE f)) (app emp []) := by
 refine .go Try.f143 ?_
 refine .len 0 (fun hl0 => ?_)
 refine .loop (α := Nat) [.r [], .r [(1, X (Xl elemT f))]] 32 (fun i => ([(0, VL 3 elemT f), (1, VB true), (8, VL 3 elemT f), (9, VI (f.length : Int)), (10, VI (i : Int))], [])) (fun i => i ≤ f.length ∧ partE f 0 = partE f i) (fun i => f.length - i) (0 : Nat) ?_ ?_
 ·
  exact ⟨by omega, rfl⟩
 rintro i I2 ih2
 try dsimp only at I2
 refine .br [.r []] (decide ((i : Int) < (f.length : Int))) (fun h2 => ?_) (fun h2 => ?_)
 ·
  (try simp only [decide_eq_true_eq, decide_eq_false_iff_not, Int.not_lt, Int.not_le] at h2)
  refine .br [.r [(0, X (Xi elemT f (i : Int)))], .r [(1, X (Xc0 (fc_elem ((f.getD i default))) X0))], .r []] ((elemE ((f.getD i default))) != 0) (fun h5 => ?_) (fun h5 => ?_)
  ·
   (try simp only [bne_iff_ne, bne_eq_false_iff_eq, ne_eq] at h5)
   have e1 : ((flowE f) : Int) = (elemE ((f.getD i default))) := by
    exact flowE_bad I2.2 (by omega) h5
   exact .finE [.r []] [] (fun z0 => (VI z0, [])) ((elemE ((f.getD i default))) : Int) ((flowE f) : Int) e1
  ·
   (try simp only [bne_iff_ne, bne_eq_false_iff_eq, ne_eq] at h5)
   refine .br [.r [(4, Xv 1 false X0), (5, Xv 1 false X0), (6, X (Xk false))]] (false && ((((f.getD i default)).ref) == 0)) (fun h7 => ?_) (fun h7 => ?_)
   ·
    (try simp only [Bool.and_eq_true, Bool.and_eq_false_iff, Bool.not_eq_true', Bool.not_eq_false', beq_iff_eq, beq_eq_false_iff_ne, ne_eq] at h7)
    exfalso
    simp at h7
   ·
    (try simp only [Bool.and_eq_true, Bool.and_eq_false_iff, Bool.not_eq_true', Bool.not_eq_false', beq_iff_eq, beq_eq_false_iff_ne, ne_eq] at h7)
    refine .back [.r [(0, X (Xn ((i : Int) + 1)))]] [] (ih2 ((i + 1) : Nat) ?_ ?_)
    ·
     refine ⟨by omega, ?_⟩
     rw [I2.2, partE, if_pos (by omega), if_pos (by omega)]
    ·
     ((try dsimp only); omega)
 ·
  (try simp only [decide_eq_true_eq, decide_eq_false_iff_not, Int.not_lt, Int.not_le] at h2)
  refine .br [.r [(3, Xv 1 true (Xl elemT f)), (4, Xv 1 true X0), (5, Xv 1 true X0), (8, Xv 1 (true && !((f.length : Int) == 0)) (Xl elemT f)), (9, Xv 1 (true && !((f.length : Int) == 0)) (Xn ((f.length : Int) - 1))), (10, Xv 2 (true && !((f.length : Int) == 0)) (Xi' elemT f ((f.length : Int) - 1) (f.length - 1)) (fun hg => by (try simp only [Bool.not_eq_true', Bool.not_eq_false', Bool.and_eq_true, Bool.and_eq_false_iff, beq_iff_eq, beq_eq_false_iff_ne, ne_eq] at hg); exact ⟨(by omega), (by omega)⟩)), (11, Xv 1 (true && !((f.length : Int) == 0)) X0), (12, Xv 1 (true && !((f.length : Int) == 0)) X0), (13, Xv 1 (true && !((f.length : Int) == 0)) X0), (14, Xko true ((f.length : Int) == 0)), (15, X (Xk true))]] (true && (((f.length : Int) == 0) || ((((f.getD (f.length - 1) default)).char) != 10))) (fun h10 => ?_) (fun h10 => ?_)
  ·
   (try simp only [Bool.and_eq_true, Bool.and_eq_false_iff, Bool.not_eq_true', Bool.not_eq_false', Bool.or_eq_true, Bool.or_eq_false_iff, beq_iff_eq, beq_eq_false_iff_ne, ne_eq, bne_iff_ne, bne_eq_false_iff_eq] at h10)
   have e2 : ((flowE f) : Int) = 11 := by
    rw [flowE_end I2.2 (by omega), if_pos (by omega)]
   exact .finE [.r []] [] (fun z0 => (VI z0, [])) (11 : Int) ((flowE f) : Int) e2
  ·
   (try simp only [Bool.and_eq_true, Bool.and_eq_false_iff, Bool.not_eq_true', Bool.not_eq_false', Bool.or_eq_true, Bool.or_eq_false_iff, beq_iff_eq, beq_eq_false_iff_ne, ne_eq, bne_iff_ne, bne_eq_false_iff_eq] at h10)
   have e3 : ((flowE f) : Int) = 0 := by
    rw [flowE_end I2.2 (by omega), if_neg (by rcases h10 with h | h; (cases h); rintro (q | q); (omega); (exact q h.2))]
   exact .finE [.r []] [] (fun z0 => (VI z0, [])) (0 : Int) ((flowE f) : Int) e3

theorem fc_flowError (f : List Elem) (hz : SzE f) : FC Try.prog 67 [VL 3 elemT f, VB true] (app emp []) (VI (flowE f)) (app emp []) := by
 refine .go Try.f67 ?_
 refine .len 0 (fun hl0 => ?_)
 refine .loop (α := Nat) [.r [], .r [(1, X (Xl elemT f))]] 32 (fun i => ([(0, VL 3 elemT f), (1, VB true), (8, VI (f.length : Int)), (9, VI (i : Int))], [])) (fun i => i ≤ f.length ∧ partE f 0 = partE f i) (fun i => f.length - i) (0 : Nat) ?_ ?_
 ·
  exact ⟨by omega, rfl⟩
 rintro i I2 ih2
 try dsimp only at I2
 refine .br [.r []] (decide ((i : Int) < (f.length : Int))) (fun h2 => ?_) (fun h2 => ?_)
 ·
  (try simp only [decide_eq_true_eq, decide_eq_false_iff_not, Int.not_lt, Int.not_le] at h2)
  have hx := hz _ (getDE_mem (l := f) (k := i) (by omega))
  refine .br [.r [], .r [(2, X (Xi elemT f (i : Int))), (4, X (Xc0 (fc_elemError ((f.getD i default)) (by assumption)) X0))], .r []] ((elemE ((f.getD i default))) != 0) (fun h5 => ?_) (fun h5 => ?_)
  ·
   (try simp only [bne_iff_ne, bne_eq_false_iff_eq, ne_eq] at h5)
   have e1 : ((flowE f) : Int) = (elemE ((f.getD i default))) := by
    exact flowE_bad I2.2 (by omega) h5
   exact .finE [.r []] [] (fun z0 => (VI z0, [])) ((elemE ((f.getD i default))) : Int) ((flowE f) : Int) e1
  ·
   (try simp only [bne_iff_ne, bne_eq_false_iff_eq, ne_eq] at h5)
   refine .br [.r [(5, Xv 2 false (Xi elemT f (i : Int)) (fun hg => by skip; exact ⟨(by cases hg), (by cases hg)⟩)), (6, Xv 1 false X0), (7, Xv 1 false X0), (8, Xv 1 false X0), (9, X (Xk false))]] (false && ((((f.getD i default)).char) != 0)) (fun h7 => ?_) (fun h7 => ?_)
   ·
    (try simp only [Bool.and_eq_true, Bool.and_eq_false_iff, Bool.not_eq_true', Bool.not_eq_false', bne_iff_ne, bne_eq_false_iff_eq, ne_eq] at h7)
    exfalso
    simp at h7
   ·
    (try simp only [Bool.and_eq_true, Bool.and_eq_false_iff, Bool.not_eq_true', Bool.not_eq_false', bne_iff_ne, bne_eq_false_iff_eq, ne_eq] at h7)
    refine .back [.r [(0, X (Xn ((i : Int) + 1)))]] [] (ih2 ((i + 1) : Nat) ?_ ?_)
    ·
     refine ⟨by omega, ?_⟩
     rw [I2.2, partE, if_pos (by omega), if_pos (by omega)]
    ·
     ((try dsimp only); omega)
 ·
  (try simp only [decide_eq_true_eq, decide_eq_false_iff_not, Int.not_lt, Int.not_le] at h2)
  refine .br [.r [(3, Xv 1 true (Xl elemT f)), (4, Xv 1 true X0), (5, Xv 1 true X0), (8, Xv 1 (true && !((f.length : Int) == 0)) (Xl elemT f)), (9, Xv 1 (true && !((f.length : Int) == 0)) (Xn ((f.length : Int) - 1))), (10, Xv 2 (true && !((f.length : Int) == 0)) (Xi' elemT f ((f.length : Int) - 1) (f.length - 1)) (fun hg => by (try simp only [Bool.not_eq_true', Bool.not_eq_false', Bool.and_eq_true, Bool.and_eq_false_iff, beq_iff_eq, beq_eq_false_iff_ne, ne_eq] at hg); exact ⟨(by omega), (by omega)⟩)), (11, Xv 1 (true && !((f.length : Int) == 0)) X0), (12, Xv 1 (true && !((f.length : Int) == 0)) X0), (13, Xv 1 (true && !((f.length : Int) == 0)) X0), (14, Xko true ((f.length : Int) == 0)), (15, X (Xk true))]] (true && (((f.length : Int) == 0) || ((((f.getD (f.length - 1) default)).char) != 10))) (fun h10 => ?_) (fun h10 => ?_)
  ·
   (try simp only [Bool.and_eq_true, Bool.and_eq_false_iff, Bool.not_eq_true', Bool.not_eq_false', Bool.or_eq_true, Bool.or_eq_false_iff, beq_iff_eq, beq_eq_false_iff_ne, ne_eq, bne_iff_ne, bne_eq_false_iff_eq] at h10)
   have e2 : ((flowE f) : Int) = 11 := by
    rw [flowE_end I2.2 (by omega), if_pos (by omega)]
   exact .finE [.r []] [] (fun z0 => (VI z0, [])) (11 : Int) ((flowE f) : Int) e2
  ·
   (try simp only [Bool.and_eq_true, Bool.and_eq_false_iff, Bool.not_eq_true', Bool.not_eq_false', Bool.or_eq_true, Bool.or_eq_false_iff, beq_iff_eq, beq_eq_false_iff_ne, ne_eq, bne_iff_ne, bne_eq_false_iff_eq] at h10)
   have e3 : ((flowE f) : Int) = 0 := by
    rw [flowE_end I2.2 (by omega), if_neg (by rcases h10 with h | h; (cases h); rintro (q | q); (omega); (exact q h.2))]
   exact .finE [.r []] [] (fun z0 => (VI z0, [])) (0 : Int) ((flowE f) : Int) e3

theorem fc_sameInts (a : List Int) : FC Try.prog 118 [VL 1 intT a, VL 1 intT a] (app emp []) (VB true) (app emp []) := by
 refine .go Try.f118 ?_
 refine .len 0 (fun hl0 => ?_)
 refine .len 1 (fun hl1 => ?_)
 refine .br [.r [], .r [(1, X (Xl intT a)), (3, X (Xl intT a))]] ((a.length : Int) != (a.length : Int)) (fun h1 => ?_) (fun h1 => ?_)
 ·
  (try simp only [bne_iff_ne, bne_eq_false_iff_eq, ne_eq] at h1)
  exfalso
  first | omega | simp at h1
 ·
  (try simp only [bne_iff_ne, bne_eq_false_iff_eq, ne_eq] at h1)
  refine .loop (α := Nat) [.r [(1, X (Xl intT a))]] 72 (fun i => ([(0, VL 1 intT a), (1, VL 1 intT a), (12, VI (a.length : Int)), (13, VI (i : Int))], [])) (fun i => i ≤ a.length) (fun i => a.length - i) (0 : Nat) ?_ ?_
  ·
   omega
  rintro i I4 ih4
  try dsimp only at I4
  refine .br [.r []] (decide ((i : Int) < (a.length : Int))) (fun h4 => ?_) (fun h4 => ?_)
  ·
   (try simp only [decide_eq_true_eq, decide_eq_false_iff_not, Int.not_lt, Int.not_le] at h4)
   refine .br [.r [], .r [(2, X (Xi intT a (i : Int))), (6, X (Xi intT a (i : Int)))]] ((a.getD i default) != (a.getD i default)) (fun h6 => ?_) (fun h6 => ?_)
   ·
    (try simp only [bne_iff_ne, bne_eq_false_iff_eq, ne_eq] at h6)
    exfalso
    simp at h6
   ·
    (try simp only [bne_iff_ne, bne_eq_false_iff_eq, ne_eq] at h6)
    refine .back [.r [(0, X (Xn ((i : Int) + 1)))]] [] (ih4 ((i + 1) : Nat) ?_ ?_)
    ·
     show _ ≤ _; omega
    ·
     ((try dsimp only); omega)
  ·
   (try simp only [decide_eq_true_eq, decide_eq_false_iff_not, Int.not_lt, Int.not_le] at h4)
   exact .fin [.r []] []

theorem fc_tracks  : FC Try.prog 63 [] (app emp []) (VB true) (app emp []) := by
 refine .go Try.f63 ?_
 obtain ⟨p1, p2, p3⟩ := trk_facts
 unfold trkL at p1 p2 p3
 have e1 : ((true || false) : Bool) = true := by
  rfl
 exact .finE [.r [], .r [(0, X (Xf [(2, 2)])), (4, X (Xf [(2, 2)])), (5, X (rowC attrT [({ name := { data := #[99, 117, 116] }, val := { data := #[120] } } : Attr)] X0))], .r [(1, X (Xc1 72 (fc_shown [({ char := 97, ref := 0, attrs := [] } : Elem), ({ char := 98, ref := 0, attrs := [({ name := { data := #[99, 117, 116] }, val := { data := #[120] } } : Attr)] } : Elem), ({ char := 10, ref := 0, attrs := [] } : Elem)] 0 (by assumption) (by omega) (by omega)) (rowC elemT [({ char := 97, ref := 0, attrs := [] } : Elem), ({ char := 98, ref := 0, attrs := [({ name := { data := #[99, 117, 116] }, val := { data := #[120] } } : Attr)] } : Elem), ({ char := 10, ref := 0, attrs := [] } : Elem)] X0)))], .le (.eq 2 (VL 1 intT (plcL [({ char := 97, ref := 0, attrs := [] } : Elem), ({ char := 98, ref := 0, attrs := [({ name := { data := #[99, 117, 116] }, val := { data := #[120] } } : Attr)] } : Elem), ({ char := 10, ref := 0, attrs := [] } : Elem)] 0 ([({ char := 97, ref := 0, attrs := [] } : Elem), ({ char := 98, ref := 0, attrs := [({ name := { data := #[99, 117, 116] }, val := { data := #[120] } } : Attr)] } : Elem), ({ char := 10, ref := 0, attrs := [] } : Elem)]).length)) (VL 1 intT [0, 2]) (.of_eq (by rw [p2]))), .r [(4, Xw true X0 (by assumption) (by first | omega | (simp; omega) | (simp; done) | assumption)), (5, Xv 2 true (Xc0 (fc_sameInts [0, 2]) (rowC intT [0, 2] X0))), (6, X (Xk true))]] [] (fun z0 => (VB z0, [])) ((true || false) : Bool) (true : Bool) e1.symm
end Go.Ch
end
section
set_option linter.unusedVariables false
set_option linter.unusedSimpArgs false
set_option maxRecDepth 100000
set_option maxHeartbeats 4000000
open Go Go.Proofs Go.Ab
namespace Go.Ch
theorem fc_settle (f : List Elem) (k l : ByteArray) (h : KL k l) (hp : flowE f = 0) (hh : ∀ e ∈ f, hasA e.attrs hidB = false) (hlen : f.length ≤ 100000000) : FC Try.prog 119 [VL 3 elemT f, VI 0, VI (f.length : Int), VS k, VS l] (app emp []) (.tup [VL 4 dstepT (doneD (unitsT f k l f.length)), VI 0]) (app emp []) := by
 refine .go Try.f119 ?_
 refine .len 0 (fun hl0 => ?_)
 obtain ⟨f1, f2, f3⟩ := flowE_ok hp
 obtain ⟨g1, g2, g3, g4, g5, g6, _⟩ := track_law h f1 hh f2 f3 hlen
 have ul := units_map (us := unitsT f k l f.length) (fun u hu => (unitsT_ok h _ u hu).ok)
 have hst : stpL f k l f.length = (unitsT f k l f.length).map stepU := rfl
 rw [← hst] at ul
 have udn := ul.2.2 (unitsT_ok h _)
 have uln : (unitsT f k l f.length).length = f.length := by simp [unitsT]
 refine .br [.r [], .r [(1, X (Xc0 (fc_flowCheck f) X0))], .r []] ((flowE f) != 0) (fun h2 => ?_) (fun h2 => ?_)
 ·
  (try simp only [bne_iff_ne, bne_eq_false_iff_eq, ne_eq] at h2)
  exfalso
  omega
 ·
  (try simp only [bne_iff_ne, bne_eq_false_iff_eq, ne_eq] at h2)
  refine .br [.r [(5, Xv 2 (!false) X0), (6, X (Xk' false)), (10, Xv 1 (!(false || decide ((f.length : Int) < 0))) (Xl elemT f)), (11, Xv 2 (!(false || decide ((f.length : Int) < 0))) X0), (12, X (Xk' (false || decide ((f.length : Int) < 0))))]] ((false || decide ((f.length : Int) < 0)) || decide ((f.length : Int) > (f.length : Int))) (fun h4 => ?_) (fun h4 => ?_)
  ·
   (try simp only [decide_eq_true_eq, decide_eq_false_iff_not, Int.not_lt, Int.not_le, gt_iff_lt, Bool.or_eq_true, Bool.or_eq_false_iff] at h4)
   exfalso
   simp at h4; omega
  ·
   (try simp only [decide_eq_true_eq, decide_eq_false_iff_not, Int.not_lt, Int.not_le, gt_iff_lt, Bool.or_eq_true, Bool.or_eq_false_iff] at h4)
   refine .loop (α := Nat × (List DStep)) [.r [], .r [(1, X (Xl elemT f))], .le (.nR 13 4)] 193 (fun (i, o) => ([(0, VL 3 elemT f), (1, VI 0), (2, VI (f.length : Int)), (3, VS k), (4, VS l), (13, .row 192 o.length), (36, VL 3 elemT f), (37, VI (f.length : Int)), (38, VI (i : Int))], [(192, OR 4 dstepT o)])) (fun (i, o) => i ≤ f.length ∧ o = stpL f k l i) (fun (i, o) => f.length - i) (0, []) ?_ ?_
   ·
    exact ⟨by omega, rfl⟩
   rintro ⟨i, o⟩ I8 ih8
   try dsimp only at I8
   have ol : o.length = i := by rw [I8.2]; exact stpL_len f k l i
   refine .br [.r []] (decide ((i : Int) < (f.length : Int))) (fun h8 => ?_) (fun h8 => ?_)
   ·
    (try simp only [decide_eq_true_eq, decide_eq_false_iff_not, Int.not_lt, Int.not_le] at h8)
    refine .br [.r [(1, X (Xi elemT f (i : Int)))], .r [], .r [(6, Xv 2 (decide ((i : Int) ≥ 0)) X0), (7, X (Xk (decide ((i : Int) ≥ 0))))]] (decide ((i : Int) ≥ 0) && decide ((i : Int) < (f.length : Int))) (fun h11 => ?_) (fun h11 => ?_)
    ·
     (try simp only [decide_eq_true_eq, decide_eq_false_iff_not, Int.not_lt, Int.not_le, ge_iff_le, Bool.and_eq_true, Bool.and_eq_false_iff, Bool.not_eq_true', Bool.not_eq_false'] at h11)
     refine .br [.r [(3, X (Xc0 (fc_get (((f.getD i default)).attrs) l) X0))], .r [(4, Xv 1 (!(seq (getA (((f.getD i default)).attrs) l 0) ({ data := #[] }))) (Xl elemT f)), (5, Xv 1 (!(seq (getA (((f.getD i default)).attrs) l 0) ({ data := #[] }))) (Xn ((f.length : Int) - 1))), (6, Xv 2 (!(seq (getA (((f.getD i default)).attrs) l 0) ({ data := #[] }))) X0), (7, X (Xk (!(seq (getA (((f.getD i default)).attrs) l 0) ({ data := #[] })))))]] (!(seq (getA (((f.getD i default)).attrs) l 0) ({ data := #[] })) && decide ((i : Int) < ((f.length : Int) - 1))) (fun h13 => ?_) (fun h13 => ?_)
     ·
      (try simp only [decide_eq_true_eq, decide_eq_false_iff_not, Int.not_lt, Int.not_le, Bool.not_eq_true', Bool.not_eq_false', Bool.and_eq_true, Bool.and_eq_false_iff] at h13)
      refine .back [.r [], .le (.nB 257 2 2), .le (.nB 257 3 3), .r [(2, X (rowC attrT [] (rowC elemT [] X0))), (3, X (rowC dstepT [({ kind := 2, n := 1, attrs := [], elems := [] } : DStep)] (Xap 4 dstepT 192 o [({ kind := 2, n := 1, attrs := [], elems := [] } : DStep)])))], .r [(0, X (Xn ((i : Int) + 1)))]] [(192, 192)] (ih8 ((i + 1), (o ++ [({ kind := 2, n := 1, attrs := [], elems := [] } : DStep)])) ?_ ?_)
      ·
       refine ⟨by omega, ?_⟩
       rw [I8.2, stpL_succ, unit_cut h13]
      ·
       ((try dsimp only); omega)
     ·
      (try simp only [decide_eq_true_eq, decide_eq_false_iff_not, Int.not_lt, Int.not_le, Bool.not_eq_true', Bool.not_eq_false', Bool.and_eq_true, Bool.and_eq_false_iff] at h13)
      refine .br [.r [(3, X (Xc0 (fc_get (((f.getD i default)).attrs) k) X0))]] (!(seq (getA (((f.getD i default)).attrs) k 0) ({ data := #[] }))) (fun h15 => ?_) (fun h15 => ?_)
      ·
       (try simp only [Bool.not_eq_true', Bool.not_eq_false'] at h15)
       refine .br [.r [(5, X (rowC attrT [({ name := k, val := { data := #[] } } : Attr)] (Xan attrT 529 [({ name := k, val := { data := #[] } } : Attr)])))], .r []] (!(seq (getA (((f.getD i default)).attrs) l 0) ({ data := #[] }))) (fun h17 => ?_) (fun h17 => ?_)
       ·
        (try simp only [Bool.not_eq_true', Bool.not_eq_false'] at h17)
        refine .br [.r [(5, X (rowC attrT [({ name := l, val := { data := #[] } } : Attr)] (Xap 2 attrT 529 [({ name := k, val := { data := #[] } } : Attr)] [({ name := l, val := { data := #[] } } : Attr)])))], .r []] ((([({ name := k, val := { data := #[] } } : Attr)] ++ [({ name := l, val := { data := #[] } } : Attr)]).length : Int) == 2) (fun h19 => ?_) (fun h19 => ?_)
        ·
         (try simp only [beq_iff_eq, beq_eq_false_iff_ne, ne_eq] at h19)
         refine .at 657 [(192, 192), (257, 257), (529, 529)] ([(0, VL 3 elemT f), (1, VI 0), (2, VI (f.length : Int)), (3, VS k), (4, VS l), (13, .row 192 o.length), (16, .ptr 257 0), (36, VL 3 elemT f), (37, VI (f.length : Int)), (38, VI (i : Int)), (89, VB ((([({ name := k, val := { data := #[] } } : Attr)] ++ [({ name := l, val := { data := #[] } } : Attr)]).length : Int) == 2))], [(192, OR 4 dstepT o), (257, .box [VI 0, VI 1, .row 529 (([({ name := k, val := { data := #[] } } : Attr)] ++ [({ name := l, val := { data := #[] } } : Attr)]).length), VN]), (529, OR 2 attrT ([({ name := k, val := { data := #[] } } : Attr)] ++ [({ name := l, val := { data := #[] } } : Attr)]))]) ?_
         refine .back [.r [], .le (.nB 257 3 3), .r [(2, X (rowC attrT [({ name := { data := #[97, 100, 100] }, val := { data := #[] } } : Attr), ({ name := { data := #[99, 117, 116] }, val := { data := #[] } } : Attr)] (rowC elemT [] X0))), (3, X (rowC dstepT [({ kind := 0, n := 1, attrs := [({ name := { data := #[97, 100, 100] }, val := { data := #[] } } : Attr), ({ name := { data := #[99, 117, 116] }, val := { data := #[] } } : Attr)], elems := [] } : DStep)] (Xap 4 dstepT 192 o [({ kind := 0, n := 1, attrs := [({ name := { data := #[97, 100, 100] }, val := { data := #[] } } : Attr), ({ name := { data := #[99, 117, 116] }, val := { data := #[] } } : Attr)], elems := [] } : DStep)])))], .r [(0, X (Xn ((i : Int) + 1)))]] [(192, 192)] (ih8 ((i + 1), (o ++ [({ kind := 0, n := 1, attrs := [({ name := { data := #[97, 100, 100] }, val := { data := #[] } } : Attr), ({ name := { data := #[99, 117, 116] }, val := { data := #[] } } : Attr)], elems := [] } : DStep)])) ?_ ?_)
         ·
          refine ⟨by omega, ?_⟩
          rw [I8.2, stpL_succ, unit_keep h13, stpC_kl h15 h17]
          rfl
         ·
          ((try dsimp only); omega)
        ·
         (try simp only [beq_iff_eq, beq_eq_false_iff_ne, ne_eq] at h19)
         refine .at 657 [(192, 192), (257, 257), (529, 529)] ([(0, VL 3 elemT f), (1, VI 0), (2, VI (f.length : Int)), (3, VS k), (4, VS l), (13, .row 192 o.length), (16, .ptr 257 0), (36, VL 3 elemT f), (37, VI (f.length : Int)), (38, VI (i : Int)), (89, VB ((([({ name := k, val := { data := #[] } } : Attr)] ++ [({ name := l, val := { data := #[] } } : Attr)]).length : Int) == 2))], [(192, OR 4 dstepT o), (257, .box [VI 0, VI 1, .row 529 (([({ name := k, val := { data := #[] } } : Attr)] ++ [({ name := l, val := { data := #[] } } : Attr)]).length), VN]), (529, OR 2 attrT ([({ name := k, val := { data := #[] } } : Attr)] ++ [({ name := l, val := { data := #[] } } : Attr)]))]) ?_
         refine .back [.le (.nB 257 3 3), .r [(2, X (rowC attrT ([({ name := k, val := { data := #[] } } : Attr)] ++ [({ name := l, val := { data := #[] } } : Attr)]) (rowC elemT [] X0))), (3, X (rowC dstepT [({ kind := 0, n := 1, attrs := ([({ name := k, val := { data := #[] } } : Attr)] ++ [({ name := l, val := { data := #[] } } : Attr)]), elems := [] } : DStep)] (Xap 4 dstepT 192 o [({ kind := 0, n := 1, attrs := ([({ name := k, val := { data := #[] } } : Attr)] ++ [({ name := l, val := { data := #[] } } : Attr)]), elems := [] } : DStep)])))], .r [(0, X (Xn ((i : Int) + 1)))]] [(192, 192)] (ih8 ((i + 1), (o ++ [({ kind := 0, n := 1, attrs := ([({ name := k, val := { data := #[] } } : Attr)] ++ [({ name := l, val := { data := #[] } } : Attr)]), elems := [] } : DStep)])) ?_ ?_)
         ·
          simp at h19
         ·
          ((try dsimp only); omega)
       ·
        (try simp only [Bool.not_eq_true', Bool.not_eq_false'] at h17)
        refine .br [.r []] (([({ name := k, val := { data := #[] } } : Attr)].length : Int) == 2) (fun h19 => ?_) (fun h19 => ?_)
        ·
         (try simp only [beq_iff_eq, beq_eq_false_iff_ne, ne_eq] at h19)
         refine .at 593 [(192, 192), (257, 257), (529, 529)] ([(0, VL 3 elemT f), (1, VI 0), (2, VI (f.length : Int)), (3, VS k), (4, VS l), (13, .row 192 o.length), (16, .ptr 257 0), (36, VL 3 elemT f), (37, VI (f.length : Int)), (38, VI (i : Int)), (89, VB (([({ name := k, val := { data := #[] } } : Attr)].length : Int) == 2))], [(192, OR 4 dstepT o), (257, .box [VI 0, VI 1, .row 529 ([({ name := k, val := { data := #[] } } : Attr)].length), VN]), (529, OR 2 attrT [({ name := k, val := { data := #[] } } : Attr)])]) ?_
         refine .back [.r [], .le (.nB 257 3 3), .r [(2, X (rowC attrT [({ name := { data := #[97, 100, 100] }, val := { data := #[] } } : Attr), ({ name := { data := #[99, 117, 116] }, val := { data := #[] } } : Attr)] (rowC elemT [] X0))), (3, X (rowC dstepT [({ kind := 0, n := 1, attrs := [({ name := { data := #[97, 100, 100] }, val := { data := #[] } } : Attr), ({ name := { data := #[99, 117, 116] }, val := { data := #[] } } : Attr)], elems := [] } : DStep)] (Xap 4 dstepT 192 o [({ kind := 0, n := 1, attrs := [({ name := { data := #[97, 100, 100] }, val := { data := #[] } } : Attr), ({ name := { data := #[99, 117, 116] }, val := { data := #[] } } : Attr)], elems := [] } : DStep)])))], .r [(0, X (Xn ((i : Int) + 1)))]] [(192, 192)] (ih8 ((i + 1), (o ++ [({ kind := 0, n := 1, attrs := [({ name := { data := #[97, 100, 100] }, val := { data := #[] } } : Attr), ({ name := { data := #[99, 117, 116] }, val := { data := #[] } } : Attr)], elems := [] } : DStep)])) ?_ ?_)
         ·
          simp at h19
         ·
          ((try dsimp only); omega)
        ·
         (try simp only [beq_iff_eq, beq_eq_false_iff_ne, ne_eq] at h19)
         refine .at 593 [(192, 192), (257, 257), (529, 529)] ([(0, VL 3 elemT f), (1, VI 0), (2, VI (f.length : Int)), (3, VS k), (4, VS l), (13, .row 192 o.length), (16, .ptr 257 0), (36, VL 3 elemT f), (37, VI (f.length : Int)), (38, VI (i : Int)), (89, VB (([({ name := k, val := { data := #[] } } : Attr)].length : Int) == 2))], [(192, OR 4 dstepT o), (257, .box [VI 0, VI 1, .row 529 ([({ name := k, val := { data := #[] } } : Attr)].length), VN]), (529, OR 2 attrT [({ name := k, val := { data := #[] } } : Attr)])]) ?_
         refine .back [.le (.nB 257 3 3), .r [(2, X (rowC attrT [({ name := k, val := { data := #[] } } : Attr)] (rowC elemT [] X0))), (3, X (rowC dstepT [({ kind := 0, n := 1, attrs := [({ name := k, val := { data := #[] } } : Attr)], elems := [] } : DStep)] (Xap 4 dstepT 192 o [({ kind := 0, n := 1, attrs := [({ name := k, val := { data := #[] } } : Attr)], elems := [] } : DStep)])))], .r [(0, X (Xn ((i : Int) + 1)))]] [(192, 192)] (ih8 ((i + 1), (o ++ [({ kind := 0, n := 1, attrs := [({ name := k, val := { data := #[] } } : Attr)], elems := [] } : DStep)])) ?_ ?_)
         ·
          refine ⟨by omega, ?_⟩
          rw [I8.2, stpL_succ, unit_keep h13, stpC_k h15 h17]
         ·
          ((try dsimp only); omega)
      ·
       (try simp only [Bool.not_eq_true', Bool.not_eq_false'] at h15)
       refine .br [.r []] (!(seq (getA (((f.getD i default)).attrs) l 0) ({ data := #[] }))) (fun h17 => ?_) (fun h17 => ?_)
       ·
        (try simp only [Bool.not_eq_true', Bool.not_eq_false'] at h17)
        refine .br [.r [(5, X (rowC attrT [({ name := l, val := { data := #[] } } : Attr)] (Xan attrT 537 [({ name := l, val := { data := #[] } } : Attr)])))], .r []] (([({ name := l, val := { data := #[] } } : Attr)].length : Int) == 2) (fun h19 => ?_) (fun h19 => ?_)
        ·
         (try simp only [beq_iff_eq, beq_eq_false_iff_ne, ne_eq] at h19)
         refine .at 593 [(192, 192), (257, 257), (537, 537)] ([(0, VL 3 elemT f), (1, VI 0), (2, VI (f.length : Int)), (3, VS k), (4, VS l), (13, .row 192 o.length), (16, .ptr 257 0), (36, VL 3 elemT f), (37, VI (f.length : Int)), (38, VI (i : Int)), (89, VB (([({ name := l, val := { data := #[] } } : Attr)].length : Int) == 2))], [(192, OR 4 dstepT o), (257, .box [VI 0, VI 1, .row 537 ([({ name := l, val := { data := #[] } } : Attr)].length), VN]), (537, OR 2 attrT [({ name := l, val := { data := #[] } } : Attr)])]) ?_
         refine .back [.r [], .le (.nB 257 3 3), .r [(2, X (rowC attrT [({ name := { data := #[97, 100, 100] }, val := { data := #[] } } : Attr), ({ name := { data := #[99, 117, 116] }, val := { data := #[] } } : Attr)] (rowC elemT [] X0))), (3, X (rowC dstepT [({ kind := 0, n := 1, attrs := [({ name := { data := #[97, 100, 100] }, val := { data := #[] } } : Attr), ({ name := { data := #[99, 117, 116] }, val := { data := #[] } } : Attr)], elems := [] } : DStep)] (Xap 4 dstepT 192 o [({ kind := 0, n := 1, attrs := [({ name := { data := #[97, 100, 100] }, val := { data := #[] } } : Attr), ({ name := { data := #[99, 117, 116] }, val := { data := #[] } } : Attr)], elems := [] } : DStep)])))], .r [(0, X (Xn ((i : Int) + 1)))]] [(192, 192)] (ih8 ((i + 1), (o ++ [({ kind := 0, n := 1, attrs := [({ name := { data := #[97, 100, 100] }, val := { data := #[] } } : Attr), ({ name := { data := #[99, 117, 116] }, val := { data := #[] } } : Attr)], elems := [] } : DStep)])) ?_ ?_)
         ·
          simp at h19
         ·
          ((try dsimp only); omega)
        ·
         (try simp only [beq_iff_eq, beq_eq_false_iff_ne, ne_eq] at h19)
         refine .at 593 [(192, 192), (257, 257), (537, 537)] ([(0, VL 3 elemT f), (1, VI 0), (2, VI (f.length : Int)), (3, VS k), (4, VS l), (13, .row 192 o.length), (16, .ptr 257 0), (36, VL 3 elemT f), (37, VI (f.length : Int)), (38, VI (i : Int)), (89, VB (([({ name := l, val := { data := #[] } } : Attr)].length : Int) == 2))], [(192, OR 4 dstepT o), (257, .box [VI 0, VI 1, .row 537 ([({ name := l, val := { data := #[] } } : Attr)].length), VN]), (537, OR 2 attrT [({ name := l, val := { data := #[] } } : Attr)])]) ?_
         refine .back [.le (.nB 257 3 3), .r [(2, X (rowC attrT [({ name := l, val := { data := #[] } } : Attr)] (rowC elemT [] X0))), (3, X (rowC dstepT [({ kind := 0, n := 1, attrs := [({ name := l, val := { data := #[] } } : Attr)], elems := [] } : DStep)] (Xap 4 dstepT 192 o [({ kind := 0, n := 1, attrs := [({ name := l, val := { data := #[] } } : Attr)], elems := [] } : DStep)])))], .r [(0, X (Xn ((i : Int) + 1)))]] [(192, 192)] (ih8 ((i + 1), (o ++ [({ kind := 0, n := 1, attrs := [({ name := l, val := { data := #[] } } : Attr)], elems := [] } : DStep)])) ?_ ?_)
         ·
          refine ⟨by omega, ?_⟩
          rw [I8.2, stpL_succ, unit_keep h13, stpC_l h15 h17]
         ·
          ((try dsimp only); omega)
       ·
        (try simp only [Bool.not_eq_true', Bool.not_eq_false'] at h17)
        refine .back [.r [], .f, .le (.nB 257 2 2), .le (.nB 257 3 3), .r [(2, X (rowC attrT [] (rowC elemT [] X0))), (3, X (rowC dstepT [({ kind := 0, n := 1, attrs := [], elems := [] } : DStep)] (Xap 4 dstepT 192 o [({ kind := 0, n := 1, attrs := [], elems := [] } : DStep)])))], .r [(0, X (Xn ((i : Int) + 1)))]] [(192, 192)] (ih8 ((i + 1), (o ++ [({ kind := 0, n := 1, attrs := [], elems := [] } : DStep)])) ?_ ?_)
        ·
         refine ⟨by omega, ?_⟩
         rw [I8.2, stpL_succ, unit_keep h13, stpC_0 h15 h17]
        ·
         ((try dsimp only); omega)
    ·
     (try simp only [decide_eq_true_eq, decide_eq_false_iff_not, Int.not_lt, Int.not_le, ge_iff_le, Bool.and_eq_true, Bool.and_eq_false_iff, Bool.not_eq_true', Bool.not_eq_false'] at h11)
     exfalso
     omega
   ·
    (try simp only [decide_eq_true_eq, decide_eq_false_iff_not, Int.not_lt, Int.not_le] at h8)
    have ho : o = stpL f k l f.length := by rw [I8.2, show i = f.length by omega]
    rw [← ho] at ul udn g2 g3
    have e1 : ((doneD (unitsT f k l f.length)) : List DStep) = (tidyL o) := by
     first | rw [g2] | rw [g3]
    have e2 : ((tidyE o) : Int) = 0 := by
     first | rw [g2] | rw [g3]
    exact .finE [.r [(1, X (Xc1 209 (fc_dTidy o (by assumption) (by omega) (by omega)) (rowC dstepT o X0)))]] [] (fun (z0, z1) => (.tup [VL 4 dstepT z0, VI z1], [])) (((tidyL o) : List DStep), ((tidyE o) : Int)) (((doneD (unitsT f k l f.length)) : List DStep), (0 : Int)) (pr e1 e2.symm)

theorem fc_accept (f : List Elem) (hp : flowE f = 0) (hh : ∀ e ∈ f, hasA e.attrs hidB = false) (hlen : f.length ≤ 100000000) : FC Try.prog 65 [VL 3 elemT f, VI 0, VI (f.length : Int)] (app emp []) (.tup [VL 4 dstepT (doneD (unitsT f addB cutB f.length)), VI 0]) (app emp []) := by
 refine .go Try.f65 ?_
 refine .len 0 (fun hl0 => ?_)
 have e1 : ((doneD (unitsT f addB cutB f.length)) : List DStep) = (doneD (unitsT f addB cutB (f).length)) := by
  (first | omega | with_reducible exact fun h => h | (intro hq; rw [hq]; done) | (intro hq; rw [hq]; rfl) | (simp only [List.length_map]; done) | (simp only [List.length_map]; omega) | (simp; omega) | (simp; done))
 exact .finE [.r [], .r [(3, X (Xc1 40 (fc_settle f addB cutB (by first | exact .inl ⟨rfl, rfl⟩ | exact .inr ⟨rfl, rfl⟩) (by assumption) (by assumption) (by omega)) X0))]] [] (fun z0 => (.tup [VL 4 dstepT z0, VI 0], [])) ((doneD (unitsT f addB cutB (f).length)) : List DStep) ((doneD (unitsT f addB cutB f.length)) : List DStep) e1

theorem fc_reject (f : List Elem) (hp : flowE f = 0) (hh : ∀ e ∈ f, hasA e.attrs hidB = false) (hlen : f.length ≤ 100000000) : FC Try.prog 66 [VL 3 elemT f, VI 0, VI (f.length : Int)] (app emp []) (.tup [VL 4 dstepT (doneD (unitsT f cutB addB f.length)), VI 0]) (app emp []) := by
 refine .go Try.f66 ?_
 refine .len 0 (fun hl0 => ?_)
 have e1 : ((doneD (unitsT f cutB addB f.length)) : List DStep) = (doneD (unitsT f cutB addB (f).length)) := by
  (first | omega | with_reducible exact fun h => h | (intro hq; rw [hq]; done) | (intro hq; rw [hq]; rfl) | (simp only [List.length_map]; done) | (simp only [List.length_map]; omega) | (simp; omega) | (simp; done))
 exact .finE [.r [], .r [(3, X (Xc1 40 (fc_settle f cutB addB (by first | exact .inl ⟨rfl, rfl⟩ | exact .inr ⟨rfl, rfl⟩) (by assumption) (by assumption) (by omega)) X0))]] [] (fun z0 => (.tup [VL 4 dstepT z0, VI 0], [])) ((doneD (unitsT f cutB addB (f).length)) : List DStep) ((doneD (unitsT f cutB addB f.length)) : List DStep) e1

theorem fc_settleE (f : List Elem) (k l : ByteArray) (n : Int) (hp : ¬ flowE f = 0) : FC Try.prog 119 [VL 3 elemT f, VI 0, VI n, VS k, VS l] (app emp []) (.tup [VL 4 dstepT [], VI (flowE f)]) (app emp []) := by
 refine .go Try.f119 ?_
 refine .len 0 (fun hl0 => ?_)
 refine .br [.r [], .r [(1, X (Xc0 (fc_flowCheck f) X0))], .r []] ((flowE f) != 0) (fun h2 => ?_) (fun h2 => ?_)
 ·
  (try simp only [bne_iff_ne, bne_eq_false_iff_eq, ne_eq] at h2)
  exact .fin [.r [], .le (.nL 10 4)] []
 ·
  (try simp only [bne_iff_ne, bne_eq_false_iff_eq, ne_eq] at h2)
  exfalso
  omega

theorem fc_acceptE (f : List Elem) (n : Int) (hp : ¬ flowE f = 0) : FC Try.prog 65 [VL 3 elemT f, VI 0, VI n] (app emp []) (.tup [VL 4 dstepT [], VI (flowE f)]) (app emp []) := by
 refine .go Try.f65 ?_
 refine .len 0 (fun hl0 => ?_)
 exact .fin [.r [], .r [(3, X (Xc1 40 (fc_settleE f ({ data := #[97, 100, 100] }) ({ data := #[99, 117, 116] }) n (by assumption)) X0))]] []

theorem fc_rejectE (f : List Elem) (n : Int) (hp : ¬ flowE f = 0) : FC Try.prog 66 [VL 3 elemT f, VI 0, VI n] (app emp []) (.tup [VL 4 dstepT [], VI (flowE f)]) (app emp []) := by
 refine .go Try.f66 ?_
 refine .len 0 (fun hl0 => ?_)
 exact .fin [.r [], .r [(3, X (Xc1 40 (fc_settleE f ({ data := #[99, 117, 116] }) ({ data := #[97, 100, 100] }) n (by assumption)) X0))]] []
end Go.Ch
end
section
set_option linter.unusedVariables false
set_option linter.unusedSimpArgs false
set_option maxRecDepth 100000
set_option maxHeartbeats 4000000
open Go Go.Proofs Go.Ab
namespace Go.Ch
theorem fc_changes (f : List Elem) (hp : partE f 0 = 0) (hlen : f.length ≤ 100000000) : FC Try.prog 120 [VL 3 elemT f] (app emp []) (.tup [VL 2 spanT (chL f f.length), VI 0]) (app emp []) := by
 refine .go Try.f120 ?_
 refine .len 0 (fun hl0 => ?_)
 refine .br [.r [], .r [(1, X (Xc0 (fc_checkPart f) X0))], .r []] ((partE f 0) != 0) (fun h2 => ?_) (fun h2 => ?_)
 ·
  (try simp only [bne_iff_ne, bne_eq_false_iff_eq, ne_eq] at h2)
  exfalso
  omega
 ·
  (try simp only [bne_iff_ne, bne_eq_false_iff_eq, ne_eq] at h2)
  refine .loop (α := Nat × (List Span)) [.r [], .r [(1, X (Xl elemT f))], .le (.nR 5 2)] 89 (fun (i, o) => ([(0, VL 3 elemT f), (5, .row 88 o.length), (16, VL 3 elemT f), (17, VI (f.length : Int)), (18, VI (i : Int))], [(88, OR 2 spanT o)])) (fun (i, o) => i ≤ f.length ∧ o = chL f i) (fun (i, o) => f.length - i) (0, []) ?_ ?_
  ·
   exact ⟨by omega, rfl⟩
  rintro ⟨i, o⟩ I6 ih6
  try dsimp only at I6
  have ol : o.length ≤ i := by rw [I6.2]; exact (chL_bd f i).1
  have oz : 0 < o.length → 0 ≤ (o.getD (o.length - 1) default).to ∧ (o.getD (o.length - 1) default).to ≤ (i : Int) := fun h => by rw [I6.2] at h ⊢; exact chL_last h
  refine .br [.r []] (decide ((i : Int) < (f.length : Int))) (fun h6 => ?_) (fun h6 => ?_)
  ·
   (try simp only [decide_eq_true_eq, decide_eq_false_iff_not, Int.not_lt, Int.not_le] at h6)
   refine .br [.r [(1, X (Xi elemT f (i : Int)))], .r [(2, X (Xc0 (fc_get (((f.getD i default)).attrs) ({ data := #[97, 100, 100] })) X0)), (5, X (Xc0 (fc_get (((f.getD i default)).attrs) ({ data := #[99, 117, 116] })) X0))], .r [(4, Xv 1 (seq (getA (((f.getD i default)).attrs) ({ data := #[97, 100, 100] }) 0) ({ data := #[] })) X0), (5, X (Xk (seq (getA (((f.getD i default)).attrs) ({ data := #[97, 100, 100] }) 0) ({ data := #[] }))))]] (seq (getA (((f.getD i default)).attrs) ({ data := #[97, 100, 100] }) 0) ({ data := #[] }) && seq (getA (((f.getD i default)).attrs) ({ data := #[99, 117, 116] }) 0) ({ data := #[] })) (fun h9 => ?_) (fun h9 => ?_)
   ·
    (try simp only [Bool.and_eq_true, Bool.and_eq_false_iff, Bool.not_eq_true', Bool.not_eq_false'] at h9)
    refine .back [.r [(0, X (Xn ((i : Int) + 1)))]] [(88, 88)] (ih6 ((i + 1), o) ?_ ?_)
    ·
     refine ⟨by omega, ?_⟩
     rw [I6.2]; exact (chL_1 h9).symm
    ·
     ((try dsimp only); omega)
   ·
    (try simp only [Bool.and_eq_true, Bool.and_eq_false_iff, Bool.not_eq_true', Bool.not_eq_false'] at h9)
    refine .br [.r [(2, X (Xn ((o.length : Int) - 1)))], .r [(5, Xv 2 (decide (((o.length : Int) - 1) ≥ 0)) (Xp' spanT 88 o ((o.length : Int) - 1) (o.length - 1)) (fun hg => by (try simp only [decide_eq_true_eq, decide_eq_false_iff_not, Int.not_lt, Int.not_le, ge_iff_le] at hg); exact ⟨(by omega), (by omega)⟩)), (6, Xv 1 (decide (((o.length : Int) - 1) ≥ 0)) X0), (7, Xv 1 (decide (((o.length : Int) - 1) ≥ 0)) (Xe spanT o (o.length - 1))), (9, Xv 2 (decide (((o.length : Int) - 1) ≥ 0)) X0), (10, X (Xk (decide (((o.length : Int) - 1) ≥ 0)))), (14, Xv 1 (decide (((o.length : Int) - 1) ≥ 0) && ((((o.getD (o.length - 1) default)).to) == (i : Int))) (Xn ((i : Int) - 1)) (fun hg => by (try simp only [decide_eq_true_eq, decide_eq_false_iff_not, Int.not_lt, Int.not_le, ge_iff_le, Bool.and_eq_true, Bool.and_eq_false_iff, Bool.not_eq_true', Bool.not_eq_false', beq_iff_eq, beq_eq_false_iff_ne, ne_eq] at hg); exact (by omega))), (15, Xv 2 (decide (((o.length : Int) - 1) ≥ 0) && ((((o.getD (o.length - 1) default)).to) == (i : Int))) (Xi' elemT f ((i : Int) - 1) (i - 1)) (fun hg => by (try simp only [decide_eq_true_eq, decide_eq_false_iff_not, Int.not_lt, Int.not_le, ge_iff_le, Bool.and_eq_true, Bool.and_eq_false_iff, Bool.not_eq_true', Bool.not_eq_false', beq_iff_eq, beq_eq_false_iff_ne, ne_eq] at hg); exact ⟨(by omega), (by omega)⟩)), (16, Xv 1 (decide (((o.length : Int) - 1) ≥ 0) && ((((o.getD (o.length - 1) default)).to) == (i : Int))) X0), (17, Xv 1 (decide (((o.length : Int) - 1) ≥ 0) && ((((o.getD (o.length - 1) default)).to) == (i : Int))) X0), (18, Xv 1 (decide (((o.length : Int) - 1) ≥ 0) && ((((o.getD (o.length - 1) default)).to) == (i : Int))) (Xc0 (fc_get (((f.getD (i - 1) default)).attrs) ({ data := #[97, 100, 100] })) X0)), (20, Xv 2 (decide (((o.length : Int) - 1) ≥ 0) && ((((o.getD (o.length - 1) default)).to) == (i : Int))) X0), (21, X (Xk (decide (((o.length : Int) - 1) ≥ 0) && ((((o.getD (o.length - 1) default)).to) == (i : Int))))), (25, Xv 1 ((decide (((o.length : Int) - 1) ≥ 0) && ((((o.getD (o.length - 1) default)).to) == (i : Int))) && seq (getA (((f.getD (i - 1) default)).attrs) ({ data := #[97, 100, 100] }) 0) (getA (((f.getD i default)).attrs) ({ data := #[97, 100, 100] }) 0)) (Xn ((i : Int) - 1)) (fun hg => by (try simp only [decide_eq_true_eq, decide_eq_false_iff_not, Int.not_lt, Int.not_le, ge_iff_le, Bool.and_eq_true, Bool.and_eq_false_iff, Bool.not_eq_true', Bool.not_eq_false', beq_iff_eq, beq_eq_false_iff_ne, ne_eq] at hg); exact (by omega))), (26, Xv 2 ((decide (((o.length : Int) - 1) ≥ 0) && ((((o.getD (o.length - 1) default)).to) == (i : Int))) && seq (getA (((f.getD (i - 1) default)).attrs) ({ data := #[97, 100, 100] }) 0) (getA (((f.getD i default)).attrs) ({ data := #[97, 100, 100] }) 0)) (Xi' elemT f ((i : Int) - 1) (i - 1)) (fun hg => by (try simp only [decide_eq_true_eq, decide_eq_false_iff_not, Int.not_lt, Int.not_le, ge_iff_le, Bool.and_eq_true, Bool.and_eq_false_iff, Bool.not_eq_true', Bool.not_eq_false', beq_iff_eq, beq_eq_false_iff_ne, ne_eq] at hg); exact ⟨(by omega), (by omega)⟩)), (27, Xv 1 ((decide (((o.length : Int) - 1) ≥ 0) && ((((o.getD (o.length - 1) default)).to) == (i : Int))) && seq (getA (((f.getD (i - 1) default)).attrs) ({ data := #[97, 100, 100] }) 0) (getA (((f.getD i default)).attrs) ({ data := #[97, 100, 100] }) 0)) X0), (28, Xv 1 ((decide (((o.length : Int) - 1) ≥ 0) && ((((o.getD (o.length - 1) default)).to) == (i : Int))) && seq (getA (((f.getD (i - 1) default)).attrs) ({ data := #[97, 100, 100] }) 0) (getA (((f.getD i default)).attrs) ({ data := #[97, 100, 100] }) 0)) X0), (29, Xv 1 ((decide (((o.length : Int) - 1) ≥ 0) && ((((o.getD (o.length - 1) default)).to) == (i : Int))) && seq (getA (((f.getD (i - 1) default)).attrs) ({ data := #[97, 100, 100] }) 0) (getA (((f.getD i default)).attrs) ({ data := #[97, 100, 100] }) 0)) (Xc0 (fc_get (((f.getD (i - 1) default)).attrs) ({ data := #[99, 117, 116] })) X0)), (31, Xv 2 ((decide (((o.length : Int) - 1) ≥ 0) && ((((o.getD (o.length - 1) default)).to) == (i : Int))) && seq (getA (((f.getD (i - 1) default)).attrs) ({ data := #[97, 100, 100] }) 0) (getA (((f.getD i default)).attrs) ({ data := #[97, 100, 100] }) 0)) X0), (32, X (Xk ((decide (((o.length : Int) - 1) ≥ 0) && ((((o.getD (o.length - 1) default)).to) == (i : Int))) && seq (getA (((f.getD (i - 1) default)).attrs) ({ data := #[97, 100, 100] }) 0) (getA (((f.getD i default)).attrs) ({ data := #[97, 100, 100] }) 0))))]] (((decide (((o.length : Int) - 1) ≥ 0) && ((((o.getD (o.length - 1) default)).to) == (i : Int))) && seq (getA (((f.getD (i - 1) default)).attrs) ({ data := #[97, 100, 100] }) 0) (getA (((f.getD i default)).attrs) ({ data := #[97, 100, 100] }) 0)) && seq (getA (((f.getD (i - 1) default)).attrs) ({ data := #[99, 117, 116] }) 0) (getA (((f.getD i default)).attrs) ({ data := #[99, 117, 116] }) 0)) (fun h11 => ?_) (fun h11 => ?_)
    ·
     (try simp only [decide_eq_true_eq, decide_eq_false_iff_not, Int.not_lt, Int.not_le, ge_iff_le, Bool.and_eq_true, Bool.and_eq_false_iff, Bool.not_eq_true', Bool.not_eq_false', beq_iff_eq, beq_eq_false_iff_ne, ne_eq] at h11)
     have oz2 := oz (by omega)
     refine .back [.r [(2, X (Xp' spanT 88 o ((o.length : Int) - 1) (o.length - 1))), (4, X (Xe spanT o (o.length - 1))), (5, X (Xn ((((o.getD (o.length - 1) default)).to) + 1))), (6, X (Xp' spanT 88 o ((o.length : Int) - 1) (o.length - 1))), (8, X (Xs 2 spanT 88 o (o.length - 1) ({ fr := ((o.getD (o.length - 1) default)).fr, to := ((((o.getD (o.length - 1) default)).to) + 1) } : Span)))], .r [(0, X (Xn ((i : Int) + 1)))], .le (.eq 5 (.row 88 o.length) (.row 88 ((o.set (o.length - 1) ({ fr := ((o.getD (o.length - 1) default)).fr, to := ((((o.getD (o.length - 1) default)).to) + 1) } : Span)).length)) (.of_eq (by simp only [List.length_set])))] [(88, 88)] (ih6 ((i + 1), (o.set (o.length - 1) ({ fr := ((o.getD (o.length - 1) default)).fr, to := ((((o.getD (o.length - 1) default)).to) + 1) } : Span))) ?_ ?_)
     ·
      exact ⟨by omega, (chL_2 I6.2 h9 ⟨by omega, h11.1.1.2, h11.1.2, h11.2⟩).symm⟩
     ·
      ((try dsimp only); omega)
    ·
     (try simp only [decide_eq_true_eq, decide_eq_false_iff_not, Int.not_lt, Int.not_le, ge_iff_le, Bool.and_eq_true, Bool.and_eq_false_iff, Bool.not_eq_true', Bool.not_eq_false', beq_iff_eq, beq_eq_false_iff_ne, ne_eq] at h11)
     refine .back [.r [(3, X (Xn ((i : Int) + 1))), (6, X (rowC spanT [({ fr := (i : Int), to := ((i : Int) + 1) } : Span)] (Xap 2 spanT 88 o [({ fr := (i : Int), to := ((i : Int) + 1) } : Span)])))], .r [(0, X (Xn ((i : Int) + 1)))]] [(88, 88)] (ih6 ((i + 1), (o ++ [({ fr := (i : Int), to := ((i : Int) + 1) } : Span)])) ?_ ?_)
     ·
      refine ⟨by omega, (chL_3 I6.2 h9 ?_).symm⟩
      rintro ⟨a, b, c, d⟩
      rcases h11 with ((h | h) | h) | h
      · omega
      · exact h b
      · exact absurd (c.symm.trans h) (by decide)
      · exact absurd (d.symm.trans h) (by decide)
     ·
      ((try dsimp only); omega)
  ·
   (try simp only [decide_eq_true_eq, decide_eq_false_iff_not, Int.not_lt, Int.not_le] at h6)
   have e1 : ((chL f f.length) : List Span) = o := by
    rw [I6.2, show i = f.length by omega]
   exact .finE [.r [], .le (.fr 2 [(o.length : Nat) = (List.map spanT o).length] ⟨lm, trivial⟩)] [] (fun z0 => (.tup [VL 2 spanT z0, VI 0], [])) (o : List Span) ((chL f f.length) : List Span) e1
end Go.Ch
end
section
set_option linter.unusedVariables false
set_option linter.unusedSimpArgs false
set_option maxRecDepth 100000
set_option maxHeartbeats 4000000
open Go Go.Proofs Go.Ab
namespace Go.Ch
theorem fc_shows (f : List Elem) (d : List DStep) (mode : Int) (g : List Elem) (l : List Int) (hv : DValid d) (hd : DN 100000000000 d) (ho : oldD d = f.length) (ha : AN 100000000000 f) (hf : ∀ e ∈ f, VG false e.attrs) (hp : partE f 0 = 0) (hm : mode = 0 ∨ mode = 1) (hlen : f.length ≤ 100000000)
    (hg : rawD f d = g) (hl : plcL f mode f.length = l) (h1 : g.length = l.length) (hq : ∀ i, i < g.length → ∃ j : Nat, l.getD i default = (j : Int) ∧ j < f.length ∧ (g.getD i default).char = (f.getD j default).char ∧ (g.getD i default).ref = (f.getD j default).ref ∧ (mode = 0 → hasA (g.getD i default).attrs cutB = false) ∧ (mode = 1 → hasA (g.getD i default).attrs addB = false))
    (hc3 : (chL f f.length).length = 0 → g = f) : FC Try.prog 68 [VL 3 elemT f, VL 4 dstepT d, VI mode] (app emp []) (VB true) (app emp []) := by
 refine .go Try.f68 ?_
 refine .len 0 (fun hl0 => ?_)
 refine .len 1 (fun hl1 => ?_)
 have hgl : g.length ≤ f.length := by rw [h1, ← hl]; exact plcL_len _ _ _
 refine .br [.r [], .r [(2, X (Xc1 24 (fc_after f d (by assumption) (by assumption) (by omega) (by assumption) (by assumption)) X0))], .le (.eq 7 (VL 3 elemT (rawD f d)) (VL 3 elemT g) (.of_eq (by rw [hg]))), .r [(2, X (Xc1 56 (fc_shown f mode (by assumption) (by omega) (by omega)) X0))], .le (.eq 8 (VL 1 intT (plcL f mode (f).length)) (VL 1 intT l) (.of_eq (by rw [hl]))), .r [(4, Xv 1 (!false) (Xl intT l)), (6, Xv 1 (!false) (Xl elemT g)), (7, Xv 2 (!false) X0), (8, X (Xk' false))]] (false || ((l.length : Int) != (g.length : Int))) (fun h3 => ?_) (fun h3 => ?_)
 ·
  (try simp only [Bool.or_eq_true, Bool.or_eq_false_iff, bne_iff_ne, bne_eq_false_iff_eq, ne_eq] at h3)
  exfalso
  simp at h3; omega
 ·
  (try simp only [Bool.or_eq_true, Bool.or_eq_false_iff, bne_iff_ne, bne_eq_false_iff_eq, ne_eq] at h3)
  refine .loop (α := Nat) [.r [(1, X (Xl elemT g))]] 200 (fun i => ([(0, VL 3 elemT f), (2, VI mode), (7, VL 3 elemT g), (8, VL 1 intT l), (32, VI (g.length : Int)), (33, VI (i : Int))], [])) (fun i => i ≤ g.length) (fun i => g.length - i) (0 : Nat) ?_ ?_
  ·
   show _ ≤ _; omega
  rintro i I6 ih6
  try dsimp only at I6
  refine .br [.r []] (decide ((i : Int) < (g.length : Int))) (fun h6 => ?_) (fun h6 => ?_)
  ·
   (try simp only [decide_eq_true_eq, decide_eq_false_iff_not, Int.not_lt, Int.not_le] at h6)
   obtain ⟨j, j1, j2, j3, j4, j5, j6⟩ := hq i (by omega)
   have jn : (l.getD i default).toNat = j := by omega
   have j5 := fun _ : Unit => j5
   have j6 := fun _ : Unit => j6
   have hq := fun _ : Unit => hq
   refine .br [.r [], .r [(2, X (Xi elemT g (i : Int))), (8, X (Xi intT l (i : Int))), (10, X (Xi elemT f (l.getD i default))), (17, Xv 2 (!((((g.getD i default)).char) != (((f.getD (Int.toNat (l.getD i default)) default)).char))) (Xi elemT g (i : Int)) (fun hg => by (try simp only [Bool.not_eq_true', Bool.not_eq_false', bne_iff_ne, bne_eq_false_iff_eq, ne_eq] at hg); exact ⟨(by omega), (by omega)⟩)), (18, Xv 1 (!((((g.getD i default)).char) != (((f.getD (Int.toNat (l.getD i default)) default)).char))) X0), (19, Xv 1 (!((((g.getD i default)).char) != (((f.getD (Int.toNat (l.getD i default)) default)).char))) X0), (23, Xv 2 (!((((g.getD i default)).char) != (((f.getD (Int.toNat (l.getD i default)) default)).char))) (Xi intT l (i : Int)) (fun hg => by (try simp only [Bool.not_eq_true', Bool.not_eq_false', bne_iff_ne, bne_eq_false_iff_eq, ne_eq] at hg); exact ⟨(by omega), (by omega)⟩)), (24, Xv 1 (!((((g.getD i default)).char) != (((f.getD (Int.toNat (l.getD i default)) default)).char))) X0), (25, Xv 2 (!((((g.getD i default)).char) != (((f.getD (Int.toNat (l.getD i default)) default)).char))) (Xi elemT f (l.getD i default)) (fun hg => by (try simp only [Bool.not_eq_true', Bool.not_eq_false', bne_iff_ne, bne_eq_false_iff_eq, ne_eq] at hg); exact ⟨(by omega), (by omega)⟩)), (26, Xv 1 (!((((g.getD i default)).char) != (((f.getD (Int.toNat (l.getD i default)) default)).char))) X0), (27, Xv 1 (!((((g.getD i default)).char) != (((f.getD (Int.toNat (l.getD i default)) default)).char))) X0), (28, Xv 2 (!((((g.getD i default)).char) != (((f.getD (Int.toNat (l.getD i default)) default)).char))) X0), (29, X (Xk' ((((g.getD i default)).char) != (((f.getD (Int.toNat (l.getD i default)) default)).char)))), (33, Xv 2 (!(((((g.getD i default)).char) != (((f.getD (Int.toNat (l.getD i default)) default)).char)) || ((((g.getD i default)).ref) != (((f.getD (Int.toNat (l.getD i default)) default)).ref)))) (Xi elemT g (i : Int)) (fun hg => by (try simp only [Bool.not_eq_true', Bool.not_eq_false', Bool.or_eq_true, Bool.or_eq_false_iff, bne_iff_ne, bne_eq_false_iff_eq, ne_eq] at hg); exact ⟨(by omega), (by omega)⟩)), (34, Xv 1 (!(((((g.getD i default)).char) != (((f.getD (Int.toNat (l.getD i default)) default)).char)) || ((((g.getD i default)).ref) != (((f.getD (Int.toNat (l.getD i default)) default)).ref)))) X0), (35, Xv 1 (!(((((g.getD i default)).char) != (((f.getD (Int.toNat (l.getD i default)) default)).char)) || ((((g.getD i default)).ref) != (((f.getD (Int.toNat (l.getD i default)) default)).ref)))) X0), (36, Xv 1 (!(((((g.getD i default)).char) != (((f.getD (Int.toNat (l.getD i default)) default)).char)) || ((((g.getD i default)).ref) != (((f.getD (Int.toNat (l.getD i default)) default)).ref)))) (Xc0 (fc_has (((g.getD i default)).attrs) ({ data := #[99, 117, 116] })) X0)), (37, Xv 1 (!(((((g.getD i default)).char) != (((f.getD (Int.toNat (l.getD i default)) default)).char)) || ((((g.getD i default)).ref) != (((f.getD (Int.toNat (l.getD i default)) default)).ref)))) X0), (39, Xv 1 ((!(((((g.getD i default)).char) != (((f.getD (Int.toNat (l.getD i default)) default)).char)) || ((((g.getD i default)).ref) != (((f.getD (Int.toNat (l.getD i default)) default)).ref)))) && (hasA (((g.getD i default)).attrs) ({ data := #[99, 117, 116] }))) X0), (40, Xka (!(((((g.getD i default)).char) != (((f.getD (Int.toNat (l.getD i default)) default)).char)) || ((((g.getD i default)).ref) != (((f.getD (Int.toNat (l.getD i default)) default)).ref)))) (hasA (((g.getD i default)).attrs) ({ data := #[99, 117, 116] }))), (41, X (Xk' (((((g.getD i default)).char) != (((f.getD (Int.toNat (l.getD i default)) default)).char)) || ((((g.getD i default)).ref) != (((f.getD (Int.toNat (l.getD i default)) default)).ref))))), (45, Xv 2 (!((((((g.getD i default)).char) != (((f.getD (Int.toNat (l.getD i default)) default)).char)) || ((((g.getD i default)).ref) != (((f.getD (Int.toNat (l.getD i default)) default)).ref))) || ((hasA (((g.getD i default)).attrs) ({ data := #[99, 117, 116] })) && (mode == 0)))) (Xi elemT g (i : Int)) (fun hg => by (try simp only [Bool.not_eq_true', Bool.not_eq_false', Bool.and_eq_true, Bool.and_eq_false_iff, Bool.or_eq_true, Bool.or_eq_false_iff, beq_iff_eq, beq_eq_false_iff_ne, ne_eq, bne_iff_ne, bne_eq_false_iff_eq] at hg); exact ⟨(by omega), (by omega)⟩)), (46, Xv 1 (!((((((g.getD i default)).char) != (((f.getD (Int.toNat (l.getD i default)) default)).char)) || ((((g.getD i default)).ref) != (((f.getD (Int.toNat (l.getD i default)) default)).ref))) || ((hasA (((g.getD i default)).attrs) ({ data := #[99, 117, 116] })) && (mode == 0)))) X0), (47, Xv 1 (!((((((g.getD i default)).char) != (((f.getD (Int.toNat (l.getD i default)) default)).char)) || ((((g.getD i default)).ref) != (((f.getD (Int.toNat (l.getD i default)) default)).ref))) || ((hasA (((g.getD i default)).attrs) ({ data := #[99, 117, 116] })) && (mode == 0)))) X0), (48, Xv 1 (!((((((g.getD i default)).char) != (((f.getD (Int.toNat (l.getD i default)) default)).char)) || ((((g.getD i default)).ref) != (((f.getD (Int.toNat (l.getD i default)) default)).ref))) || ((hasA (((g.getD i default)).attrs) ({ data := #[99, 117, 116] })) && (mode == 0)))) (Xc0 (fc_has (((g.getD i default)).attrs) ({ data := #[97, 100, 100] })) X0)), (49, Xv 1 (!((((((g.getD i default)).char) != (((f.getD (Int.toNat (l.getD i default)) default)).char)) || ((((g.getD i default)).ref) != (((f.getD (Int.toNat (l.getD i default)) default)).ref))) || ((hasA (((g.getD i default)).attrs) ({ data := #[99, 117, 116] })) && (mode == 0)))) X0), (51, Xv 1 ((!((((((g.getD i default)).char) != (((f.getD (Int.toNat (l.getD i default)) default)).char)) || ((((g.getD i default)).ref) != (((f.getD (Int.toNat (l.getD i default)) default)).ref))) || ((hasA (((g.getD i default)).attrs) ({ data := #[99, 117, 116] })) && (mode == 0)))) && (hasA (((g.getD i default)).attrs) ({ data := #[97, 100, 100] }))) X0), (52, Xka (!((((((g.getD i default)).char) != (((f.getD (Int.toNat (l.getD i default)) default)).char)) || ((((g.getD i default)).ref) != (((f.getD (Int.toNat (l.getD i default)) default)).ref))) || ((hasA (((g.getD i default)).attrs) ({ data := #[99, 117, 116] })) && (mode == 0)))) (hasA (((g.getD i default)).attrs) ({ data := #[97, 100, 100] }))), (53, X (Xk' ((((((g.getD i default)).char) != (((f.getD (Int.toNat (l.getD i default)) default)).char)) || ((((g.getD i default)).ref) != (((f.getD (Int.toNat (l.getD i default)) default)).ref))) || ((hasA (((g.getD i default)).attrs) ({ data := #[99, 117, 116] })) && (mode == 0)))))]] (((((((g.getD i default)).char) != (((f.getD (Int.toNat (l.getD i default)) default)).char)) || ((((g.getD i default)).ref) != (((f.getD (Int.toNat (l.getD i default)) default)).ref))) || ((hasA (((g.getD i default)).attrs) ({ data := #[99, 117, 116] })) && (mode == 0))) || ((hasA (((g.getD i default)).attrs) ({ data := #[97, 100, 100] })) && (mode == 1))) (fun h8 => ?_) (fun h8 => ?_)
   ·
    (try simp only [Bool.and_eq_true, Bool.and_eq_false_iff, Bool.not_eq_true', Bool.not_eq_false', Bool.or_eq_true, Bool.or_eq_false_iff, beq_iff_eq, beq_eq_false_iff_ne, ne_eq, bne_iff_ne, bne_eq_false_iff_eq] at h8)
    exfalso
    rw [jn] at h8
    rcases h8 with ((h | h) | h) | h
    · exact h j3
    · exact h j4
    · exact absurd (h.1.symm.trans (j5 () h.2)) (by decide)
    · exact absurd (h.1.symm.trans (j6 () h.2)) (by decide)
   ·
    (try simp only [Bool.and_eq_true, Bool.and_eq_false_iff, Bool.not_eq_true', Bool.not_eq_false', Bool.or_eq_true, Bool.or_eq_false_iff, beq_iff_eq, beq_eq_false_iff_ne, ne_eq, bne_iff_ne, bne_eq_false_iff_eq] at h8)
    refine .back [.r [(0, X (Xn ((i : Int) + 1)))]] [] (ih6 ((i + 1) : Nat) ?_ ?_)
    ·
     show _ ≤ _; omega
    ·
     ((try dsimp only); omega)
  ·
   (try simp only [decide_eq_true_eq, decide_eq_false_iff_not, Int.not_lt, Int.not_le] at h6)
   have e1 : ((true && (decide (((chL f (f).length).length : Int) > 0) || (sameF g f))) : Bool) = true := by
    by_cases q : (chL f f.length).length = 0
    · rw [hc3 q, sameF_self]; simp
    · simp; left; omega
   exact .finE [.r [(1, X (Xc1 216 (fc_changes f (by assumption) (by omega)) X0))], .r [(4, Xv 1 true (Xl spanT (chL f (f).length))), (5, Xv 1 true X0), (6, Xv 1 true X0), (9, Xv 2 (true && !(decide (((chL f (f).length).length : Int) > 0))) (Xc0 (fc_sameFlow g f) X0)), (10, Xko true (decide (((chL f (f).length).length : Int) > 0))), (11, X (Xk true))]] [] (fun z0 => (VB z0, [])) ((true && (decide (((chL f (f).length).length : Int) > 0) || (sameF g f))) : Bool) (true : Bool) e1.symm

theorem fc_showsT {f : List Elem} {k l : ByteArray} (h : KL k l) (hE : flowE f = 0) (hh : ∀ e ∈ f, hasA e.attrs hidB = false) (hlen : f.length ≤ 100000000) (ha : AN 100000000000 f) :
    FC Try.prog 68 [VL 3 elemT f, VL 4 dstepT (doneD (unitsT f k l f.length)), VI (modeOf l)] (app emp []) (VB true) (app emp []) := by
  obtain ⟨hp, hn, hl⟩ := flowE_ok hE
  obtain ⟨g1, g2, g3, g4, g5, g6, g7, g8, g9⟩ := track_law h hp hh hn hl hlen
  refine fc_shows f _ (modeOf l) (leftL f k l) _ g4 g5 g6 ha g1 hp (by unfold modeOf; split <;> simp) hlen g7 rfl g8 (fun i hi => ?_) (fun hc => ?_)
  · obtain ⟨j, q1, q2, q3, q4, q5⟩ := g9 i hi
    refine ⟨j, q1, q2, q3, q4, fun hm => ?_, fun hm => ?_⟩
    · rcases h with ⟨_, rfl⟩ | ⟨_, rfl⟩
      · exact q5
      · rw [mode_add] at hm; cases hm
    · rcases h with ⟨_, rfl⟩ | ⟨_, rfl⟩
      · rw [mode_cut] at hm; cases hm
      · exact q5
  · exact track_none h g1 hh hl (fun i hi => by obtain ⟨a, b⟩ := chL_none hc i hi; exact ⟨gotA_mt a, gotA_mt b⟩)

theorem fc_lawTrack (f : List Elem) (hsz : SzE f) (ha : AN 100000000000 f) (hlen : f.length ≤ 100000000) : FC Try.prog 15 [VL 3 elemT f] (app emp []) (VB true) (app emp []) := by
 refine .go Try.f15 ?_
 refine .len 0 (fun hl0 => ?_)
 refine .br [.r [], .r [(0, X (Xc0 fc_tracks X0)), (3, Xg (!false) (Xc0 fc_deltas X0)), (4, Xv 1 (!false) X0), (5, X (Xk' false))]] (false || false) (fun h1 => ?_) (fun h1 => ?_)
 ·
  (try simp only [Bool.or_eq_true, Bool.or_eq_false_iff] at h1)
  exfalso
  simp at h1
 ·
  (try simp only [Bool.or_eq_true, Bool.or_eq_false_iff] at h1)
  refine .loop (α := Nat) [.r [(1, X (Xl elemT f))]] 80 (fun i => ([(0, VL 3 elemT f), (15, VL 3 elemT f), (16, VI (f.length : Int)), (17, VI (i : Int))], [])) (fun i => i ≤ f.length ∧ ∀ j, j < i → hasA (f.getD j default).attrs hidB = false) (fun i => f.length - i) (0 : Nat) ?_ ?_
  ·
   exact ⟨by omega, fun j hj => by omega⟩
  rintro i I4 ih4
  try dsimp only at I4
  refine .br [.r []] (decide ((i : Int) < (f.length : Int))) (fun h4 => ?_) (fun h4 => ?_)
  ·
   (try simp only [decide_eq_true_eq, decide_eq_false_iff_not, Int.not_lt, Int.not_le] at h4)
   refine .br [.r [(0, X (Xi elemT f (i : Int)))], .r [(2, X (Xc0 (fc_has (((f.getD i default)).attrs) ({ data := #[104, 105, 100, 100, 101, 110] })) X0))]] (hasA (((f.getD i default)).attrs) ({ data := #[104, 105, 100, 100, 101, 110] })) (fun h6 => ?_) (fun h6 => ?_)
   ·
    exact .fin [.r []] []
   ·
    refine .back [.r [(0, X (Xn ((i : Int) + 1)))]] [] (ih4 ((i + 1) : Nat) ?_ ?_)
    ·
     refine ⟨by omega, fun j hj => ?_⟩
     by_cases q : j = i
     · subst q; exact h6
     · exact I4.2 j (by omega)
    ·
     ((try dsimp only); omega)
  ·
   (try simp only [decide_eq_true_eq, decide_eq_false_iff_not, Int.not_lt, Int.not_le] at h4)
   by_cases hE : flowE f = 0
   ·
    have hh : ∀ e ∈ f, hasA e.attrs hidB = false := fun e he => by
      obtain ⟨j, hj, rfl⟩ := List.mem_iff_getElem.1 he
      have := I4.2 j (by omega)
      rwa [show f.getD j default = f[j] by simp [List.getD, List.getElem?_eq_getElem hj]] at this
    refine .br [.r [(2, X (Xl elemT f)), (3, X (Xc1 112 (fc_accept f (by assumption) (by assumption) (by omega)) X0))], .r [(2, X (Xl elemT f)), (3, X (Xc1 184 (fc_reject f (by assumption) (by assumption) (by omega)) X0))], .r [(1, X (Xc0 (fc_flowError f (by assumption)) X0))]] ((flowE f) != 0) (fun h11 => ?_) (fun h11 => ?_)
    ·
     (try simp only [bne_iff_ne, bne_eq_false_iff_eq, ne_eq] at h11)
     exfalso
     omega
    ·
     (try simp only [bne_iff_ne, bne_eq_false_iff_eq, ne_eq] at h11)
     refine .br [.r [(4, Xv 1 (!false) X0), (5, X (Xk' false))]] (false || false) (fun h13 => ?_) (fun h13 => ?_)
     ·
      (try simp only [Bool.or_eq_true, Bool.or_eq_false_iff] at h13)
      exfalso
      simp at h13
     ·
      (try simp only [Bool.or_eq_true, Bool.or_eq_false_iff] at h13)
      have S1 := fc_showsT (.inl ⟨rfl, rfl⟩) hE hh hlen ha
      have S2 := fc_showsT (.inr ⟨rfl, rfl⟩) hE hh hlen ha
      rw [mode_cut] at S1
      rw [mode_add] at S2
      have e1 : ((true || false) : Bool) = true := by
       simp [hE]
      exact .finE [.r [(2, X (Xc0 S1 X0)), (6, Xv 2 true (Xc0 S2 X0)), (7, X (Xk true))]] [] (fun z0 => (VB z0, [])) ((true || false) : Bool) (true : Bool) e1.symm
   ·
    have hh : ∀ e ∈ f, hasA e.attrs hidB = false := fun e he => by
      obtain ⟨j, hj, rfl⟩ := List.mem_iff_getElem.1 he
      have := I4.2 j (by omega)
      rwa [show f.getD j default = f[j] by simp [List.getD, List.getElem?_eq_getElem hj]] at this
    refine .br [.r [(2, X (Xl elemT f)), (3, X (Xc1 112 (fc_acceptE f (f.length : Int) (by assumption)) X0))], .r [(2, X (Xl elemT f)), (3, X (Xc1 184 (fc_rejectE f (f.length : Int) (by assumption)) X0))], .r [(1, X (Xc0 (fc_flowError f (by assumption)) X0))]] ((flowE f) != 0) (fun h11 => ?_) (fun h11 => ?_)
    ·
     (try simp only [bne_iff_ne, bne_eq_false_iff_eq, ne_eq] at h11)
     have e2 : ((((flowE f) != 0) && ((flowE f) == (flowE f))) : Bool) = true := by
      simp [hE]
     exact .finE [.r [(5, Xv 2 ((flowE f) != 0) X0), (6, X (Xk ((flowE f) != 0)))]] [] (fun z0 => (VB z0, [])) ((((flowE f) != 0) && ((flowE f) == (flowE f))) : Bool) (true : Bool) e2.symm
    ·
     (try simp only [bne_iff_ne, bne_eq_false_iff_eq, ne_eq] at h11)
     exfalso
     omega
end Go.Ch
end
section
set_option linter.unusedVariables false
set_option linter.unusedSimpArgs false
namespace Go.Proofs.Ytbdbibmbfmlobaa.frame
open Go Go.Proofs
def chs (l : List Nat) : List Char := l.map Char.ofNat
def w1 : List Char := chs [104, 97, 114, 110, 101, 115, 115]
def w2 : List Char := chs [102, 99, 57, 53, 99, 99, 54, 48, 52, 99, 55, 51, 55, 49, 100, 51, 97, 56, 102, 99, 55, 97, 51, 57, 52, 52, 50, 100, 100, 57, 102, 97, 97, 99, 52, 99, 99, 102, 50, 53, 100, 98, 52, 98, 52, 52, 50, 100, 56, 50, 102, 102, 97, 49, 97, 50, 48, 51, 57, 48, 102, 97, 101, 102]
def w3 : List Char := chs [99, 117, 116]
def sp : Char := Char.ofNat 32
theorem ws_sp (r : List Char) : wordsSigns (sp :: r) = [] :: wordsSigns r := rfl
theorem ws_c (c : Char) (r : List Char) (h : c ≠ sp) : wordsSigns (c :: r) = match wordsSigns r with
    | w :: ws => (c :: w) :: ws
    | [] => [[c]] := by
  rw [wordsSigns.eq_def]
  split
  · rename_i e; cases e
  · rename_i e; simp only [List.cons.injEq] at e; exact absurd e.1 h
  · rename_i e; simp only [List.cons.injEq] at e; obtain ⟨rfl, rfl⟩ := e; rfl
theorem ws_app : ∀ (a : List Char), (a.all fun c => c != sp) = true → ∀ r, wordsSigns (a ++ sp :: r) = a :: wordsSigns r
  | [], _, r => ws_sp r
  | c :: a, h, r => by
    simp only [List.all_cons, Bool.and_eq_true, bne_iff_ne] at h
    rw [List.cons_append, ws_c _ _ h.1, ws_app a h.2 r]
theorem tl (l : List Char) : (String.ofList l).toList = l := String.toList_ofList
theorem k1 : ("harness" : String).toList = w1 := tl w1
theorem k2 : ("cut" : String).toList = w3 := tl w3
theorem k3 : ("gc" : String).toList = chs [103, 99] := tl (chs [103, 99])
theorem k4 : ("spec" : String).toList = chs [115, 112, 101, 99] := tl (chs [115, 112, 101, 99])
theorem k5 : ("carried" : String).toList = chs [99, 97, 114, 114, 105, 101, 100] := tl (chs [99, 97, 114, 114, 105, 101, 100])
theorem lifts (r : List (List Char)) : stripLifts liftWords (w3 :: r) = ([], w3 :: r) := by
  unfold liftWords
  simp only [stripLifts]
  have key : ∀ l : List Nat, (w3 == chs l) = false → ∀ (s : String), s = String.ofList (chs l) → (w3 == s.toList) = false := fun l h s e => by rw [e, tl]; exact h
  rw [if_neg (by rw [key [102, 105, 110, 97, 108, 115] (by kernel_rfl) "finals" rfl]; decide)]
  rw [if_neg (by rw [key [114, 101, 102, 108, 101, 99, 116, 114, 111, 119, 115] (by kernel_rfl) "reflectrows" rfl]; decide)]
  rw [if_neg (by rw [key [108, 101, 97, 110, 114, 111, 119, 115] (by kernel_rfl) "leanrows" rfl]; decide)]
  rw [if_neg (by rw [key [111, 110, 101, 98, 117, 105, 108, 100] (by kernel_rfl) "onebuild" rfl]; decide)]
  rw [if_neg (by rw [key [112, 117, 98, 108, 105, 99, 115, 117, 109, 115] (by kernel_rfl) "publicsums" rfl]; decide)]
  rw [if_neg (by rw [key [101, 113, 103, 117, 97, 114, 100] (by kernel_rfl) "eqguard" rfl]; decide)]
  rw [if_neg (by rw [key [111, 119, 110, 117, 110, 115, 97, 102, 101] (by kernel_rfl) "ownunsafe" rfl]; decide)]
  rw [if_neg (by rw [key [108, 105, 98, 98, 101, 115, 105, 100, 101] (by kernel_rfl) "libbeside" rfl]; decide)]
  rw [if_neg (by rw [key [111, 119, 110, 98, 101, 115, 105, 100, 101] (by kernel_rfl) "ownbeside" rfl]; decide)]
  rw [if_neg (by rw [key [114, 101, 102, 108, 98, 101, 115, 105, 100, 101] (by kernel_rfl) "reflbeside" rfl]; decide)]
  rw [if_neg (by rw [key [97, 108, 105, 97, 115, 101, 115] (by kernel_rfl) "aliases" rfl]; decide)]
  rw [if_neg (by rw [key [97, 102, 116, 101, 114, 105, 110, 105, 116] (by kernel_rfl) "afterinit" rfl]; decide)]
  rw [if_neg (by rw [key [99, 114, 99, 112, 108, 97, 105, 110] (by kernel_rfl) "crcplain" rfl]; decide)]
  rw [if_neg (by rw [key [114, 111, 97, 100, 117, 110, 115, 97, 102, 101] (by kernel_rfl) "roadunsafe" rfl]; decide)]
  rw [if_neg (by rw [key [102, 109, 116, 104, 97, 110, 100, 111, 110] (by kernel_rfl) "fmthandon" rfl]; decide)]
theorem words {P : Program} {rest : List Char} (h : P.initOrder.toList = w1 ++ sp :: (w2 ++ sp :: (w3 ++ sp :: rest))) : behindMainWord (wordsSigns P.initOrder.toList) = w3 :: wordsSigns rest := by
  rw [h, ws_app w1 (by kernel_rfl), ws_app w2 (by kernel_rfl), ws_app w3 (by kernel_rfl)]
  unfold behindMainWord
  rw [k1]
  exact if_pos (by kernel_rfl)
theorem may {P : Program} {rest : List Char} (h : P.initOrder.toList = w1 ++ sp :: (w2 ++ sp :: (w3 ++ sp :: rest))) (hl : P.laysLater = false) (hb : P.bearsReflect = false) (hd : P.doorFits [] = true) : P.mayEnter = true := by
  unfold Program.mayEnter
  rw [words h]
  simp only [lifts, k2, k3, k4, k5, hl, hb, hd]
  have h1 : (w3 == chs [103, 99]) = false := by kernel_rfl
  have h2 : (w3 == chs [115, 112, 101, 99]) = false := by kernel_rfl
  have h3 : (w3 == chs [99, 97, 114, 114, 105, 101, 100]) = false := by kernel_rfl
  rw [h1, h2, h3]
  simp
theorem fin {P : Program} {rest : List Char} (h : P.initOrder.toList = w1 ++ sp :: (w2 ++ sp :: (w3 ++ sp :: rest))) : P.liftsFinal = false := by
  unfold Program.liftsFinal Program.headLifts
  rw [words h]
  simp only [lifts, k2, k5]
  have h3 : (w3 == chs [99, 97, 114, 114, 105, 101, 100]) = false := by kernel_rfl
  simp [h3]
theorem mk {P : Program} {rest : List Char} (h : P.initOrder.toList = w1 ++ sp :: (w2 ++ sp :: (w3 ++ sp :: rest))) : P.make = some .cut := by
  unfold Program.make
  rw [words h]
  simp only [k2, k3, k4, k5]
  have h1 : (w3 == chs [103, 99]) = false := by kernel_rfl
  have h2 : (w3 == chs [115, 112, 101, 99]) = false := by kernel_rfl
  rw [h1, h2]
  simp
theorem head : Try.pinned.checked.prog.initOrder = String.ofList (w1 ++ sp :: (w2 ++ sp :: (w3 ++ sp :: chs [97, 116, 32, 99, 104, 97, 110, 99, 101, 114, 121, 47, 99, 104, 97, 110, 99, 101, 114, 121, 107, 101, 101, 112, 49, 46, 83, 112, 97, 110, 83, 105, 122, 101, 115, 65, 100, 100, 32, 99, 104, 97, 110, 99, 101, 114, 121, 47, 99, 104, 97, 110, 99, 101, 114, 121, 107, 101, 101, 112, 49, 46, 65, 116, 116, 114, 85, 110, 100, 111, 82, 101, 115, 116, 111, 114, 101, 115, 32, 99, 104, 97, 110, 99, 101, 114, 121, 47, 99, 104, 97, 110, 99, 101, 114, 121, 107, 101, 101, 112, 49, 46, 65, 116, 116, 114, 66, 101, 116, 119, 101, 101, 110, 76, 101, 97, 100, 115, 32, 99, 104, 97, 110, 99, 101, 114, 121, 47, 99, 104, 97, 110, 99, 101, 114, 121, 107, 101, 101, 112, 49, 46, 65, 116, 116, 114, 80, 97, 105, 114, 77, 101, 101, 116, 115, 32, 99, 104, 97, 110, 99, 101, 114, 121, 47, 99, 104, 97, 110, 99, 101, 114, 121, 107, 101, 101, 112, 49, 46, 65, 120, 105, 115, 74, 111, 105, 110, 65, 115, 115, 111, 99, 105, 97, 116, 101, 115, 32, 99, 104, 97, 110, 99, 101, 114, 121, 47, 99, 104, 97, 110, 99, 101, 114, 121, 107, 101, 101, 112, 49, 46, 65, 120, 105, 115, 80, 97, 105, 114, 77, 101, 101, 116, 115, 32, 99, 104, 97, 110, 99, 101, 114, 121, 47, 99, 104, 97, 110, 99, 101, 114, 121, 107, 101, 101, 112, 49, 46, 65, 120, 105, 115, 80, 108, 97, 99, 101, 115, 75, 101, 101, 112, 79, 114, 100, 101, 114, 32, 99, 104, 97, 110, 99, 101, 114, 121, 47, 99, 104, 97, 110, 99, 101, 114, 121, 107, 101, 101, 112, 49, 46, 68, 101, 108, 116, 97, 84, 105, 100, 121, 65, 99, 116, 115, 32, 99, 104, 97, 110, 99, 101, 114, 121, 47, 99, 104, 97, 110, 99, 101, 114, 121, 107, 101, 101, 112, 49, 46, 68, 101, 108, 116, 97, 85, 110, 100, 111, 82, 101, 115, 116, 111, 114, 101, 115, 32, 99, 104, 97, 110, 99, 101, 114, 121, 47, 99, 104, 97, 110, 99, 101, 114, 121, 107, 101, 101, 112, 49, 46, 68, 101, 108, 116, 97, 74, 111, 105, 110, 65, 99, 116, 115, 32, 99, 104, 97, 110, 99, 101, 114, 121, 47, 99, 104, 97, 110, 99, 101, 114, 121, 107, 101, 101, 112, 49, 46, 68, 101, 108, 116, 97, 80, 97, 105, 114, 77, 101, 101, 116, 115, 32, 99, 104, 97, 110, 99, 101, 114, 121, 47, 99, 104, 97, 110, 99, 101, 114, 121, 107, 101, 101, 112, 49, 46, 68, 105, 102, 102, 66, 111, 116, 104, 87, 97, 121, 115, 32, 99, 104, 97, 110, 99, 101, 114, 121, 47, 99, 104, 97, 110, 99, 101, 114, 121, 107, 101, 101, 112, 49, 46, 84, 114, 97, 99, 107, 65, 99, 99, 101, 112, 116, 83, 104, 111, 119, 115, 32, 99, 104, 97, 110, 99, 101, 114, 121, 47, 99, 104, 97, 110, 99, 101, 114, 121, 107, 101, 101, 112, 49, 46, 83, 112, 97, 110, 84, 104, 114, 111, 117, 103, 104, 67, 111, 110, 116, 97, 105, 110, 115, 32, 99, 104, 97, 110, 99, 101, 114, 121, 47, 99, 104, 97, 110, 99, 101, 114, 121, 107, 101, 101, 112, 49, 46, 77, 101, 114, 103, 101, 79, 110, 101, 83, 105, 100, 101, 100, 32, 99, 104, 97, 110, 99, 101, 114, 121, 47, 99, 104, 97, 110, 99, 101, 114, 121, 107, 101, 101, 112, 49, 46, 77, 101, 114, 103, 101, 69, 120, 99, 104, 97, 110, 103, 101, 100, 32, 99, 104, 97, 110, 99, 101, 114, 121, 47, 99, 104, 97, 110, 99, 101, 114, 121, 107, 101, 101, 112, 49, 46, 68, 101, 108, 116, 97, 65, 120, 105, 115, 65, 103, 114, 101, 101, 115]))) := by kernel_rfl
set_option maxRecDepth 100000 in
theorem headL : Try.pinned.checked.prog.initOrder.toList = w1 ++ sp :: (w2 ++ sp :: (w3 ++ sp :: chs [97, 116, 32, 99, 104, 97, 110, 99, 101, 114, 121, 47, 99, 104, 97, 110, 99, 101, 114, 121, 107, 101, 101, 112, 49, 46, 83, 112, 97, 110, 83, 105, 122, 101, 115, 65, 100, 100, 32, 99, 104, 97, 110, 99, 101, 114, 121, 47, 99, 104, 97, 110, 99, 101, 114, 121, 107, 101, 101, 112, 49, 46, 65, 116, 116, 114, 85, 110, 100, 111, 82, 101, 115, 116, 111, 114, 101, 115, 32, 99, 104, 97, 110, 99, 101, 114, 121, 47, 99, 104, 97, 110, 99, 101, 114, 121, 107, 101, 101, 112, 49, 46, 65, 116, 116, 114, 66, 101, 116, 119, 101, 101, 110, 76, 101, 97, 100, 115, 32, 99, 104, 97, 110, 99, 101, 114, 121, 47, 99, 104, 97, 110, 99, 101, 114, 121, 107, 101, 101, 112, 49, 46, 65, 116, 116, 114, 80, 97, 105, 114, 77, 101, 101, 116, 115, 32, 99, 104, 97, 110, 99, 101, 114, 121, 47, 99, 104, 97, 110, 99, 101, 114, 121, 107, 101, 101, 112, 49, 46, 65, 120, 105, 115, 74, 111, 105, 110, 65, 115, 115, 111, 99, 105, 97, 116, 101, 115, 32, 99, 104, 97, 110, 99, 101, 114, 121, 47, 99, 104, 97, 110, 99, 101, 114, 121, 107, 101, 101, 112, 49, 46, 65, 120, 105, 115, 80, 97, 105, 114, 77, 101, 101, 116, 115, 32, 99, 104, 97, 110, 99, 101, 114, 121, 47, 99, 104, 97, 110, 99, 101, 114, 121, 107, 101, 101, 112, 49, 46, 65, 120, 105, 115, 80, 108, 97, 99, 101, 115, 75, 101, 101, 112, 79, 114, 100, 101, 114, 32, 99, 104, 97, 110, 99, 101, 114, 121, 47, 99, 104, 97, 110, 99, 101, 114, 121, 107, 101, 101, 112, 49, 46, 68, 101, 108, 116, 97, 84, 105, 100, 121, 65, 99, 116, 115, 32, 99, 104, 97, 110, 99, 101, 114, 121, 47, 99, 104, 97, 110, 99, 101, 114, 121, 107, 101, 101, 112, 49, 46, 68, 101, 108, 116, 97, 85, 110, 100, 111, 82, 101, 115, 116, 111, 114, 101, 115, 32, 99, 104, 97, 110, 99, 101, 114, 121, 47, 99, 104, 97, 110, 99, 101, 114, 121, 107, 101, 101, 112, 49, 46, 68, 101, 108, 116, 97, 74, 111, 105, 110, 65, 99, 116, 115, 32, 99, 104, 97, 110, 99, 101, 114, 121, 47, 99, 104, 97, 110, 99, 101, 114, 121, 107, 101, 101, 112, 49, 46, 68, 101, 108, 116, 97, 80, 97, 105, 114, 77, 101, 101, 116, 115, 32, 99, 104, 97, 110, 99, 101, 114, 121, 47, 99, 104, 97, 110, 99, 101, 114, 121, 107, 101, 101, 112, 49, 46, 68, 105, 102, 102, 66, 111, 116, 104, 87, 97, 121, 115, 32, 99, 104, 97, 110, 99, 101, 114, 121, 47, 99, 104, 97, 110, 99, 101, 114, 121, 107, 101, 101, 112, 49, 46, 84, 114, 97, 99, 107, 65, 99, 99, 101, 112, 116, 83, 104, 111, 119, 115, 32, 99, 104, 97, 110, 99, 101, 114, 121, 47, 99, 104, 97, 110, 99, 101, 114, 121, 107, 101, 101, 112, 49, 46, 83, 112, 97, 110, 84, 104, 114, 111, 117, 103, 104, 67, 111, 110, 116, 97, 105, 110, 115, 32, 99, 104, 97, 110, 99, 101, 114, 121, 47, 99, 104, 97, 110, 99, 101, 114, 121, 107, 101, 101, 112, 49, 46, 77, 101, 114, 103, 101, 79, 110, 101, 83, 105, 100, 101, 100, 32, 99, 104, 97, 110, 99, 101, 114, 121, 47, 99, 104, 97, 110, 99, 101, 114, 121, 107, 101, 101, 112, 49, 46, 77, 101, 114, 103, 101, 69, 120, 99, 104, 97, 110, 103, 101, 100, 32, 99, 104, 97, 110, 99, 101, 114, 121, 47, 99, 104, 97, 110, 99, 101, 114, 121, 107, 101, 101, 112, 49, 46, 68, 101, 108, 116, 97, 65, 120, 105, 115, 65, 103, 114, 101, 101, 115])) := by rw [head, tl]
theorem later : Try.pinned.checked.prog.laysLater = false := by kernel_rfl
theorem refl : Try.pinned.checked.prog.bearsReflect = false := by kernel_rfl
theorem door : Try.pinned.checked.prog.doorFits [] = true := by kernel_rfl
theorem mayEnter : Try.pinned.checked.prog.mayEnter = true := may headL later refl door
theorem made : Try.pinned.checked.prog.make = some .cut := mk headL
theorem laid : laidOutB Try.pinned.checked.prog = true := by kernel_rfl
theorem rowed : mapsRowed Try.pinned.checked.prog = true := by kernel_rfl
theorem noStops : Try.pinned.checked.prog.stops = [] := by kernel_rfl
theorem noKnobs : Try.pinned.checked.prog.stopKnobs = [] := by kernel_rfl
theorem heard : Try.pinned.checked.prog.stopsHeard = true := by kernel_rfl
theorem keys : Try.pinned.checked.prog.plainKeys = true := by kernel_rfl
theorem liftsNo : Try.pinned.checked.prog.liftsFinal = false := fin headL
end Go.Proofs.Ytbdbibmbfmlobaa.frame
end
section
set_option linter.unusedVariables false
namespace Go.Ab
open Go Go.Proofs.Ytbdbibmbfmlobaa
variable {P : Program} {W : World}

def RdM (P : Program) (t : TypeId) (k : Nat) {α : Type} (f : α → Tree) (μ : α → Nat) : Prop :=
  (∀ a, Elt k (f a)) ∧ P.cellsOf t = k ∧ ∀ (H : Type) (enc : TypeId × Value → H) (W : World) (fuel : Nat) (cs : List Value) (x : DataW H × List MemPlace),
    DataW.trod enc P W 0 (fun _ => true) true fuel t cs = some x → ∃ a : α, CellsR W (f a).cells cs ∧ μ a ≤ Rows.uptoBulk x.1

theorem bulk_pos {H : Type} (d : DataW H) : 1 ≤ Rows.uptoBulk d := by
  cases d with
  | lit l => cases l <;> simp [Rows.uptoBulk]
  | _ => simp [Rows.uptoBulk]

theorem RdM.int {t : TypeId} {k : IntKind} (ht : P.underlying t = some (.int k)) (hc : P.cellsOf t = 1) : RdM P t 1 (fun z : Int => .sc (.int k z)) (fun _ => 1) := by
  refine ⟨fun _ => elt1, hc, fun H enc W fuel cs x h => ?_⟩
  obtain ⟨n, rfl, _, _⟩ := DataW.trod_int ht h
  exact ⟨n, cells1 rfl (.sc _ rfl), bulk_pos _⟩
/-- An integer with its bounds. -/
theorem RdM.i64 {t : TypeId} (ht : P.underlying t = some (.int .i64)) (hc : P.cellsOf t = 1) : RdM P t 1 (fun z : { z : Int // -9223372036854775808 ≤ z ∧ z ≤ 9223372036854775807 } => .sc (.int .i64 z.1)) (fun _ => 1) := by
  refine ⟨fun _ => elt1, hc, fun H enc W fuel cs x h => ?_⟩
  obtain ⟨n, rfl, _, hw⟩ := DataW.trod_int ht h
  exact ⟨⟨n, by simpa [Lit.wf, IntKind.min, IntKind.max, IntKind.signed, IntKind.bits] using hw⟩, cells1 rfl (.sc _ rfl), bulk_pos _⟩
theorem RdM.bool {t : TypeId} (ht : P.underlying t = some .bool) (hc : P.cellsOf t = 1) : RdM P t 1 (fun b : Bool => .sc (.bool b)) (fun _ => 1) := by
  refine ⟨fun _ => elt1, hc, fun H enc W fuel cs x h => ?_⟩
  obtain ⟨n, rfl, _⟩ := DataW.trod_bool ht h
  exact ⟨n, cells1 rfl (.sc _ rfl), bulk_pos _⟩
theorem RdM.str {t : TypeId} (ht : P.underlying t = some .string) (hc : P.cellsOf t = 1) : RdM P t 1 (fun s : ByteArray => .sc (.string s)) (fun s => s.size + 1) := by
  refine ⟨fun _ => elt1, hc, fun H enc W fuel cs x h => ?_⟩
  obtain ⟨n, rfl, rfl, _⟩ := DataW.trod_string ht h
  exact ⟨n, cells1 rfl (.sc _ rfl), by simp [Rows.uptoBulk]⟩

theorem sum_le {α H : Type} {μ : α → Nat} : ∀ {l : List α} {es : List (DataW H)}, l.length = es.length → (∀ (i : Nat) (a : α) (d : DataW H), l[i]? = some a → es[i]? = some d → μ a ≤ Rows.uptoBulk d) → (l.map μ).sum ≤ Rows.uptoBulkAll es
  | [], es, _, _ => by simp
  | a :: l, [], h, _ => by simp at h
  | a :: l, d :: es, h, hi => by
    have h0 := hi 0 a d rfl rfl
    have ih := sum_le (l := l) (es := es) (by simpa using h) (fun i a' d' h1 h2 => hi (i + 1) a' d' (by simpa using h1) (by simpa using h2))
    simp only [List.map_cons, List.sum_cons, Rows.uptoBulkAll]
    omega

theorem RdM.slice {t e : TypeId} {k : Nat} {α : Type} {f : α → Tree} {μ : α → Nat} (ht : P.underlying t = some (.slice e)) (hk : 0 < k) (hc : P.cellsOf t = 1) (he : RdM P e k f μ) : RdM P t 1 (fun l : List α => .lst k (l.map f)) (fun l => (l.map μ).sum + 1) := by
  obtain ⟨h1, h2, h3⟩ := he
  refine ⟨fun l => ⟨rfl, fun T hT => by simp [Tree.cells] at hT; subst hT; rfl⟩, hc, fun H enc W fuel cs x h => ?_⟩
  have hx : ∀ l : List α, ∀ x ∈ l.map f, Elt k x := fun l x hx => by
    obtain ⟨a, _, rfl⟩ := List.mem_map.1 hx
    exact h1 a
  rcases DataW.trod_slice ht h with ⟨rfl, hx0⟩ | ⟨a, len, cap, elems, rest, n, _, rfl, hxe, hb, hl, hm, hlen, hel, _, _⟩
  · refine ⟨[], cells1 rfl (.lst k [] none 0 [] hk (fun x hx => by simp at hx) (Nat.le_refl _) (by simp [maxLen]) (fun h => absurd rfl h) (by simp) (fun j T u hT => by simp [flat] at hT)), ?_⟩
    exact bulk_pos _
  · have key : ∀ i, i < len → ∃ y : α, (∃ cs', cs'.length = k ∧ (∀ r, r < k → W.cell? (a.add (i * k + r)) = cs'[r]?) ∧ CellsR W (f y).cells cs') ∧ ∀ d, (elems.map (·.1))[i]? = some d → μ y ≤ Rows.uptoBulk d := by
      intro i hi
      have h4 := hel i hi
      have h5 : elems[i]? = some elems[i] := by rw [List.getElem?_eq_getElem (by omega)]
      rw [h5, h2] at h4
      obtain ⟨cs', h6, h7⟩ := Option.bind_eq_some_iff.1 h4
      obtain ⟨q1, q2, q3⟩ := World.cells?_some h6
      obtain ⟨y, hy, hμ⟩ := h3 H enc W n cs' _ h7
      refine ⟨y, ⟨cs', q2, fun r hr => ?_, hy⟩, fun d hd => ?_⟩
      · rw [← q3 r hr]
        rw [Addr.add_add]
      · rw [List.getElem?_map, h5] at hd
        simp only [Option.map_some, Option.some.injEq] at hd
        subst hd; exact hμ
    obtain ⟨l, hl1, hl2'⟩ := list_of len _ key
    have hl2 := fun i a h => (hl2' i a h).1
    have hspot : l ≠ [] → ∃ u, W.cell? a = some u := by
      intro hne
      have h0 : 0 < len := by rw [← hl1]; exact List.length_pos_iff.2 hne
      obtain ⟨cs', c1, c2, c3⟩ := hl2 0 l[0] (by rw [List.getElem?_eq_getElem (by omega)])
      have := c2 0 hk
      simp only [Nat.zero_mul, Nat.add_zero] at this
      rw [List.getElem?_eq_getElem (by omega)] at this
      have e : a.add 0 = a := by simp [Addr.add]
      rw [e] at this
      exact ⟨_, this⟩
    refine ⟨l, cells1 rfl ?_, ?_⟩
    rotate_left
    · rw [hxe]
      simp only [Rows.uptoBulk]
      have := sum_le (μ := μ) (l := l) (es := elems.map (·.1)) (by simp [hl1, hlen]) (fun i y d h1 h2 => (hl2' i y h1).2 d h2)
      omega
    have hget : ∀ j, j < len * k → ∃ u, W.cell? (a.add j) = some u ∧ ∀ T, (flat (l.map f))[j]? = some T → TRep W (fun b => b < W.heap.size) T u := by
      intro j hj
      have hi : j / k < len := Nat.div_lt_of_lt_mul (by rw [Nat.mul_comm]; exact hj)
      have hr : j % k < k := Nat.mod_lt _ hk
      have hji : j = j / k * k + j % k := by rw [Nat.mul_comm]; exact (Nat.div_add_mod j k).symm
      obtain ⟨cs', c1, c2, c3⟩ := hl2 (j / k) l[j / k] (by rw [List.getElem?_eq_getElem (by omega)])
      have c4 := c2 (j % k) hr
      rw [← hji, List.getElem?_eq_getElem (by omega)] at c4
      refine ⟨_, c4, fun T hT => ?_⟩
      rw [hji, flat_get (hx l) (i := j / k) (X := f l[j / k]) (by simp [List.getElem?_eq_getElem (show j / k < l.length by omega)]) hr] at hT
      exact c3.2 (j % k) T _ hT (by rw [List.getElem?_eq_getElem (by omega)])
    obtain ⟨us, hu1, hu2⟩ := list_of (len * k) _ hget
    have hlm : (l.map f).length = len := by simp [hl1]
    have := TRep.lst (w := W) (ok := fun b => b < W.heap.size) k (l.map f) (some a) cap us hk (hx l) (by omega) hm (fun hne => ?_) (by rw [hlm]; exact hu1) (fun j T u hT hu => (hu2 j u hu).2 T hT)
    · rw [hlm] at this; exact this
    · obtain ⟨u, hu⟩ := hspot (fun e => hne (by rw [e]; rfl))
      have hs := World.cell?_spot hu
      obtain ⟨b, o, sp⟩ := a
      simp only at hs
      subst hs
      refine ⟨b, o, rfl, ?_, fun j u hj => ?_⟩
      · simp only [World.cell?] at hu
        by_cases hb : b < W.heap.size
        · exact hb
        · rw [Array.getElem?_eq_none (by omega)] at hu; simp at hu
      · have := (hu2 j u hj).1
        rw [add_lit'] at this
        exact this

theorem RdM.map {t : TypeId} {k : Nat} {α β : Type} {f : α → Tree} {μ : α → Nat} {f' : β → Tree} {μ' : β → Nat} (h : RdM P t k f μ) (g : α → β) (hf : ∀ a, f' (g a) = f a) (hm : ∀ a, μ' (g a) ≤ μ a) (he : ∀ b, Elt k (f' b)) : RdM P t k f' μ' := by
  obtain ⟨h1, h2, h3⟩ := h
  refine ⟨he, h2, fun H enc W fuel cs x hx => ?_⟩
  obtain ⟨a, ha, hb⟩ := h3 H enc W fuel cs x hx
  exact ⟨g a, by rw [hf]; exact ha, Nat.le_trans (hm a) hb⟩

/-- The fields of a struct, from a cell on. -/
def RdFM (P : Program) (off : Nat) (fs : List Field) (k : Nat) {β : Type} (g : β → List Tree) (μ : β → Nat) : Prop :=
  (∀ b, (g b).length = k ∧ ∀ T ∈ g b, T.isCell = true) ∧ ∀ (H : Type) (enc : TypeId × Value → H) (W : World) (n : Nat) (cs : List Value) (ys : List (DataW H × List MemPlace)),
    ys.length = fs.length → (∀ (i : Nat) (f : Field), fs[i]? = some f → DataW.trod enc P W 0 (fun _ => true) true n f.type ((cs.drop f.offset).take (P.cellsOf f.type)) = ys[i]?) →
    ∃ b : β, (∀ (j : Nat) (T : Tree) (u : Value), (g b)[j]? = some T → cs[off + j]? = some u → TRep W (fun b => b < W.heap.size) T u) ∧ μ b ≤ Rows.uptoBulkAll (ys.map (·.1))
theorem RdFM.nil {off : Nat} : RdFM P off [] 0 (fun _ : Unit => []) (fun _ => 0) :=
  ⟨fun _ => ⟨rfl, fun T hT => by simp at hT⟩, fun H enc W n cs ys h1 h2 => ⟨(), fun j T u hT => by simp at hT, Nat.zero_le _⟩⟩
theorem RdFM.cons {off : Nat} {f : Field} {fs : List Field} {k1 k2 : Nat} {α β : Type} {f1 : α → Tree} {μ1 : α → Nat} {g2 : β → List Tree} {μ2 : β → Nat} (ho : f.offset = off) (h : RdM P f.type k1 f1 μ1) (hs : RdFM P (off + k1) fs k2 g2 μ2) : RdFM P off (f :: fs) (k1 + k2) (fun p : α × β => (f1 p.1).cells ++ g2 p.2) (fun p => μ1 p.1 + μ2 p.2) := by
  obtain ⟨h1, h2, h3⟩ := h
  obtain ⟨s1, s2⟩ := hs
  refine ⟨fun p => ⟨by rw [List.length_append, (h1 p.1).1, (s1 p.2).1], fun T hT => ?_⟩, fun H enc W n cs ys hl hy => ?_⟩
  · rcases List.mem_append.1 hT with hT | hT
    · exact (h1 p.1).2 T hT
    · exact (s1 p.2).2 T hT
  · cases ys with
    | nil => simp at hl
    | cons y ys =>
      have e0 := hy 0 f rfl
      simp only [List.getElem?_cons_zero, ho, h2] at e0
      obtain ⟨a, ⟨ha1, ha2⟩, ha3⟩ := h3 H enc W n _ _ e0
      obtain ⟨b, hb, hb3⟩ := s2 H enc W n cs ys (by simpa using hl) (fun i f' hf => by simpa using hy (i + 1) f' (by simpa using hf))
      refine ⟨(a, b), fun j T u hT hu => ?_, by simp only [List.map_cons, Rows.uptoBulkAll]; omega⟩
      by_cases hj : j < (f1 a).cells.length
      · rw [List.getElem?_append_left hj] at hT
        have hk : j < k1 := by rw [(h1 a).1] at hj; exact hj
        refine ha2 j T u hT ?_
        rw [List.getElem?_take, if_pos hk, List.getElem?_drop]
        exact hu
      · rw [List.getElem?_append_right (by show (f1 a).cells.length ≤ j; omega)] at hT
        rw [(h1 a).1] at hj hT
        refine hb (j - k1) T u hT ?_
        rw [← hu]; congr 1; omega
theorem RdM.struct {t : TypeId} {fs : Array Field} {k : Nat} {β : Type} {g : β → List Tree} {μ : β → Nat} (ht : P.underlying t = some (.struct fs)) (hc : P.cellsOf t = k) (h : RdFM P 0 fs.toList k g μ) : RdM P t k (fun b => .agg (g b)) (fun b => μ b + 1) := by
  obtain ⟨s1, s2⟩ := h
  refine ⟨fun b => s1 b, hc, fun H enc W fuel cs x hx => ?_⟩
  obtain ⟨xs, n, _, hxe, hl, hlen, hf⟩ := DataW.trod_struct ht hx
  obtain ⟨b, hb, hμ⟩ := s2 H enc W n cs xs (by simpa using hlen) (fun i f hi => hf i f (by simpa using hi))
  refine ⟨b, ⟨by rw [hl, hc]; exact (s1 b).1.symm, fun j T u hT hu => hb j T u hT (by simpa using hu)⟩, ?_⟩
  rw [hxe]; simp only [Rows.uptoBulk]; omega

/-- A one-cell argument. -/
theorem RdM.arg {t : TypeId} {α : Type} {f : α → Tree} {μ : α → Nat} (h : RdM P t 1 f μ) (h1 : ∀ a, (f a).isCell = true) {H : Type} {enc : TypeId × Value → H} {v : Value} {d : DataW H} {ps : List MemPlace} (hd : DataW.Trod enc P W 0 (fun _ => true) true t v d ps) (hv : v.cells.toList = [v]) :
    ∃ a, TRep W (fun b => b < W.heap.size) (f a) v ∧ μ a ≤ Rows.uptoBulk d := by
  obtain ⟨fuel, hf⟩ := hd
  obtain ⟨a, ⟨c1, c2⟩, c3⟩ := h.2.2 H enc W fuel _ _ hf
  refine ⟨a, c2 0 _ _ ?_ (by rw [hv]; rfl), c3⟩
  cases hfa : f a with
  | agg cs => have := h1 a; rw [hfa] at this; cases this
  | sc v => rfl
  | lst k xs => rfl
theorem bulk_bound {H : Type} {l : List (DataW H)} (hk : Rows.uptoSmall H l = true) : Rows.uptoBulkAll l ≤ 1048576 := of_decide_eq_true hk
theorem sum_mem {α : Type} {μ : α → Nat} {l : List α} {a : α} (h : a ∈ l) : μ a ≤ (l.map μ).sum := by
  induction l with
  | nil => cases h
  | cons b l ih =>
    simp only [List.map_cons, List.sum_cons]
    rcases List.mem_cons.1 h with rfl | h
    · omega
    · have := ih h; omega
theorem sum_len {α : Type} {μ : α → Nat} (hμ : ∀ a, 1 ≤ μ a) (l : List α) : l.length ≤ (l.map μ).sum := by
  induction l with
  | nil => simp
  | cons b l ih => have := hμ b; simp only [List.map_cons, List.sum_cons, List.length_cons]; omega
end Go.Ab
end
