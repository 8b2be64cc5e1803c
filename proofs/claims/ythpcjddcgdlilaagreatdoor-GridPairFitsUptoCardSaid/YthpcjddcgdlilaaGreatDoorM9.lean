/- Ranges through a change: those that are apart stay apart. -/
import Derived.Test.YthpcjddcgdlilaaGreatDoorM1
import Derived.Test.YthpcjddcgdlilaaGreatDoorM2
import Derived.Test.YthpcjddcgdlilaaGreatDoorM3
import Derived.Test.YthpcjddcgdlilaaGreatDoorM4
import Derived.Test.YthpcjddcgdlilaaGreatDoorM5
import Derived.Test.YthpcjddcgdlilaaGreatDoorM6
import Derived.Test.YthpcjddcgdlilaaGreatDoorM7
import Derived.Test.YthpcjddcgdlilaaGreatDoorM8
import Derived.Test.YthpcjddcgdlilaaGreatDoorRows
section
set_option linter.unusedVariables false
namespace Go.Ch
open Go Go.Ab

theorem hull_last : ∀ {l : List AxStep} (hl : Form l) (f t first last old now : Int), 0 ≤ now →
    (hullS l f t first last old now).2 = last ∨ ∃ p, old ≤ p ∧ f ≤ p ∧ p < t ∧ 0 ≤ placeS l p old now ∧ (hullS l f t first last old now).2 = placeS l p old now + 1
  | [], _, f, t, first, last, old, now, h0 => .inl rfl
  | s :: l, hl, f, t, first, last, old, now, h0 => by
    have hn := hl.head.2.2
    have hk := kinds hl.head
    rw [hullS]
    by_cases k1 : s.kind = 1
    · rw [if_neg (by omega : ¬ ((s.kind = 0 ∧ max f old < min t (old + s.n)) ∧ last = 0)), if_neg (by omega : ¬ (s.kind = 0 ∧ max f old < min t (old + s.n))), if_pos k1, if_neg (by omega : ¬ s.kind = 2)]
      rcases hull_last hl.tail f t first last old (now + s.n) (by omega) with h | ⟨p, p1, p2, p3, p4, p5⟩
      · exact .inl h
      · exact .inr ⟨p, p1, p2, p3, by rw [placeS, if_pos k1]; exact p4, by rw [placeS, if_pos k1]; exact p5⟩
    · by_cases k0 : s.kind = 0
      · rw [if_neg k1, if_neg (by omega : ¬ s.kind = 2)]
        have hpl : ∀ p, old + s.n ≤ p → placeS (s :: l) p old now = placeS l p (old + s.n) (now + s.n) := fun p hp => by rw [placeS, if_neg k1, if_pos k0, if_neg (by omega)]
        have hps : ∀ p, p < old + s.n → placeS (s :: l) p old now = now + p - old := fun p hp => by rw [placeS, if_neg k1, if_pos k0, if_pos hp]
        rcases hull_last hl.tail f t (if (s.kind = 0 ∧ max f old < min t (old + s.n)) ∧ last = 0 then now + max f old - old else first) (if s.kind = 0 ∧ max f old < min t (old + s.n) then now + min t (old + s.n) - old else last) (old + s.n) (now + s.n) (by omega) with h | ⟨p, p1, p2, p3, p4, p5⟩
        · by_cases c : s.kind = 0 ∧ max f old < min t (old + s.n)
          · have hp := hps (min t (old + s.n) - 1) (by omega)
            refine .inr ⟨min t (old + s.n) - 1, by omega, by omega, by omega, by omega, ?_⟩
            rw [h, hp, if_pos c]; omega
          · rw [h, if_neg c]; exact .inl rfl
        · exact .inr ⟨p, by omega, p2, p3, by rw [hpl p p1]; exact p4, by rw [hpl p p1]; exact p5⟩
      · have k2 : s.kind = 2 := by omega
        rw [if_neg (by omega : ¬ ((s.kind = 0 ∧ max f old < min t (old + s.n)) ∧ last = 0)), if_neg (by omega : ¬ (s.kind = 0 ∧ max f old < min t (old + s.n))), if_neg k1, if_pos k2]
        rcases hull_last hl.tail f t first last (old + s.n) now h0 with h | ⟨p, p1, p2, p3, p4, p5⟩
        · exact .inl h
        · have hpl : placeS (s :: l) p old now = placeS l p (old + s.n) now := by rw [placeS, if_neg k1, if_neg k0, if_neg (by omega)]
          exact .inr ⟨p, by omega, p2, p3, by rw [hpl]; exact p4, by rw [hpl]; exact p5⟩
/-- A kept row's place lies in what there is afterwards. -/
theorem place_lt : ∀ {l : List AxStep} (hl : Form l) (p fr tq : Int), fr ≤ p → 0 ≤ placeS l p fr tq → placeS l p fr tq < tq + newU (ex l)
  | [], _, p, fr, tq, h, h0 => by simp [placeS] at h0
  | s :: l, hl, p, fr, tq, h, h0 => by
    have hn := hl.head.2.2
    have hk := kinds hl.head
    have e : (newU (ex (s :: l)) : Int) = (if s.kind = 2 then 0 else s.n) + newU (ex l) := by
      rw [ex, new_rep, Int.toNat_of_nonneg (by omega)]
    rw [e]
    rw [placeS] at h0 ⊢
    by_cases k1 : s.kind = 1
    · rw [if_pos k1] at h0 ⊢
      rw [if_neg (show ¬ s.kind = 2 by omega)]
      have := place_lt hl.tail p fr (tq + s.n) h h0
      omega
    · rw [if_neg k1] at h0 ⊢
      by_cases k0 : s.kind = 0
      · rw [if_pos k0] at h0 ⊢
        rw [if_neg (show ¬ s.kind = 2 by omega)]
        by_cases c : p < fr + s.n
        · rw [if_pos c] at h0 ⊢
          have : (0 : Int) ≤ newU (ex l) := by omega
          omega
        · rw [if_neg c] at h0 ⊢
          have := place_lt hl.tail p (fr + s.n) (tq + s.n) (by omega) h0
          omega
      · rw [if_neg k0] at h0 ⊢
        by_cases c : p < fr + s.n
        · rw [if_pos c] at h0; omega
        · rw [if_neg c] at h0 ⊢
          rw [if_pos (show s.kind = 2 by omega)]
          have := place_lt hl.tail p (fr + s.n) tq (by omega) h0
          omega
/-- What one range leaves ends where the other's rest begins, or before. -/
theorem hull_apart {l : List AxStep} (hl : Form l) {f1 t1 f2 t2 : Int} (h0 : 0 ≤ f1) (h : t1 ≤ f2) (hn1 : (hullS l f1 t1 0 0 0 0).2 ≠ 0) (hn2 : (hullS l f2 t2 0 0 0 0).2 ≠ 0) : (hullS l f1 t1 0 0 0 0).2 ≤ (hullS l f2 t2 0 0 0 0).1 := by
  rcases hull_last hl f1 t1 0 0 0 0 (Int.le_refl _) with e | ⟨p, p1, p2, p3, p4, p5⟩
  · exact absurd e hn1
  · rcases hull_left hl f2 t2 0 0 0 p (Int.le_refl _) p1 (by omega) p4 with e | e
    · exact absurd e hn2
    · omega
theorem hull_new {l : List AxStep} (hl : Form l) (f t : Int) : (hullS l f t 0 0 0 0).2 ≤ newU (ex l) := by
  rcases hull_last hl f t 0 0 0 0 (Int.le_refl _) with e | ⟨p, p1, p2, p3, p4, p5⟩
  · rw [e]; omega
  · have := place_lt hl p 0 0 p1 p4
    omega
/-- Two rectangles that are apart stay so, where both are left. -/
theorem thr_apart {a b : Rect} {rows cols : List AxStep} (ha : QIn rows cols a) (hb : QIn rows cols b) (h : meetB a b = false) (h1 : 1 ≤ a.h) (h2 : 1 ≤ a.w) (h3 : 1 ≤ b.h) (h4 : 1 ≤ b.w)
    (va : thrB (thrR a rows cols) = true) (vb : thrB (thrR b rows cols) = true) : meetB (thrR a rows cols) (thrR b rows cols) = false := by
  have hm := meet_f h
  cases hc : meetB (thrR a rows cols) (thrR b rows cols) with
  | false => rfl
  | true =>
    exfalso
    rw [meetB_iff] at hc
    unfold thrB at va vb
    rw [decide_eq_true_eq] at va vb
    have hap : ∀ (l : List AxStep) (f1 t1 f2 t2 : Int), Form l → 0 ≤ f1 → t1 ≤ f2 → (hullS l f1 t1 0 0 0 0).1 < (hullS l f1 t1 0 0 0 0).2 → (hullS l f2 t2 0 0 0 0).1 < (hullS l f2 t2 0 0 0 0).2 → 0 ≤ (hullS l f1 t1 0 0 0 0).1 → 0 ≤ (hullS l f2 t2 0 0 0 0).1 → (hullS l f1 t1 0 0 0 0).2 ≤ (hullS l f2 t2 0 0 0 0).1 :=
      fun l f1 t1 f2 t2 hl h0 hle n1 n2 z1 z2 => hull_apart hl h0 hle (by omega) (by omega)
    unfold thrR at hc va vb
    obtain ⟨_, ra, ca⟩ := ha
    obtain ⟨_, rb, cb⟩ := hb
    by_cases c1 : 0 < rows.length <;> by_cases c2 : 0 < cols.length
    all_goals simp only [c1, c2, if_true, if_false] at hc va vb
    · obtain ⟨v1, w1⟩ := ra c1
      obtain ⟨_, w2⟩ := rb c1
      obtain ⟨v2, w3⟩ := ca c2
      obtain ⟨_, w4⟩ := cb c2
      have b1 := hull_bd v1 w1; have b2 := hull_bd v1 w2; have b3 := hull_bd v2 w3; have b4 := hull_bd v2 w4
      by_cases q1 : a.row + a.h ≤ b.row
      · have := hap rows a.row (a.row + a.h) b.row (b.row + b.h) v1.1 w1.1 q1 (by omega) (by omega) (by omega) (by omega); omega
      · by_cases q2 : b.row + b.h ≤ a.row
        · have := hap rows b.row (b.row + b.h) a.row (a.row + a.h) v1.1 w2.1 q2 (by omega) (by omega) (by omega) (by omega); omega
        · by_cases q3 : a.col + a.w ≤ b.col
          · have := hap cols a.col (a.col + a.w) b.col (b.col + b.w) v2.1 w3.1 q3 (by omega) (by omega) (by omega) (by omega); omega
          · have := hap cols b.col (b.col + b.w) a.col (a.col + a.w) v2.1 w4.1 (show b.col + b.w ≤ a.col by omega) (by omega) (by omega) (by omega) (by omega); omega
    · obtain ⟨v1, w1⟩ := ra c1
      obtain ⟨_, w2⟩ := rb c1
      have b1 := hull_bd v1 w1; have b2 := hull_bd v1 w2
      by_cases q1 : a.row + a.h ≤ b.row
      · have := hap rows a.row (a.row + a.h) b.row (b.row + b.h) v1.1 w1.1 q1 (by omega) (by omega) (by omega) (by omega); omega
      · have := hap rows b.row (b.row + b.h) a.row (a.row + a.h) v1.1 w2.1 (show b.row + b.h ≤ a.row by omega) (by omega) (by omega) (by omega) (by omega); omega
    · obtain ⟨v2, w3⟩ := ca c2
      obtain ⟨_, w4⟩ := cb c2
      have b3 := hull_bd v2 w3; have b4 := hull_bd v2 w4
      by_cases q3 : a.col + a.w ≤ b.col
      · have := hap cols a.col (a.col + a.w) b.col (b.col + b.w) v2.1 w3.1 q3 (by omega) (by omega) (by omega) (by omega); omega
      · have := hap cols b.col (b.col + b.w) a.col (a.col + a.w) v2.1 w4.1 (show b.col + b.w ≤ a.col by omega) (by omega) (by omega) (by omega) (by omega); omega
    · omega
theorem keepQ_apart {rows cols : List AxStep} {split : List Rect} : ∀ {l : List Rect}, Apart l → (∀ r ∈ l, QIn rows cols r ∧ 1 ≤ r.h ∧ 1 ≤ r.w) → Apart (keepQ l rows cols split)
  | [], _, _ => List.Pairwise.nil
  | a :: l, h, hq => by
    obtain ⟨p1, p2⟩ := List.pairwise_cons.1 h
    have ih := keepQ_apart (l := l) (split := split) p2 (fun r hr => hq r (by simp [hr]))
    unfold keepQ at *
    rw [List.filterMap_cons]
    unfold keepO at *
    by_cases c : thrB (thrR a rows cols) = true ∧ hasQ split (thrR a rows cols) = false
    · rw [if_pos c]
      refine List.pairwise_cons.2 ⟨fun y hy => ?_, ih⟩
      obtain ⟨b, hb, he⟩ := List.mem_filterMap.1 hy
      split at he
      · rename_i c2
        cases he
        obtain ⟨q1, q2, q3⟩ := hq a (by simp)
        obtain ⟨r1, r2, r3⟩ := hq b (by simp [hb])
        exact thr_apart q1 r1 (p1 b hb) q2 q3 r2 r3 c.1 c2.1
      · cases he
    · rw [if_neg c]; exact ih
theorem keepQ_ins {rows cols : List AxStep} {split l : List Rect} {m n : Int} (hl : ∀ r ∈ l, insB r m n = true ∧ QIn rows cols r) : ∀ q ∈ keepQ l rows cols split, insB q (nwS m rows) (nwS n cols) = true ∧ ¬ (q.h = 1 ∧ q.w = 1) := fun q hq => by
  unfold keepQ at hq
  obtain ⟨r, hr, he⟩ := List.mem_filterMap.1 hq
  unfold keepO at he
  split at he
  · rename_i c
    cases he
    obtain ⟨h1, _, ra, ca⟩ := hl r hr
    have u := insB_iff.1 h1
    have hb := c.1
    unfold thrB at hb
    rw [decide_eq_true_eq] at hb
    rw [insB_iff]
    unfold thrR nwS newI at *
    by_cases c1 : 0 < rows.length <;> by_cases c2 : 0 < cols.length
    all_goals simp only [c1, c2, if_true, if_false] at hb ⊢
    · obtain ⟨v1, w1⟩ := ra c1
      obtain ⟨v2, w2⟩ := ca c2
      have b1 := hull_bd v1 w1; have b2 := hull_bd v2 w2
      have n1 := hull_new v1.1 r.row (r.row + r.h); have n2 := hull_new v2.1 r.col (r.col + r.w)
      omega
    · obtain ⟨v1, w1⟩ := ra c1
      have b1 := hull_bd v1 w1
      have n1 := hull_new v1.1 r.row (r.row + r.h)
      omega
    · obtain ⟨v2, w2⟩ := ca c2
      have b2 := hull_bd v2 w2
      have n2 := hull_new v2.1 r.col (r.col + r.w)
      omega
    · omega
  · cases he
/-- The merged rectangles after an edit are valid. -/
theorem raw_mv {x : Grid} {e : GEd} (hm : MV x.merges x.rows x.cols) (hr : RawIn x e) (he : ∀ r ∈ e.merge, insB r (nwS x.rows e.rows) (nwS x.cols e.cols) = true ∧ ¬ (r.h = 1 ∧ r.w = 1)) : MV (rawGr x e).merges (rawGr x e).rows (rawGr x e).cols := by
  have hk := keepQ_ins (rows := e.rows) (cols := e.cols) (split := e.split) (l := x.merges) (m := x.rows) (n := x.cols) (fun r h => ⟨hm.ins r h, hr.q r h⟩)
  have ha : Apart x.merges := hm.pw.imp (fun h => h.2)
  have hka := keepQ_apart (rows := e.rows) (cols := e.cols) (split := e.split) ha (fun r h => ⟨hr.q r h, by have := insB_iff.1 (hm.ins r h); omega, by have := insB_iff.1 (hm.ins r h); omega⟩)
  have hall := foldl_all (P := fun q => insB q (nwS x.rows e.rows) (nwS x.cols e.cols) = true ∧ ¬ (q.h = 1 ∧ q.w = 1)) e.merge _ hk he
  exact sort_mv (fun r h => (hall r h).1) (fun r h => (hall r h).2) (foldl_apart _ _ hka)
end Go.Ch
end
section
set_option linter.unusedVariables false
namespace Go.Ch
open Go Go.Ab

theorem mvR_in {a : List AxStep} {p m : Int} (hp : PIn a p) (h0 : 0 ≤ p ∧ p < m) (hn : ¬ (0 < a.length ∧ mvR a p < 0)) : 0 ≤ mvR a p ∧ mvR a p < nwS m a := by
  unfold mvR at hn ⊢
  unfold nwS newI
  by_cases c : 0 < a.length
  · rw [if_pos c] at hn ⊢
    rw [if_pos c]
    obtain ⟨v, p0, _⟩ := hp c
    have h1 : 0 ≤ placeS a p 0 0 := by
      refine Classical.byContradiction fun q => hn ⟨c, by omega⟩
    have := place_lt v.1 p 0 0 p0 h1
    omega
  · rw [if_neg c, if_neg c]; exact h0
theorem mov_cell {rows cols : List AxStep} {c d : Cell} {m n : Int} (hr : PIn rows c.row) (hc : PIn cols c.col) (h : cellE c m n false = 0) (hd : mvC rows cols c = some d) : cellE d (nwS m rows) (nwS n cols) false = 0 := by
  obtain ⟨a1, a2, rfl⟩ := mvC_some hd
  obtain ⟨h1, h2, h3, h4, h5⟩ := cellE_iff.1 h
  have b1 := mvR_in (m := m) hr ⟨h1.1, h1.2.1⟩ a1
  have b2 := mvR_in (m := n) hc ⟨h1.2.2.1, h1.2.2.2⟩ a2
  exact cellE_iff.2 ⟨⟨b1.1, b1.2, b2.1, b2.2⟩, h2, h3, h4, h5⟩
/-- The cells after an edit are valid. -/
theorem raw_cells {x : Grid} {e : GEd} (h1 : cellsE x.cells x.rows x.cols false 0 = 0) (h2 : cellsE e.cells 2147483647 2147483647 true 0 = 0) (hr : RawIn x e) (hf : ∀ c ∈ e.cells, c.row < nwS x.rows e.rows ∧ c.col < nwS x.cols e.cols) :
    cellsE (rawGr x e).cells (rawGr x e).rows (rawGr x e).cols false 0 = 0 := by
  obtain ⟨a1, a2⟩ := cellsE_iff.1 h1
  obtain ⟨b1, b2⟩ := cellsE_iff.1 h2
  refine cellsE_iff.2 ⟨fun c hc => ?_, put_asc _ _ b2 (mov_asc a2 hr.p1 hr.p2)⟩
  rcases put_mem _ _ c hc with ⟨h, he⟩ | h
  · obtain ⟨q1, q2, q3, q4, _⟩ := cellE_iff.1 (b1 c h)
    have := hf c h
    exact cellE_iff.2 ⟨⟨q1.1, this.1, q1.2.2.1, this.2⟩, q2, q3, q4, fun _ => he⟩
  · obtain ⟨c0, hc0, hm⟩ := List.mem_filterMap.1 h
    exact mov_cell (hr.p1 c0 hc0) (hr.p2 c0 hc0) (a1 c0 hc0) hm
theorem gridE_iff {g : Grid} : gridE g = 0 ↔ (0 ≤ g.rows ∧ g.rows ≤ 2147483647 ∧ 0 ≤ g.cols ∧ g.cols ≤ 2147483647) ∧ cellsE g.cells g.rows g.cols false 0 = 0 ∧ MV g.merges g.rows g.cols := by
  unfold gridE
  by_cases c1 : g.rows < 0 ∨ 2147483647 < g.rows ∨ g.cols < 0 ∨ 2147483647 < g.cols
  · rw [if_pos c1]; exact ⟨fun q => (by cases q), fun q => by omega⟩
  · rw [if_neg c1]
    by_cases c2 : cellsE g.cells g.rows g.cols false 0 = 0
    · rw [if_neg (fun q => q c2), mergE_iff]
      exact ⟨fun q => ⟨by omega, c2, q⟩, fun q => q.2.2⟩
    · rw [if_pos c2]
      exact ⟨fun q => absurd q c2, fun q => q.2.1⟩
/-- A grid after an edit is valid. -/
theorem raw_valid {x : Grid} {e : GEd} (h : AppIn x e) : gridE (rawGr x e) = 0 := by
  obtain ⟨hg, he, hf, hr, _⟩ := h
  obtain ⟨g1, g2, g3⟩ := gridE_iff.1 hg
  have b1 := nwS_bd (n := x.rows) he.okr (by omega)
  have b2 := nwS_bd (n := x.cols) he.okc (by omega)
  exact gridE_iff.2 ⟨⟨b1.1, b1.2, b2.1, b2.2⟩, raw_cells g2 he.cells hr hf.cells, raw_mv g3 hr (fun r hm => ⟨hf.merge r hm, (he.merge r hm).2⟩)⟩
end Go.Ch
end
section
set_option linter.unusedVariables false
namespace Go.Ch
open Go Go.Ab

theorem hasQ_f {l : List Rect} {r : Rect} : hasQ l r = false ↔ r ∉ l := by unfold hasQ; rw [decide_eq_false_iff_not]
end Go.Ch
end
section
set_option linter.unusedVariables false
namespace Go.Ch
open Go Go.Ab

theorem sameC_self (c : Cell) : sameC c c = true := by
  unfold sameC
  simp only [Bool.and_eq_true, beq_iff_eq, true_and]
  exact ⟨⟨seq_iff.2 rfl, trivial⟩, sameL_self c.attrs⟩
theorem sameCells_self (a : List Cell) : ∀ (k i : Nat), a.length - i = k → sameCells a a i = true
  | 0, i, h => by rw [sameCells, if_neg (by omega)]
  | k + 1, i, h => by rw [sameCells, if_pos (by omega), if_pos (sameC_self _)]; exact sameCells_self a k (i + 1) (by omega)
end Go.Ch
end
section
set_option linter.unusedVariables false
namespace Go.Ch
open Go Go.Ab

/-- Lengths of a grid's lists. -/
structure LimG (k : Nat) (g : Grid) : Prop where
  c : g.cells.length ≤ k
  m : g.merges.length ≤ k
  a : CAN 1000000000000 g.cells
structure LimE (k : Nat) (e : GEd) : Prop where
  c : e.cells.length ≤ k
  s : e.split.length ≤ k
  m : e.merge.length ≤ k
  a : CAN 1000000000000 e.cells
theorem LimG.mono {k l : Nat} {g : Grid} (h : LimG k g) (hk : k ≤ l) : LimG l g := ⟨Nat.le_trans h.c hk, Nat.le_trans h.m hk, h.a⟩
theorem LimE.mono {k l : Nat} {g : GEd} (h : LimE k g) (hk : k ≤ l) : LimE l g := ⟨Nat.le_trans h.c hk, Nat.le_trans h.s hk, Nat.le_trans h.m hk, h.a⟩
theorem pin_of {a : List AxStep} {n p : Int} (v : Valid a) (f : 0 < a.length → oldI a = n) (h0 : 0 ≤ p) (h : p < n) : PIn a p := fun q => ⟨v, h0, by rw [f q]; exact h⟩
theorem app_in {k : Nat} {x : Grid} {e : GEd} (hk : k ≤ 10000000000) (hg : gridE x = 0) (he : EdOk e) (hf : FitOk x e) (lx : LimG k x) (le : LimE k e) : AppIn x e := by
  obtain ⟨g1, g2, g3⟩ := gridE_iff.1 hg
  obtain ⟨a1, a2⟩ := cellsE_iff.1 g2
  refine ⟨hg, he, hf, ⟨fun _ => he.okr, fun _ => he.okc, by have := lx.c; omega, by have := le.c; omega, by have := lx.m; omega, by have := le.m; omega, lx.a, le.a, fun c hc => ?_, fun c hc => ?_, fun r hr => ?_, fun r hr => ?_⟩, by have := le.s; omega⟩
  · have := (cellE_iff.1 (a1 c hc)).1
    exact pin_of he.okr hf.rows this.1 this.2.1
  · have := (cellE_iff.1 (a1 c hc)).1
    exact pin_of he.okc hf.cols this.2.2.1 this.2.2.2
  · have hi := g3.ins r hr
    have := insB_iff.1 hi
    exact ⟨RB_ins hi (by omega) (by omega), fun q => ⟨he.okr, by omega, by omega, by rw [hf.rows q]; omega⟩, fun q => ⟨he.okc, by omega, by omega, by rw [hf.cols q]; omega⟩⟩
  · exact RB_ins (he.merge r hr).1 (by decide) (by decide)
/-! ### Differences -/
theorem put_len : ∀ (g fr : List Cell), (putL g fr).length ≤ g.length + fr.length
  | [], fr => by rw [putL]; simp
  | c :: ns, [] => by
    have := put_len ns []
    rw [putL, putC, List.length_append, List.length_cons]
    split <;> simp only [List.length_cons, List.length_nil] at * <;> omega
  | c :: ns, x :: l => by
    have i1 := put_len (c :: ns) l
    have i2 := put_len ns l
    have i3 := put_len ns (x :: l)
    have hb : (if emptyC c = true then ([] : List Cell) else [c]).length ≤ 1 := by split <;> simp
    rw [putL] at i1
    rw [putL, putC]
    simp only [List.length_cons] at *
    by_cases o1 : ordC x c < 0
    · rw [if_pos o1, List.length_cons]; omega
    · rw [if_neg o1]
      by_cases o2 : ordC x c = 0
      · rw [if_pos o2, List.length_append]; omega
      · rw [if_neg o2, List.length_append]; omega
termination_by g fr => g.length + fr.length
theorem foldl_len : ∀ (ms l : List Rect), (ms.foldl addQ l).length ≤ l.length + ms.length
  | [], l => by simp
  | r :: ms, l => by
    have := foldl_len ms (addQ l r)
    have := addQ_len l r
    rw [List.foldl_cons, List.length_cons]; omega
theorem raw_mlen (x : Grid) (e : GEd) : (rawGr x e).merges.length ≤ x.merges.length + e.merge.length := by
  show (sortQ (e.merge.foldl addQ (keepQ x.merges e.rows e.cols e.split))).length ≤ _
  rw [(sortQ_perm _).length_eq]
  have := foldl_len e.merge (keepQ x.merges e.rows e.cols e.split)
  have := keepQ_len x.merges e.rows e.cols e.split
  omega
theorem raw_clen (x : Grid) (e : GEd) : (rawGr x e).cells.length ≤ x.cells.length + e.cells.length := by
  show (putL e.cells (movL x.cells e.rows e.cols)).length ≤ _
  have := put_len e.cells (movL x.cells e.rows e.cols)
  have := movL_len x.cells e.rows e.cols
  omega
/-- A property of a cell that its place has no part in. -/
theorem raw_call {P : ByteArray → List Attr → Prop} {x : Grid} {e : GEd} (h1 : ∀ c ∈ x.cells, P c.text c.attrs) (h2 : ∀ c ∈ e.cells, P c.text c.attrs) : ∀ c ∈ (rawGr x e).cells, P c.text c.attrs := fun c hc => by
  rcases put_mem _ _ c hc with ⟨h, _⟩ | h
  · exact h2 c h
  · obtain ⟨d, hd, hm⟩ := List.mem_filterMap.1 h
    obtain ⟨_, _, rfl⟩ := mvC_some hm
    exact h1 d hd
theorem raw_lim {k l : Nat} {x : Grid} {e : GEd} (hx : LimG k x) (he : LimE l e) : LimG (k + l) (rawGr x e) := by
  have := raw_clen x e; have := raw_mlen x e; have := hx.c; have := hx.m; have := he.c; have := he.m
  exact ⟨by omega, by omega, raw_call (P := fun _ a => a.length ≤ 1000000000000) hx.a he.a⟩
/-! ### The undone axes -/
theorem ins_mono {r : Rect} {m n m' n' : Int} (h : insB r m n = true) (h1 : m ≤ m') (h2 : n ≤ n') : insB r m' n' = true := by
  have := insB_iff.1 h
  exact insB_iff.2 (by omega)
theorem chkA_nil : chkA false [] 0 = 0 := by decide +kernel
theorem textG_nil : textG { data := #[] } = true := textG_end (by decide)
/-- What an edit and its undoing give. -/
structure UndOk (x : Grid) (e : GEd) : Prop where
  und : UndIn x e
  app : AppIn (rawGr x e) (undoE x e)
  back : rawGr (rawGr x e) (undoE x e) = x
end Go.Ch
end
section
set_option linter.unusedVariables false
namespace Go.Ch
open Go Go.Ab

theorem asc_app : ∀ {a b : List Cell}, Asc a → Asc b → (∀ x ∈ a, ∀ y ∈ b, ordC x y < 0) → Asc (a ++ b)
  | [], b, _, h, _ => h
  | x :: a, b, h1, h2, h3 => ⟨fun y hy => by
      rcases List.mem_append.1 hy with hy | hy
      · exact h1.1 y hy
      · exact h3 x (by simp) y hy, asc_app h1.2 h2 (fun z hz y hy => h3 z (by simp [hz]) y hy)⟩
theorem asc_one : ∀ {l : List Cell}, l.length ≤ 1 → Asc l
  | [], _ => trivial
  | [c], _ => ⟨fun x hx => (by cases hx), trivial⟩
  | a :: b :: l, h => by simp at h
theorem flat_succ {f : Nat → List Cell} (k : Nat) : (List.range (k + 1)).flatMap f = (List.range k).flatMap f ++ f k := by
  rw [List.range_succ, List.flatMap_append]; simp
theorem row_all (f : Nat → List Cell) (r : Nat) (P : Cell → Prop) (h1 : ∀ k, ∀ c ∈ f k, c.row = (r : Int) ∧ c.col = (k : Int) ∧ P c) (h2 : ∀ k, (f k).length ≤ 1) :
    ∀ k : Nat, (∀ c ∈ (List.range k).flatMap f, c.row = (r : Int) ∧ 0 ≤ c.col ∧ c.col < (k : Int) ∧ P c) ∧ Asc ((List.range k).flatMap f)
  | 0 => ⟨fun c hc => by simp at hc, trivial⟩
  | k + 1 => by
    obtain ⟨i1, i2⟩ := row_all f r P h1 h2 k
    rw [flat_succ]
    refine ⟨fun c hc => ?_, asc_app i2 (asc_one (h2 k)) (fun x hx y hy => ?_)⟩
    · rcases List.mem_append.1 hc with hc | hc
      · obtain ⟨q1, q2, q3, q4⟩ := i1 c hc
        exact ⟨q1, q2, by omega, q4⟩
      · obtain ⟨q1, q2, q4⟩ := h1 k c hc
        exact ⟨q1, by omega, by omega, q4⟩
    · obtain ⟨q1, q2, q3, q4⟩ := i1 x hx
      obtain ⟨p1, p2, p4⟩ := h1 k y hy
      rw [ordC_lt]; omega
theorem tab_all (f : Nat → Nat → List Cell) (n : Nat) (P : Cell → Prop) (h1 : ∀ r k, ∀ c ∈ f r k, c.row = (r : Int) ∧ c.col = (k : Int) ∧ P c) (h2 : ∀ r k, (f r k).length ≤ 1) :
    ∀ r : Nat, (∀ c ∈ (List.range r).flatMap (fun r => (List.range n).flatMap (f r)), 0 ≤ c.row ∧ c.row < (r : Int) ∧ 0 ≤ c.col ∧ c.col < (n : Int) ∧ P c) ∧ Asc ((List.range r).flatMap (fun r => (List.range n).flatMap (f r)))
  | 0 => ⟨fun c hc => by simp at hc, trivial⟩
  | r + 1 => by
    obtain ⟨i1, i2⟩ := tab_all f n P h1 h2 r
    obtain ⟨j1, j2⟩ := row_all (f r) r P (h1 r) (h2 r) n
    rw [flat_succ]
    refine ⟨fun c hc => ?_, asc_app i2 j2 (fun x hx y hy => ?_)⟩
    · rcases List.mem_append.1 hc with hc | hc
      · obtain ⟨q1, q2, q3, q4, q5⟩ := i1 c hc
        exact ⟨q1, by omega, q3, q4, q5⟩
      · obtain ⟨q1, q2, q3, q4⟩ := j1 c hc
        exact ⟨by omega, by omega, q2, q3, q4⟩
    · obtain ⟨q1, q2, q3, q4, q5⟩ := i1 x hx
      obtain ⟨p1, p2, p3, p4⟩ := j1 y hy
      rw [ordC_lt]; omega
/-- A cell with one of two texts alone. -/
def DrC (text : ByteArray) (c : Cell) : Prop := (c.text = text ∨ c.text = { data := #[] }) ∧ c.ref = 0 ∧ c.attrs = []
theorem edC_mem {raw : List Int} {text : ByteArray} {cols : Nat} (r k : Nat) (c : Cell) (h : c ∈ edC raw text cols r k) : c.row = (r : Int) ∧ c.col = (k : Int) ∧ DrC text c := by
  unfold edC at h
  split at h
  · cases h
  · split at h
    · rw [List.mem_singleton.1 h]; exact ⟨rfl, rfl, .inl rfl, rfl, rfl⟩
    · split at h
      · rw [List.mem_singleton.1 h]; exact ⟨rfl, rfl, .inr rfl, rfl, rfl⟩
      · cases h
theorem edA_all (raw : List Int) (text : ByteArray) (cols r : Nat) : (∀ c ∈ edA raw text cols r, 0 ≤ c.row ∧ c.row < (r : Int) ∧ 0 ≤ c.col ∧ c.col < (cols : Int) ∧ DrC text c) ∧ Asc (edA raw text cols r) :=
  tab_all (edC raw text cols) cols (DrC text) (fun r k c h => edC_mem r k c h) (fun r k => edC_len raw text cols r k) r
theorem newI_nil {l : List AxStep} (h : ¬ 0 < l.length) : newI l = 0 := by
  have : l = [] := List.length_eq_zero_iff.1 (by omega)
  subst this; rfl
theorem nwS_new {n p : Int} {l : List AxStep} (h0 : 0 ≤ p) (h : p < newI l) : nwS n l = newI l := by
  unfold nwS
  by_cases c : 0 < l.length
  · rw [if_pos c]
  · rw [newI_nil c] at h; omega
theorem edM_mem {raw : List Int} {rows cols : Int} {ms : Bool} {r : Rect} (h : r ∈ edM raw rows cols ms) : 1 < rows ∧ 1 < cols ∧ insB r rows cols = true ∧ r.h = 2 ∧ r.w = 2 := by
  unfold edM at h
  split at h
  · rename_i q
    have b1 := withinI_bd (raw.getD 0 default) (lo := 0) (hi := rows - 2) (by omega)
    have b2 := withinI_bd (raw.getD (raw.length - 1) default) (lo := 0) (hi := cols - 2) (by omega)
    rw [List.mem_singleton.1 h]
    exact ⟨q.2.1, q.2.2.1, insB_iff.2 (by simp only []; omega), rfl, rfl⟩
  · cases h
structure EdtOk (x : Grid) (e : GEd) : Prop where
  ed : EdOk e
  fit : FitOk x e
  lim : LimE 1000000 e
  split : e.split = []
  cells : ∀ c ∈ e.cells, c.attrs = []
  nr : newI e.rows ≤ 1000 ∧ newI e.cols ≤ 1000
  lr : oldI e.rows = x.rows ∧ oldI e.cols = x.cols
theorem edit_ok {x : Grid} (raw : List Int) {text : ByteArray} (ms : Bool) (hr : 0 ≤ x.rows ∧ x.rows ≤ 100) (hc : 0 ≤ x.cols ∧ x.cols ≤ 100) (ht : textG text = true) : EdtOk x (editE x raw text ms) := by
  obtain ⟨r1, r2, r3, r4⟩ := fit_ok (raw.take (raw.length / 2)) x.rows hr.1 (by omega)
  obtain ⟨c1, c2, c3, c4⟩ := fit_ok (raw.drop (raw.length / 2)) x.cols hc.1 (by omega)
  generalize hR : stepsL (fitU (raw.take (raw.length / 2)) x.rows.toNat) 0 [] = R at r1 r2 r3 r4
  generalize hC : stepsL (fitU (raw.drop (raw.length / 2)) x.cols.toNat) 0 [] = C at c1 c2 c3 c4
  have he : editE x raw text ms = ⟨R, C, edA raw text (newI C).toNat (newI R).toNat, [], edM raw (newI R) (newI C) ms⟩ := by
    unfold editE fitR; rw [hR, hC]
  rw [he]
  obtain ⟨a1, a2⟩ := edA_all raw text (newI C).toNat (newI R).toNat
  have hl := edA_len raw text (newI C).toNat (newI R).toNat
  have hm : (newI R).toNat * (newI C).toNat ≤ 302 * 302 := Nat.mul_le_mul (by omega) (by omega)
  have hml : (edM raw (newI R) (newI C) ms).length ≤ 1 := by unfold edM; split <;> simp
  have hcell : ∀ c ∈ edA raw text (newI C).toNat (newI R).toNat, 0 ≤ c.row ∧ c.row < newI R ∧ 0 ≤ c.col ∧ c.col < newI C ∧ DrC text c := fun c h => by
    obtain ⟨q1, q2, q3, q4, q5⟩ := a1 c h
    exact ⟨q1, by omega, q3, by omega, q5⟩
  refine ⟨⟨r1, c1, cellsE_iff.2 ⟨fun c h => ?_, a2⟩, fun r h => (by cases h), fun r h => ?_⟩, ⟨fun _ => r2, fun _ => c2, fun c h => ?_, fun r h => (by cases h), fun r h => ?_⟩, ⟨by show (edA raw text (newI C).toNat (newI R).toNat).length ≤ _; omega, Nat.zero_le _, by show (edM raw (newI R) (newI C) ms).length ≤ _; omega, fun c h => ?_⟩, rfl, fun c h => (hcell c h).2.2.2.2.2.2, ⟨by show newI R ≤ _; omega, by show newI C ≤ _; omega⟩, r2, c2⟩
  · obtain ⟨q1, q2, q3, q4, q5, q6, q7⟩ := hcell c h
    refine cellE_iff.2 ⟨by omega, by omega, ?_, ?_, fun q => by cases q⟩
    · rcases q5 with q5 | q5 <;> rw [q5]
      · exact ht
      · exact textG_nil
    · rw [q7]; exact chkA_nil
  · obtain ⟨q1, q2, q3, q4, q5⟩ := edM_mem h
    exact ⟨ins_mono q3 (by omega) (by omega), by omega⟩
  · obtain ⟨q1, q2, q3, q4, q5⟩ := hcell c h
    show c.row < nwS x.rows R ∧ c.col < nwS x.cols C
    rw [nwS_new q1 q2, nwS_new q3 q4]; exact ⟨q2, q4⟩
  · obtain ⟨q1, q2, q3, q4, q5⟩ := edM_mem h
    show insB r (nwS x.rows R) (nwS x.cols C) = true
    rw [nwS_new (p := 0) (by decide) (by omega), nwS_new (p := 0) (by decide) (by omega)]; exact q3
  · rw [(hcell c h).2.2.2.2.2.2]; exact Nat.zero_le _
/-! ### The board -/
theorem bdT_ok {v : Int} (h : 2 ≤ v ∧ v ≤ 4) : textG (bdT v) = true ∧ seq (bdT v) { data := #[] } = false := by
  have : v = 2 ∨ v = 3 ∨ v = 4 := by omega
  rcases this with rfl | rfl | rfl <;> exact ⟨by decide +kernel, by decide +kernel⟩
def BdC (c : Cell) : Prop := (∃ v : Int, (2 ≤ v ∧ v ≤ 4) ∧ c.text = bdT v) ∧ c.ref = 0 ∧ c.attrs = []
theorem drwI_bd (raw : List Int) (a i : Nat) {hi : Int} (h : 0 ≤ hi) : 0 ≤ drwI raw a i hi ∧ drwI raw a i hi ≤ hi := withinI_bd _ h
theorem bdC_mem {raw : List Int} {cols : Nat} (r k : Nat) (c : Cell) (h : c ∈ bdC raw cols r k) : c.row = (r : Int) ∧ c.col = (k : Int) ∧ BdC c := by
  unfold bdC at h
  split at h
  · split at h
    · rename_i q
      have := drwI_bd raw (r * cols + k) (r * cols + k) (hi := 4) (by decide)
      rw [List.mem_singleton.1 h]; exact ⟨rfl, rfl, ⟨_, ⟨by omega, by omega⟩, rfl⟩, rfl, rfl⟩
    · cases h
  · cases h
theorem bdA_all (raw : List Int) (cols r : Nat) : (∀ c ∈ bdA raw cols r, 0 ≤ c.row ∧ c.row < (r : Int) ∧ 0 ≤ c.col ∧ c.col < (cols : Int) ∧ BdC c) ∧ Asc (bdA raw cols r) :=
  tab_all (bdC raw cols) cols BdC (fun r k c h => bdC_mem r k c h) (fun r k => bdC_len raw cols r k) r
theorem board_ok (raw : List Int) {rows cols : Int} {ms : List Rect} (hr : 0 ≤ rows ∧ rows ≤ 100) (hc : 0 ≤ cols ∧ cols ≤ 100) (hm : MV ms rows cols) : gridE { boardG rows cols raw with merges := ms } = 0 ∧ (ms.length ≤ 1000000 → LimG 1000000 { boardG rows cols raw with merges := ms }) ∧ ∀ c ∈ (boardG rows cols raw).cells, c.attrs = [] := by
  obtain ⟨a1, a2⟩ := bdA_all raw cols.toNat rows.toNat
  have hl := bdA_len raw cols.toNat rows.toNat
  have hmm : rows.toNat * cols.toNat ≤ 100 * 100 := Nat.mul_le_mul (by omega) (by omega)
  refine ⟨gridE_iff.2 ⟨⟨hr.1, ?_, hc.1, ?_⟩, cellsE_iff.2 ⟨fun c h => ?_, a2⟩, hm⟩, fun hk => ⟨?_, hk, fun c h => ?_⟩, fun c h => (a1 c h).2.2.2.2.2.2⟩
  · show rows ≤ _; omega
  · show cols ≤ _; omega
  · obtain ⟨q1, q2, q3, q4, ⟨v, hv, q5⟩, q6, q7⟩ := a1 c h
    have ht := bdT_ok hv
    refine cellE_iff.2 ⟨by show 0 ≤ c.row ∧ c.row < rows ∧ 0 ≤ c.col ∧ c.col < cols; omega, by omega, by rw [q5]; exact ht.1, by rw [q7]; exact chkA_nil, fun _ => ?_⟩
    unfold emptyC
    rw [q5, ht.2]; rfl
  · show (bdA raw cols.toNat rows.toNat).length ≤ _; omega
  · rw [(a1 c h).2.2.2.2.2.2]; exact Nat.zero_le _
end Go.Ch
end
section
set_option linter.unusedVariables false
namespace Go.Ch
open Go Go.Ab

theorem raw_sz {x : Grid} {e : GEd} (h1 : SzC x.cells) (h2 : SzC e.cells) : SzC (rawGr x e).cells :=
  raw_call (P := fun t a => t.size ≤ 9223372036854775807 ∧ Szd a) h1 h2
theorem szd_nil : Szd [] := fun a h => by cases h
structure UndAll (x : Grid) (e : GEd) : Prop where
  app : AppIn x e
  und : UndIn x e
  app2 : AppIn (rawGr x e) (undoE x e)
  len : (rawGr x e).merges.length ≤ 100000000000
  sz : SzC (rawGr x e).cells
  back : rawGr (rawGr x e) (undoE x e) = x
  ok : gridE (rawGr x e) = 0
theorem edit_sz {x : Grid} {raw : List Int} {text : ByteArray} {ms : Bool} (ht : text.size ≤ 100) : SzC (editE x raw text ms).cells := fun c hc => by
  obtain ⟨q1, q2, q3, q4, q5, q6, q7⟩ := (edA_all raw text (newI (fitR (raw.drop (raw.length / 2)) x.cols)).toNat (newI (fitR (raw.take (raw.length / 2)) x.rows)).toNat).1 c hc
  refine ⟨?_, by rw [q7]; exact szd_nil⟩
  rcases q5 with q5 | q5 <;> rw [q5]
  · omega
  · decide
end Go.Ch
end
section
set_option linter.unusedVariables false
set_option linter.unusedSimpArgs false
set_option maxRecDepth 100000
set_option maxHeartbeats 4000000
open Go Go.Proofs Go.Ab
namespace Go.Ch
end Go.Ch
end
section
set_option linter.unusedVariables false
namespace Go.Ch
open Go Go.Ab

theorem placeU_ge : ∀ (u : List U) (p fr tq : Int), fr ≤ p → placeU u p fr tq = -1 ∨ tq ≤ placeU u p fr tq
  | [], p, fr, tq, _ => .inl rfl
  | .A :: u, p, fr, tq, h => by
    rw [placeU]
    have := placeU_ge u p fr (tq + 1) h
    omega
  | .K :: u, p, fr, tq, h => by
    rw [placeU]
    split
    · exact .inr (Int.le_refl _)
    · have := placeU_ge u p (fr + 1) (tq + 1) (by omega)
      omega
  | .C :: u, p, fr, tq, h => by
    rw [placeU]
    split
    · exact .inl rfl
    · exact placeU_ge u p (fr + 1) tq (by omega)
theorem placeU_sw {u v : List U} (h : Sw u v) : ∀ p fr tq : Int, placeU u p fr tq = placeU v p fr tq := by
  induction h with
  | refl u => intros; rfl
  | cons x h ih => intro p fr tq; cases x <;> simp only [placeU, ih]
  | swap u => intro p fr tq; simp only [placeU]
  | symm h ih => intro p fr tq; exact (ih p fr tq).symm
  | trans h k ih jh => intro p fr tq; exact (ih p fr tq).trans (jh p fr tq)
/-- One change, and then another one. -/
def cmpU (u v : List U) (p fr t1 t : Int) : Int := if placeU u p fr t1 < 0 then -1 else placeU v (placeU u p fr t1) t1 t
theorem cmpU_A {u v : List U} {p fr t1 t : Int} (h0 : 0 ≤ t1) (h : fr ≤ p) : cmpU (.A :: u) (.K :: v) p fr t1 t = cmpU u v p fr (t1 + 1) (t + 1) := by
  unfold cmpU
  have := placeU_ge u p fr (t1 + 1) h
  rw [placeU, placeU]
  split
  · rfl
  · rw [if_neg (by omega)]
theorem cmpU_B {u v : List U} {p fr t1 t : Int} : cmpU u (.A :: v) p fr t1 t = cmpU u v p fr t1 (t + 1) := by
  unfold cmpU; rw [placeU]
theorem cmpU_KK {u v : List U} {p fr t1 t : Int} (h0 : 0 ≤ t1) (h : fr ≤ p) : cmpU (.K :: u) (.K :: v) p fr t1 t = if p = fr then t else cmpU u v p (fr + 1) (t1 + 1) (t + 1) := by
  unfold cmpU
  by_cases c : p = fr
  · rw [if_pos c, placeU, if_pos c, if_neg (by omega), placeU, if_pos rfl]
  · have := placeU_ge u p (fr + 1) (t1 + 1) (by omega)
    rw [if_neg c, placeU, if_neg c]
    split
    · rfl
    · rw [placeU, if_neg (by omega)]
theorem cmpU_KC {u v : List U} {p fr t1 t : Int} (h0 : 0 ≤ t1) (h : fr ≤ p) : cmpU (.K :: u) (.C :: v) p fr t1 t = if p = fr then -1 else cmpU u v p (fr + 1) (t1 + 1) t := by
  unfold cmpU
  by_cases c : p = fr
  · rw [if_pos c, placeU, if_pos c, if_neg (by omega), placeU, if_pos rfl]
  · have := placeU_ge u p (fr + 1) (t1 + 1) (by omega)
    rw [if_neg c, placeU, if_neg c]
    split
    · rfl
    · rw [placeU, if_neg (by omega)]
theorem cmpU_C {u v : List U} {p fr t1 t : Int} : cmpU (.C :: u) v p fr t1 t = if p = fr then -1 else cmpU u v p (fr + 1) t1 t := by
  unfold cmpU
  by_cases c : p = fr
  · rw [if_pos c, placeU, if_pos c, if_pos (by decide)]
  · rw [if_neg c, placeU, if_neg c]
theorem pair_place (n : Nat) : ∀ (p q : List U) (x fr t1 t2 t : Int), p.length + q.length ≤ n → oldU p = oldU q → fr ≤ x → 0 ≤ t1 → 0 ≤ t2 →
    cmpU p (pairU p q).2 x fr t1 t = cmpU q (pairU p q).1 x fr t2 t := by
  induction n with
  | zero =>
    intro p q x fr t1 t2 t hn _ _ _ _
    have h1 : p = [] := List.length_eq_zero_iff.1 (by omega)
    have h2 : q = [] := List.length_eq_zero_iff.1 (by omega)
    subst h1; subst h2; rfl
  | succ n ih =>
    intro p q x fr t1 t2 t hn ho hx h1 h2
    match p, q with
    | .A :: p, q => rw [pairU, cmpU_A h1 hx, cmpU_B]; exact ih p q x fr _ _ _ (by simp at hn; omega) ho hx (by omega) h2
    | [], .A :: q => rw [pairU, cmpU_B, cmpU_A h2 hx]; exact ih [] q x fr _ _ _ (by simp at hn ⊢; omega) ho hx h1 (by omega); all_goals (intro p h; cases h)
    | .K :: p, .A :: q => rw [pairU, cmpU_B, cmpU_A h2 hx]; exact ih (.K :: p) q x fr _ _ _ (by simp at hn ⊢; omega) ho hx h1 (by omega); all_goals (intro p h; cases h)
    | .C :: p, .A :: q => rw [pairU, cmpU_B, cmpU_A h2 hx]; exact ih (.C :: p) q x fr _ _ _ (by simp at hn ⊢; omega) ho hx h1 (by omega); all_goals (intro p h; cases h)
    | .K :: p, .K :: q =>
      rw [pairU, cmpU_KK h1 hx, cmpU_KK h2 hx]
      split
      · rfl
      · exact ih p q x _ _ _ _ (by simp at hn; omega) (by simp only [oldU] at ho; omega) (by omega) (by omega) (by omega)
    | .K :: p, .C :: q =>
      rw [pairU, cmpU_KC h1 hx, cmpU_C]
      split
      · rfl
      · exact ih p q x _ _ _ _ (by simp at hn; omega) (by simp only [oldU] at ho; omega) (by omega) (by omega) (by omega)
    | .C :: p, .K :: q =>
      rw [pairU, cmpU_KC h2 hx, cmpU_C]
      split
      · rfl
      · exact ih p q x _ _ _ _ (by simp at hn; omega) (by simp only [oldU] at ho; omega) (by omega) (by omega) (by omega)
    | .C :: p, .C :: q =>
      rw [pairU, cmpU_C, cmpU_C]
      split
      · rfl
      · exact ih p q x _ _ _ _ (by simp at hn; omega) (by simp only [oldU] at ho; omega) (by omega) (by omega) (by omega)
    | [], [] => rfl
    | [], .K :: q => simp only [oldU] at ho; omega
    | [], .C :: q => simp only [oldU] at ho; omega
    | .K :: p, [] => simp only [oldU] at ho; omega
    | .C :: p, [] => simp only [oldU] at ho; omega
/-- The same for the numbers of lines. -/
def cmpR (u v : List AxStep) (p : Int) : Int := if mvR u p < 0 then -1 else mvR v (mvR u p)
theorem mvR_ge {a : List AxStep} {p : Int} (v : Valid a) (h : 0 ≤ p) : -1 ≤ mvR a p := by
  unfold mvR
  split
  · exact place_ge v.1 p 0 0 (Int.le_refl _) h
  · omega
theorem mvR_ex {a : List AxStep} {p : Int} (v : Valid a) (h : 0 ≤ p) (hl : 0 < a.length) : mvR a p = placeU (ex a) p 0 0 := by
  unfold mvR; rw [if_pos hl, placeS_ex v.1 p 0 0 h]
/-- What the two rebased changes of an axis are. -/
structure PabOk (n : Int) (a b : List AxStep) : Prop where
  v1 : Valid (pA a b)
  v2 : Valid (pB a b)
  o1 : 0 < (pA a b).length → oldI (pA a b) = nwS n b
  o2 : 0 < (pB a b).length → oldI (pB a b) = nwS n a
  nw : nwS (nwS n a) (pB a b) = nwS (nwS n b) (pA a b)
  way : ∀ p, 0 ≤ p → p < n → cmpR a (pB a b) p = cmpR b (pA a b) p
theorem nil_of {l : List AxStep} (h : ¬ 0 < l.length) : l = [] := List.length_eq_zero_iff.1 (by omega)
theorem mvR_nil (p : Int) : mvR [] p = p := rfl
theorem nwS_nil (n : Int) : nwS n [] = n := rfl
theorem nwS_of {n : Int} {l : List AxStep} (h : ¬ 0 < l.length → n = 0) : nwS n l = newI l := by
  unfold nwS
  by_cases c : 0 < l.length
  · rw [if_pos c]
  · rw [if_neg c, newI_nil c, h c]
theorem oldI_nil {l : List AxStep} (h : ¬ 0 < l.length) : oldI l = 0 := by rw [nil_of h]; rfl
theorem pab_ok {n : Int} {a b : List AxStep} (va : Valid a) (vb : Valid b) (fa : 0 < a.length → oldI a = n) (fb : 0 < b.length → oldI b = n) (hl : (ex a).length + (ex b).length ≤ 2147483647) : PabOk n a b := by
  by_cases ca : 0 < a.length
  · by_cases cb : 0 < b.length
    · have e1 : pA a b = pairX1 a b := by unfold pA; rw [if_neg (by omega)]
      have e2 : pB a b = pairX2 a b := by unfold pB; rw [if_neg (by omega)]
      have heq : oldI a = oldI b := by rw [fa ca, fb cb]
      obtain ⟨v1, v2, m1, m2, _⟩ := pairX_ok va vb heq hl
      have hn : newI (pairX1 a b) = newI (pairX2 a b) := by
        obtain ⟨_, _, _, k⟩ := pairU_meets _ (ex a) (ex b) (Nat.le_refl _) (by unfold oldI at heq; omega)
        have s1 := (sw_old (doneW_ok (pairU (ex a) (ex b)).1).2).2
        have s2 := (sw_old (doneW_ok (pairU (ex a) (ex b)).2).2).2
        unfold newI pairX1 pairX2; omega
      have na : nwS n a = newI a := by unfold nwS; rw [if_pos ca]
      have nb : nwS n b = newI b := by unfold nwS; rw [if_pos cb]
      have z1 : ¬ 0 < (pairX1 a b).length → newI b = 0 := fun q => by rw [m2, oldI_nil q]
      have z2 : ¬ 0 < (pairX2 a b).length → newI a = 0 := fun q => by rw [m1, oldI_nil q]
      refine ⟨by rw [e1]; exact v1, by rw [e2]; exact v2, fun q => by rw [e1, nb, m2], fun q => by rw [e2, na, m1], ?_, fun p h0 hp => ?_⟩
      · rw [e1, e2, na, nb, nwS_of z1, nwS_of z2, hn]
      · rw [e1, e2]
        have hu := pair_place _ (ex a) (ex b) p 0 0 0 0 (Nat.le_refl _) (by unfold oldI at heq; omega) h0 (Int.le_refl _) (Int.le_refl _)
        have key : ∀ {u v : List AxStep} {w : List U}, Valid u → Valid v → 0 < u.length → (¬ 0 < v.length → newI u = 0) → Sw (ex v) w → cmpR u v p = cmpU (ex u) w p 0 0 0 := by
          intro u v w vu vv cu zv sw
          unfold cmpR cmpU
          rw [mvR_ex vu h0 cu]
          by_cases cv : 0 < v.length
          · split
            · rfl
            · rw [mvR_ex vv (by omega) cv, placeU_sw sw]
          · have h1 := zv cv
            have h2 : placeU (ex u) p 0 0 < 0 := by
              refine Classical.byContradiction fun q => ?_
              rw [← placeS_ex vu.1 p 0 0 h0] at q
              have := place_lt vu.1 p 0 0 h0 (by omega)
              unfold newI at h1; omega
            rw [if_pos h2, if_pos h2]
        rw [key va v2 ca z2 (doneW_ok (pairU (ex a) (ex b)).2).2, key vb v1 cb z1 (doneW_ok (pairU (ex a) (ex b)).1).2]
        exact hu
    · have hb := nil_of cb
      subst hb
      have e1 : pA a [] = a := by unfold pA; rw [if_pos (.inr rfl)]
      have e2 : pB a [] = [] := by unfold pB; rw [if_pos (.inr rfl)]
      refine ⟨by rw [e1]; exact va, by rw [e2]; exact vb, fun q => by rw [e1, nwS_nil]; exact fa ca, fun q => (by rw [e2] at q; exact absurd q (by decide)), by rw [e1, e2, nwS_nil, nwS_nil], fun p h0 hp => ?_⟩
      have := mvR_ge va h0
      rw [e1, e2]
      unfold cmpR
      rw [mvR_nil, mvR_nil, if_neg (show ¬ p < 0 by omega)]
      split <;> omega
  · have ha := nil_of ca
    subst ha
    have e1 : pA [] b = [] := by unfold pA; rw [if_pos (.inl rfl)]
    have e2 : pB [] b = b := by unfold pB; rw [if_pos (.inl rfl)]
    refine ⟨by rw [e1]; exact va, by rw [e2]; exact vb, fun q => (by rw [e1] at q; exact absurd q (by decide)), fun q => (by rw [e2] at q ⊢; rw [nwS_nil]; exact fb q), by rw [e1, e2, nwS_nil, nwS_nil], fun p h0 hp => ?_⟩
    have := mvR_ge vb h0
    rw [e1, e2]
    unfold cmpR
    rw [mvR_nil, mvR_nil, if_neg (show ¬ p < 0 by omega)]
    split <;> omega
theorem mvC_of {rows cols : List AxStep} {c : Cell} (hr : 0 ≤ c.row) (hc : 0 ≤ c.col) : mvC rows cols c = if mvR rows c.row < 0 ∨ mvR cols c.col < 0 then none else some { c with row := mvR rows c.row, col := mvR cols c.col } := by
  have z : ∀ {a : List AxStep} {p : Int}, 0 ≤ p → mvR a p < 0 → 0 < a.length := fun {a p} h0 h => by
    refine Classical.byContradiction fun q => ?_
    rw [nil_of q, mvR_nil] at h; omega
  have z1 := z (a := rows) hr
  have z2 := z (a := cols) hc
  unfold mvC
  by_cases c1 : mvR rows c.row < 0
  · rw [if_pos ⟨z1 c1, c1⟩, if_pos (.inl c1)]
  · rw [if_neg (fun q => c1 q.2)]
    by_cases c2 : mvR cols c.col < 0
    · rw [if_pos ⟨z2 c2, c2⟩, if_pos (.inr c2)]
    · rw [if_neg (fun q => c2 q.2), if_neg (by omega)]
theorem mvC_bind {r1 c1 r2 c2 : List AxStep} {c : Cell} (hr : 0 ≤ c.row) (hc : 0 ≤ c.col) : (mvC r1 c1 c).bind (mvC r2 c2) = if cmpR r1 r2 c.row < 0 ∨ cmpR c1 c2 c.col < 0 then none else some { c with row := cmpR r1 r2 c.row, col := cmpR c1 c2 c.col } := by
  rw [mvC_of hr hc]
  unfold cmpR
  by_cases q1 : mvR r1 c.row < 0
  · rw [if_pos (.inl q1), if_pos q1, if_pos (.inl (by decide))]; rfl
  · by_cases q2 : mvR c1 c.col < 0
    · rw [if_pos (.inr q2), if_pos q2, if_pos (.inr (by decide))]; rfl
    · rw [if_neg (by omega), if_neg q1, if_neg q2, Option.bind_some, mvC_of (by show 0 ≤ mvR r1 c.row; omega) (by show 0 ≤ mvR c1 c.col; omega)]
theorem fmap_congr {α β : Type} {f g : α → Option β} : ∀ {l : List α}, (∀ c ∈ l, f c = g c) → l.filterMap f = l.filterMap g
  | [], _ => rfl
  | c :: l, h => by
    rw [List.filterMap_cons, List.filterMap_cons, h c (by simp), fmap_congr (l := l) (fun d hd => h d (by simp [hd]))]
theorem mov_mov {l : List Cell} {m n : Int} {r1 c1 r2 c2 r3 c3 r4 c4 : List AxStep} (hl : ∀ c ∈ l, 0 ≤ c.row ∧ c.row < m ∧ 0 ≤ c.col ∧ c.col < n) (hr : ∀ p, 0 ≤ p → p < m → cmpR r1 r2 p = cmpR r3 r4 p) (hc : ∀ p, 0 ≤ p → p < n → cmpR c1 c2 p = cmpR c3 c4 p) :
    movL (movL l r1 c1) r2 c2 = movL (movL l r3 c3) r4 c4 := by
  unfold movL
  rw [List.filterMap_filterMap, List.filterMap_filterMap]
  refine fmap_congr fun c h => ?_
  obtain ⟨q1, q2, q3, q4⟩ := hl c h
  rw [mvC_bind q1 q3, mvC_bind q1 q3, hr _ q1 q2, hc _ q3 q4]
end Go.Ch
end
section
set_option linter.unusedVariables false
namespace Go.Ch
open Go Go.Ab

theorem ordC_ne {a b : Cell} (h : ordC a b < 0) : ordC a b ≠ 0 := by omega
theorem ordC_eq_comm {a b : Cell} : ordC a b = 0 ↔ ordC b a = 0 := by rw [ordC_eq, ordC_eq]; exact ⟨fun h => ⟨h.1.symm, h.2.symm⟩, fun h => ⟨h.1.symm, h.2.symm⟩⟩
theorem ordC_pos_ne {a b : Cell} (h : ordC b a < 0) : ordC a b ≠ 0 := fun q => by rw [ordC_eq_comm] at q; omega
theorem ordC_eq_trans {a b c : Cell} (h1 : ordC a b = 0) (h2 : ordC b c = 0) : ordC a c = 0 := by rw [ordC_eq] at *; omega
theorem one_mem {c y : Cell} : y ∈ (if emptyC c = true then ([] : List Cell) else [c]) ↔ y = c ∧ emptyC y = false := by
  cases h : emptyC c with
  | true => rw [if_pos rfl]; exact ⟨fun q => (by cases q), fun q => (by have e := q.2; rw [q.1, h] at e; cases e)⟩
  | false => rw [if_neg (by decide), List.mem_singleton]; exact ⟨fun q => ⟨q, by rw [q, h]⟩, fun q => q.1⟩
/-- Members of what is put. -/
theorem put_iff : ∀ (ns l : List Cell), Asc ns → Asc l → ∀ y, (y ∈ putL ns l ↔ (y ∈ ns ∧ emptyC y = false) ∨ (y ∈ l ∧ ∀ c ∈ ns, ordC c y ≠ 0))
  | [], l, _, _, y => by rw [putL]; simp
  | c :: ns, [], h1, h2, y => by
    rw [putL, putC, List.mem_append, one_mem, put_iff ns [] h1.2 trivial y]
    simp only [List.mem_cons, List.not_mem_nil, false_and, or_false]
    constructor
    · rintro (⟨p, q⟩ | ⟨p, q⟩)
      · exact ⟨.inl p, q⟩
      · exact ⟨.inr p, q⟩
    · rintro ⟨p | p, q⟩
      · exact .inl ⟨p, q⟩
      · exact .inr ⟨p, q⟩
  | c :: ns, x :: l, h1, h2, y => by
    rw [putL, putC]
    by_cases o1 : ordC x c < 0
    · rw [if_pos o1]
      have ih := put_iff (c :: ns) l h1 h2.2 y
      rw [putL] at ih
      rw [List.mem_cons, ih]
      constructor
      · rintro (rfl | p | p)
        · refine .inr ⟨by simp, fun d hd => ?_⟩
          rcases List.mem_cons.1 hd with rfl | hd
          · exact ordC_pos_ne o1
          · exact ordC_pos_ne (ordC_trans o1 (h1.1 d hd))
        · exact .inl p
        · exact .inr ⟨List.mem_cons_of_mem _ p.1, p.2⟩
      · rintro (p | ⟨p, q⟩)
        · exact .inr (.inl p)
        · rcases List.mem_cons.1 p with p | p
          · exact .inl p
          · exact .inr (.inr ⟨p, q⟩)
    · rw [if_neg o1]
      by_cases o2 : ordC x c = 0
      · rw [if_pos o2, List.mem_append, one_mem, put_iff ns l h1.2 h2.2 y]
        have oc : ordC c x = 0 := ordC_eq_comm.1 o2
        constructor
        · rintro (⟨rfl, q⟩ | ⟨p, q⟩ | ⟨p, q⟩)
          · exact .inl ⟨by simp, q⟩
          · exact .inl ⟨List.mem_cons_of_mem _ p, q⟩
          · refine .inr ⟨List.mem_cons_of_mem _ p, fun d hd => ?_⟩
            rcases List.mem_cons.1 hd with rfl | hd
            · exact ordC_ne (ordC_le_trans (by omega) (h2.1 y p))
            · exact q d hd
        · rintro (⟨p, q⟩ | ⟨p, q⟩)
          · rcases List.mem_cons.1 p with p | p
            · exact .inl ⟨p, q⟩
            · exact .inr (.inl ⟨p, q⟩)
          · rcases List.mem_cons.1 p with rfl | p
            · exact absurd oc (q c (by simp))
            · exact .inr (.inr ⟨p, fun d hd => q d (by simp [hd])⟩)
      · rw [if_neg o2, List.mem_append, one_mem, put_iff ns (x :: l) h1.2 h2 y]
        have hcx : ordC c x < 0 := ordC_flip.1 (by omega)
        constructor
        · rintro (⟨rfl, q⟩ | ⟨p, q⟩ | ⟨p, q⟩)
          · exact .inl ⟨by simp, q⟩
          · exact .inl ⟨List.mem_cons_of_mem _ p, q⟩
          · refine .inr ⟨p, fun d hd => ?_⟩
            rcases List.mem_cons.1 hd with rfl | hd
            · rcases List.mem_cons.1 p with rfl | p
              · exact ordC_ne hcx
              · exact ordC_ne (ordC_trans hcx (h2.1 y p))
            · exact q d hd
        · rintro (⟨p, q⟩ | ⟨p, q⟩)
          · rcases List.mem_cons.1 p with p | p
            · exact .inl ⟨p, q⟩
            · exact .inr (.inl ⟨p, q⟩)
          · exact .inr (.inr ⟨p, fun d hd => q d (by simp [hd])⟩)
termination_by ns l => ns.length + l.length
theorem asc_ext : ∀ {l k : List Cell}, Asc l → Asc k → (∀ y, y ∈ l ↔ y ∈ k) → l = k
  | [], [], _, _, _ => rfl
  | [], b :: k, _, _, h => by have := (h b).2 (by simp); cases this
  | a :: l, [], _, _, h => by have := (h a).1 (by simp); cases this
  | a :: l, b :: k, h1, h2, h => by
    have e : a = b := by
      rcases List.mem_cons.1 ((h a).1 (by simp)) with e | e
      · exact e
      · rcases List.mem_cons.1 ((h b).2 (by simp)) with e' | e'
        · exact e'.symm
        · have p := ordC_trans (h1.1 b e') (h2.1 a e)
          rw [ordC_self] at p; omega
    subst e
    rw [asc_ext h1.2 h2.2 (fun y => ?_)]
    have irr : ∀ {m : List Cell}, (∀ x ∈ m, ordC a x < 0) → a ∉ m := fun hm q => by have := hm a q; rw [ordC_self] at this; omega
    constructor
    · intro hy
      rcases List.mem_cons.1 ((h y).1 (by simp [hy])) with e | e
      · rw [e] at hy; exact absurd hy (irr h1.1)
      · exact e
    · intro hy
      rcases List.mem_cons.1 ((h y).2 (by simp [hy])) with e | e
      · rw [e] at hy; exact absurd hy (irr h2.1)
      · exact e
theorem hasC_iff {l : List Cell} {t : Cell} (hs : SortC l) : hasC l t = true ↔ ∃ c ∈ l, ordC c t = 0 := by
  obtain ⟨h1, h2, h3⟩ := lobC_all l t
  unfold hasC
  rw [Bool.and_eq_true, decide_eq_true_eq, beq_iff_eq]
  constructor
  · rintro ⟨p, q⟩
    exact ⟨_, getDX_mem (by omega), q⟩
  · rintro ⟨c, hc, q⟩
    obtain ⟨m, hm, rfl⟩ := mem_getDX hc
    have hle := lobC_ge (l := l) (t := t) (m := m) (by omega)
    have e : lobC l t = m := by
      refine Classical.byContradiction fun ne => ?_
      have := hs (lobC l t) m (by omega) hm
      exact h3 (by omega) (by rw [ordC_lt] at *; rw [ordC_eq] at q; omega)
    rw [e]
    exact ⟨by omega, q⟩
theorem asc_filter {p : Cell → Bool} : ∀ {l : List Cell}, Asc l → Asc (l.filter p)
  | [], _ => trivial
  | c :: l, h => by
    rw [List.filter_cons]
    split
    · exact ⟨fun x hx => h.1 x (List.mem_filter.1 hx).1, asc_filter h.2⟩
    · exact asc_filter h.2
/-- Cells that move keep what they hold, and stay apart. -/
theorem mov_emp {rows cols : List AxStep} {c d : Cell} (h : mvC rows cols c = some d) : emptyC d = emptyC c := by
  obtain ⟨_, _, rfl⟩ := mvC_some h; rfl
theorem mvC_eq {rows cols : List AxStep} {c d c' d' : Cell} (hc : PIn rows c.row ∧ PIn cols c.col) (hd : PIn rows d.row ∧ PIn cols d.col) (h1 : mvC rows cols c = some c') (h2 : mvC rows cols d = some d') : ordC c' d' = 0 ↔ ordC c d = 0 := by
  obtain ⟨a1, a2, rfl⟩ := mvC_some h1
  obtain ⟨b1, b2, rfl⟩ := mvC_some h2
  have inj : ∀ {a : List AxStep} {p q : Int}, PIn a p → PIn a q → ¬ (0 < a.length ∧ mvR a p < 0) → ¬ (0 < a.length ∧ mvR a q < 0) → (mvR a p = mvR a q ↔ p = q) := fun {a p q} hp hq u v => by
    constructor
    · intro e
      refine Classical.byContradiction fun ne => ?_
      by_cases c : p < q
      · have := mvR_mono hp hq c u v; omega
      · have := mvR_mono hq hp (by omega) v u; omega
    · intro e; rw [e]
  rw [ordC_eq, ordC_eq]
  show (mvR rows c.row = mvR rows d.row ∧ mvR cols c.col = mvR cols d.col) ↔ _
  rw [inj hc.1 hd.1 a1 b1, inj hc.2 hd.2 a2 b2]
theorem mvC_at {rows cols : List AxStep} {c d d' : Cell} (h : mvC rows cols d = some d') (e : ordC c d = 0) : ∃ c', mvC rows cols c = some c' ∧ ordC c' d' = 0 := by
  obtain ⟨b1, b2, rfl⟩ := mvC_some h
  obtain ⟨e1, e2⟩ := ordC_eq.1 e
  refine ⟨{ c with row := mvR rows c.row, col := mvR cols c.col }, ?_, ?_⟩
  · unfold mvC
    rw [e1, e2, if_neg b1, if_neg b2]
  · rw [ordC_eq, e1, e2]; exact ⟨rfl, rfl⟩
/-- Moving what was put: what is put moves, and so does what stays. -/
theorem mov_put {ns l : List Cell} {rows cols : List AxStep} (hn : Asc ns) (hl : Asc l) (p1 : ∀ c ∈ ns, PIn rows c.row ∧ PIn cols c.col) (p2 : ∀ c ∈ l, PIn rows c.row ∧ PIn cols c.col) (y : Cell) :
    y ∈ movL (putL ns l) rows cols ↔ (y ∈ movL ns rows cols ∧ emptyC y = false) ∨ (y ∈ movL l rows cols ∧ ∀ c ∈ movL ns rows cols, ordC c y ≠ 0) := by
  unfold movL
  simp only [List.mem_filterMap]
  constructor
  · rintro ⟨d, hd, he⟩
    rcases (put_iff ns l hn hl d).1 hd with ⟨q1, q2⟩ | ⟨q1, q2⟩
    · exact .inl ⟨⟨d, q1, he⟩, by rw [mov_emp he]; exact q2⟩
    · refine .inr ⟨⟨d, q1, he⟩, ?_⟩
      rintro c' ⟨c, hc, hc'⟩ e
      exact q2 c hc ((mvC_eq (p1 c hc) (p2 d q1) hc' he).1 e)
  · rintro (⟨⟨d, q1, he⟩, q2⟩ | ⟨⟨d, q1, he⟩, q2⟩)
    · exact ⟨d, (put_iff ns l hn hl d).2 (.inl ⟨q1, by rw [← mov_emp he]; exact q2⟩), he⟩
    · refine ⟨d, (put_iff ns l hn hl d).2 (.inr ⟨q1, fun c hc e => ?_⟩), he⟩
      obtain ⟨c', h1, h2⟩ := mvC_at he e
      exact q2 c' ⟨c, hc, h1⟩ h2
/-- The cells that two orders give. -/
theorem meet_cells {x : Grid} {a b : GEd} {Ar Ac Br Bc : List AxStep} (gx : Asc x.cells) (ga : Asc a.cells) (gb : Asc b.cells)
    (r1 : ∀ c ∈ x.cells, PIn a.rows c.row) (r2 : ∀ c ∈ x.cells, PIn a.cols c.col) (r3 : ∀ c ∈ x.cells, PIn b.rows c.row) (r4 : ∀ c ∈ x.cells, PIn b.cols c.col)
    (a1 : ∀ c ∈ a.cells, PIn Br c.row ∧ PIn Bc c.col) (b1 : ∀ c ∈ b.cells, PIn Ar c.row ∧ PIn Ac c.col)
    (x1 : ∀ c ∈ movL x.cells a.rows a.cols, PIn Br c.row ∧ PIn Bc c.col) (x2 : ∀ c ∈ movL x.cells b.rows b.cols, PIn Ar c.row ∧ PIn Ac c.col)
    (hw : movL (movL x.cells a.rows a.cols) Br Bc = movL (movL x.cells b.rows b.cols) Ar Ac) :
    putL (movL b.cells Ar Ac) (movL (putL a.cells (movL x.cells a.rows a.cols)) Br Bc) =
    putL (delL (fun c => hasC (movL b.cells Ar Ac) ⟨c.row, c.col, { data := #[] }, 0, []⟩) (movL a.cells Br Bc)) (movL (putL b.cells (movL x.cells b.rows b.cols)) Ar Ac) := by
  have sa := mov_asc gx r1 r2
  have sb := mov_asc gx r3 r4
  have ma := mov_asc ga (fun c h => (a1 c h).1) (fun c h => (a1 c h).2)
  have mb := mov_asc gb (fun c h => (b1 c h).1) (fun c h => (b1 c h).2)
  have ga' := put_asc _ _ ga sa
  have gb' := put_asc _ _ gb sb
  have pa : ∀ c ∈ putL a.cells (movL x.cells a.rows a.cols), PIn Br c.row ∧ PIn Bc c.col := fun c h => by
    rcases put_mem _ _ c h with ⟨h, _⟩ | h
    · exact a1 c h
    · exact x1 c h
  have pb : ∀ c ∈ putL b.cells (movL x.cells b.rows b.cols), PIn Ar c.row ∧ PIn Ac c.col := fun c h => by
    rcases put_mem _ _ c h with ⟨h, _⟩ | h
    · exact b1 c h
    · exact x2 c h
  have na := mov_asc ga' (fun c h => (pa c h).1) (fun c h => (pa c h).2)
  have nb := mov_asc gb' (fun c h => (pb c h).1) (fun c h => (pb c h).2)
  have md : Asc (delL (fun c => hasC (movL b.cells Ar Ac) ⟨c.row, c.col, { data := #[] }, 0, []⟩) (movL a.cells Br Bc)) := asc_filter ma
  have hd : ∀ y, y ∈ delL (fun c => hasC (movL b.cells Ar Ac) ⟨c.row, c.col, { data := #[] }, 0, []⟩) (movL a.cells Br Bc) ↔ y ∈ movL a.cells Br Bc ∧ ∀ c ∈ movL b.cells Ar Ac, ordC c y ≠ 0 := fun y => by
    unfold delL
    rw [List.mem_filter, Bool.not_eq_true']
    refine and_congr Iff.rfl ?_
    rw [← Bool.not_eq_true, hasC_iff (asc_sort mb)]
    constructor
    · intro h c hc e; exact h ⟨c, hc, by rw [ordC_eq] at e ⊢; exact e⟩
    · rintro h ⟨c, hc, e⟩; exact h c hc (by rw [ordC_eq] at e ⊢; exact e)
  refine asc_ext (put_asc _ _ mb na) (put_asc _ _ md nb) (fun y => ?_)
  rw [put_iff _ _ mb na, put_iff _ _ md nb, mov_put ga sa a1 x1, mov_put gb sb b1 x2, hd y, hw]
  have hE : (∀ c ∈ delL (fun c => hasC (movL b.cells Ar Ac) ⟨c.row, c.col, { data := #[] }, 0, []⟩) (movL a.cells Br Bc), ordC c y ≠ 0) ∧ (∀ c ∈ movL b.cells Ar Ac, ordC c y ≠ 0) ↔ (∀ c ∈ movL a.cells Br Bc, ordC c y ≠ 0) ∧ (∀ c ∈ movL b.cells Ar Ac, ordC c y ≠ 0) := by
    constructor
    · rintro ⟨h1, h2⟩
      refine ⟨fun c hc e => ?_, h2⟩
      exact h1 c ((hd c).2 ⟨hc, fun d hd e2 => h2 d hd (ordC_eq_trans e2 e)⟩) e
    · rintro ⟨h1, h2⟩
      exact ⟨fun c hc => h1 c ((hd c).1 hc).1, h2⟩
  constructor
  · rintro (⟨p, q⟩ | ⟨⟨p, q⟩ | ⟨p, q⟩, r⟩)
    · refine .inr ⟨.inl ⟨p, q⟩, fun c hc e => ?_⟩
      exact ((hd c).1 hc).2 y p (ordC_eq_comm.1 e)
    · exact .inl ⟨⟨p, r⟩, q⟩
    · have := hE.2 ⟨q, r⟩
      exact .inr ⟨.inr ⟨p, this.2⟩, this.1⟩
  · rintro (⟨⟨p, r⟩, q⟩ | ⟨⟨p, q⟩ | ⟨p, q⟩, r⟩)
    · exact .inr ⟨.inl ⟨p, q⟩, r⟩
    · exact .inl ⟨p, q⟩
    · have := hE.1 ⟨r, q⟩
      exact .inr ⟨.inr ⟨p, this.1⟩, this.2⟩
end Go.Ch
end
section
set_option linter.unusedVariables false
namespace Go.Ch
open Go Go.Ab

theorem mov_cellO {rows cols : List AxStep} {c d : Cell} {m n : Int} {o : Bool} (hr : PIn rows c.row) (hc : PIn cols c.col) (h : cellE c m n o = 0) (hd : mvC rows cols c = some d) : cellE d (nwS m rows) (nwS n cols) o = 0 := by
  obtain ⟨a1, a2, rfl⟩ := mvC_some hd
  obtain ⟨h1, h2, h3, h4, h5⟩ := cellE_iff.1 h
  have b1 := mvR_in (m := m) hr ⟨h1.1, h1.2.1⟩ a1
  have b2 := mvR_in (m := n) hc ⟨h1.2.2.1, h1.2.2.2⟩ a2
  exact cellE_iff.2 ⟨⟨b1.1, b1.2, b2.1, b2.2⟩, h2, h3, h4, h5⟩
theorem rectL_keep (l : List Rect) (rows cols : List AxStep) : rectL l rows cols = keepQ l rows cols [] := by
  unfold rectL keepQ
  refine fmap_congr fun r _ => ?_
  unfold thrO keepO
  by_cases c : thrB (thrR r rows cols) = true
  · rw [if_pos c, if_pos ⟨c, hasQ_f.2 (by simp)⟩]
  · rw [if_neg c, if_neg (fun q => c q.1)]
/-- What one edit's parts ask of the other one's axes. -/
theorem thr_in {m n : Int} {e : GEd} {rows cols : List AxStep} (hm : 0 ≤ m ∧ m ≤ 2147483647) (hn : 0 ≤ n ∧ n ≤ 2147483647) (vr : Valid rows) (vc : Valid cols) (o1 : 0 < rows.length → oldI rows = m) (o2 : 0 < cols.length → oldI cols = n) (le : LimE 1000000 e)
    (hc : ∀ c ∈ e.cells, cellE c m n true = 0) (hs : ∀ r ∈ e.split, insB r m n = true) (hg : ∀ r ∈ e.merge, insB r m n = true) : ThrIn e rows cols := by
  have m1 : m ≤ mxS rows := by unfold mxS; split; (rename_i q; rw [o1 q]; exact Int.le_refl _); exact hm.2
  have m2 : n ≤ mxS cols := by unfold mxS; split; (rename_i q; rw [o2 q]; exact Int.le_refl _); exact hn.2
  have hq : ∀ r, insB r m n = true → QIn rows cols r := fun r hr => by
    have := insB_iff.1 hr
    exact ⟨RB_ins hr (by omega) (by omega), fun q => ⟨vr, by omega, by omega, by rw [o1 q]; omega⟩, fun q => ⟨vc, by omega, by omega, by rw [o2 q]; omega⟩⟩
  have := le.c; have := le.s; have := le.m
  refine ⟨fun _ => vr, fun _ => vc, by omega, by omega, by omega, ⟨fun c h => ?_, fun r h => ins_mono (hs r h) m1 m2, fun r h => ins_mono (hg r h) m1 m2⟩, le.a, fun c h => ?_, fun c h => ?_, fun r h => hq r (hs r h), fun r h => hq r (hg r h)⟩
  · have := (cellE_iff.1 (hc c h)).1; omega
  · have := (cellE_iff.1 (hc c h)).1; exact pin_of vr o1 this.1 this.2.1
  · have := (cellE_iff.1 (hc c h)).1; exact pin_of vc o2 this.2.2.1 this.2.2.2
theorem cells_at {x : Grid} {e : GEd} (he : EdOk e) (hf : FitOk x e) : ∀ c ∈ e.cells, cellE c (nwS x.rows e.rows) (nwS x.cols e.cols) true = 0 := fun c h => by
  obtain ⟨q1, q2, q3, q4, q5⟩ := cellE_iff.1 ((cellsE_iff.1 he.cells).1 c h)
  have := hf.cells c h
  exact cellE_iff.2 ⟨⟨q1.1, this.1, q1.2.2.1, this.2⟩, q2, q3, q4, q5⟩
/-- A rebased edit can be applied. -/
theorem app_pair {x : Grid} {e : GEd} {m n : Int} {es : GEd} (hg : gridE x = 0) (lx : LimG 2000000 x) (vr : Valid e.rows) (vc : Valid e.cols) (o1 : 0 < e.rows.length → oldI e.rows = x.rows) (o2 : 0 < e.cols.length → oldI e.cols = x.cols)
    {rows cols : List AxStep} (wr : Valid rows) (wc : Valid cols) (w1 : nwS x.rows e.rows = nwS m rows) (w2 : nwS x.cols e.cols = nwS n cols) (ti : ThrIn es rows cols) (les : LimE 1000000 es)
    (hc : ∀ c ∈ es.cells, cellE c m n true = 0) (hs : ∀ r ∈ es.split, insB r m n = true) (hm : ∀ r ∈ es.merge, insB r m n = true) (ec : ∀ c ∈ e.cells, c ∈ movL es.cells rows cols) (eca : Asc e.cells) (ecl : e.cells.length ≤ es.cells.length) (e1 : e.split = rectL es.split rows cols) (e2 : e.merge = rectL es.merge rows cols) : AppIn x e := by
  obtain ⟨g1, _, _⟩ := gridE_iff.1 hg
  have b1 := nwS_bd (n := x.rows) vr (by omega)
  have b2 := nwS_bd (n := x.cols) vc (by omega)
  have hcell : ∀ c ∈ e.cells, cellE c (nwS x.rows e.rows) (nwS x.cols e.cols) true = 0 := fun c h => by
    obtain ⟨d, hd, he⟩ := List.mem_filterMap.1 (ec c h)
    rw [w1, w2]
    exact mov_cellO (ti.p1 d hd) (ti.p2 d hd) (hc d hd) he
  have hsp : ∀ r ∈ e.split, insB r (nwS x.rows e.rows) (nwS x.cols e.cols) = true := fun r h => by
    rw [e1, rectL_keep] at h
    rw [w1, w2]
    exact (keepQ_ins (fun r hr => ⟨hs r hr, ti.q1 r hr⟩) r h).1
  have hmg : ∀ r ∈ e.merge, insB r (nwS x.rows e.rows) (nwS x.cols e.cols) = true ∧ ¬ (r.h = 1 ∧ r.w = 1) := fun r h => by
    rw [e2, rectL_keep] at h
    rw [w1, w2]
    exact keepQ_ins (fun r hr => ⟨hm r hr, ti.q2 r hr⟩) r h
  refine app_in (k := 10000000000) (Nat.le_refl _) hg ⟨vr, vc, cellsE_iff.2 ⟨fun c h => ?_, eca⟩, fun r h => ins_mono (hsp r h) (by omega) (by omega), fun r h => ⟨ins_mono (hmg r h).1 (by omega) (by omega), (hmg r h).2⟩⟩ ⟨o1, o2, fun c h => ?_, hsp, fun r h => (hmg r h).1⟩ (lx.mono (by omega)) ⟨by have := les.c; omega, ?_, ?_, fun c h => ?_⟩
  · obtain ⟨q1, q2, q3, q4, q5⟩ := cellE_iff.1 (hcell c h)
    exact cellE_iff.2 ⟨⟨q1.1, by omega, q1.2.2.1, by omega⟩, q2, q3, q4, q5⟩
  · have := (cellE_iff.1 (hcell c h)).1; exact ⟨this.2.1, this.2.2.2⟩
  · rw [e1]; have := rectL_len es.split rows cols; have := les.s; omega
  · rw [e2]; have := rectL_len es.merge rows cols; have := les.m; omega
  · obtain ⟨d, hd, he⟩ := List.mem_filterMap.1 (ec c h)
    obtain ⟨_, _, rfl⟩ := mvC_some he
    exact les.a d hd
structure PairOut (x : Grid) (a b : GEd) : Prop where
  pin : PairIn a b
  aa : AppIn x a
  ab : AppIn x b
  ay : AppIn (rawGr x a) (pairY a b)
  bx : AppIn (rawGr x b) (pairX a b)
  cells : (rawGr (rawGr x a) (pairY a b)).cells = (rawGr (rawGr x b) (pairX a b)).cells
  rows : (rawGr (rawGr x a) (pairY a b)).rows = (rawGr (rawGr x b) (pairX a b)).rows
  cols : (rawGr (rawGr x a) (pairY a b)).cols = (rawGr (rawGr x b) (pairX a b)).cols
theorem edt_ex {x : Grid} {e : GEd} (hs : 0 ≤ x.rows ∧ x.rows ≤ 1000 ∧ 0 ≤ x.cols ∧ x.cols ≤ 1000) (h : EdtOk x e) : (ex e.rows).length ≤ 2000 ∧ (ex e.cols).length ≤ 2000 := by
  have h1 := ex_le h.ed.okr (m := 1000) (by have := h.lr.1; omega) h.nr.1
  have h2 := ex_le h.ed.okc (m := 1000) (by have := h.lr.2; omega) h.nr.2
  omega
theorem pair_out {x : Grid} {a b : GEd} (hx : gridE x = 0) (lx : LimG 1000000 x) (hs : 0 ≤ x.rows ∧ x.rows ≤ 1000 ∧ 0 ≤ x.cols ∧ x.cols ≤ 1000) (ha : EdtOk x a) (hb : EdtOk x b) : PairOut x a b := by
  have aa := app_in (k := 1000000) (by decide) hx ha.ed ha.fit lx ha.lim
  have ab := app_in (k := 1000000) (by decide) hx hb.ed hb.fit lx hb.lim
  obtain ⟨x1, x2⟩ := edt_ex hs ha
  obtain ⟨y1, y2⟩ := edt_ex hs hb
  have R := pab_ok ha.ed.okr hb.ed.okr ha.fit.rows hb.fit.rows (by omega)
  have C := pab_ok ha.ed.okc hb.ed.okc ha.fit.cols hb.fit.cols (by omega)
  obtain ⟨g1, g2, g3⟩ := gridE_iff.1 hx
  have ca := cells_at ha.ed ha.fit
  have cb := cells_at hb.ed hb.fit
  have na := nwS_bd (n := x.rows) ha.ed.okr (by omega)
  have na' := nwS_bd (n := x.cols) ha.ed.okc (by omega)
  have nb := nwS_bd (n := x.rows) hb.ed.okr (by omega)
  have nb' := nwS_bd (n := x.cols) hb.ed.okc (by omega)
  have ta : ThrIn a (pB a.rows b.rows) (pB a.cols b.cols) := thr_in na na' R.v2 C.v2 R.o2 C.o2 ha.lim ca ha.fit.split ha.fit.merge
  have tb : ThrIn b (pA a.rows b.rows) (pA a.cols b.cols) := thr_in nb nb' R.v1 C.v1 R.o1 C.o1 hb.lim cb hb.fit.split hb.fit.merge
  have sa := (cellsE_iff.1 ha.ed.cells).2
  have sb := (cellsE_iff.1 hb.ed.cells).2
  have ma := mov_asc sa ta.p1 ta.p2
  have mb := mov_asc sb tb.p1 tb.p2
  have la := ex_len' ha.ed.okr.1; have la' := ex_len' ha.ed.okc.1; have lb := ex_len' hb.ed.okr.1; have lb' := ex_len' hb.ed.okc.1
  have po : ∀ {u v : List AxStep}, Valid u → Valid v → oldI u = oldI v → (ex u).length + (ex v).length ≤ 2147483647 → PairOk u v := fun {u v} vu vv e hl => by
    obtain ⟨v1, v2, _⟩ := pairX_ok vu vv e hl
    exact ⟨vu, vv, e, check_iff.2 v1, check_iff.2 v2⟩
  have pin : PairIn a b := ⟨ha.ed, hb.ed, fun _ _ => po ha.ed.okr hb.ed.okr (by rw [ha.lr.1, hb.lr.1]) (by omega), fun _ _ => po ha.ed.okc hb.ed.okc (by rw [ha.lr.2, hb.lr.2]) (by omega), ⟨by omega, by omega⟩, ⟨by omega, by omega⟩, ta, tb, asc_sort mb⟩
  obtain ⟨x3, x4⟩ := cellsE_iff.1 g2
  refine ⟨pin, aa, ab, ?_, ?_, ?_, R.nw, C.nw⟩
  · exact app_pair (es := b) (rows := pA a.rows b.rows) (cols := pA a.cols b.cols) (m := nwS x.rows b.rows) (n := nwS x.cols b.cols) (raw_valid aa) (raw_lim lx ha.lim) R.v2 C.v2 R.o2 C.o2 R.v1 C.v1 R.nw C.nw tb hb.lim cb hb.fit.split hb.fit.merge (fun c h => h) mb (movL_len _ _ _) rfl rfl
  · exact app_pair (es := a) (rows := pB a.rows b.rows) (cols := pB a.cols b.cols) (m := nwS x.rows a.rows) (n := nwS x.cols a.cols) (raw_valid ab) (raw_lim lx hb.lim) R.v1 C.v1 R.o1 C.o1 R.v2 C.v2 R.nw.symm C.nw.symm ta ha.lim ca ha.fit.split ha.fit.merge (fun c h => (List.mem_filter.1 h).1) (asc_filter ma) (Nat.le_trans (List.length_filter_le _ _) (movL_len _ _ _)) rfl rfl
  · have inx : ∀ {e : GEd} {rows cols : List AxStep}, AppIn x e → Valid rows → Valid cols → (0 < rows.length → oldI rows = nwS x.rows e.rows) → (0 < cols.length → oldI cols = nwS x.cols e.cols) → ∀ c ∈ movL x.cells e.rows e.cols, PIn rows c.row ∧ PIn cols c.col := fun {e rows cols} he vr vc o1 o2 c h => by
      obtain ⟨d, hd, hm⟩ := List.mem_filterMap.1 h
      have := (cellE_iff.1 (mov_cell (he.raw.p1 d hd) (he.raw.p2 d hd) (x3 d hd) hm)).1
      exact ⟨pin_of vr o1 this.1 this.2.1, pin_of vc o2 this.2.2.1 this.2.2.2⟩
    exact meet_cells x4 sa sb aa.raw.p1 aa.raw.p2 ab.raw.p1 ab.raw.p2 (fun c h => ⟨ta.p1 c h, ta.p2 c h⟩) (fun c h => ⟨tb.p1 c h, tb.p2 c h⟩) (inx aa R.v2 C.v2 R.o2 C.o2) (inx ab R.v1 C.v1 R.o1 C.o1)
      (mov_mov (fun c h => (cellE_iff.1 (x3 c h)).1) R.way C.way)
end Go.Ch
end
section
set_option linter.unusedVariables false
namespace Go.Ch
open Go Go.Ab

theorem sameCs_self {a b : List Cell} (h : a = b) : sameCs a b = true := by
  subst h
  unfold sameCs
  rw [if_pos rfl, sameCells_self _ _ 0 rfl]
theorem szc_of {l : List Cell} (h : ∀ c ∈ l, c.text.size ≤ 100 ∧ c.attrs = []) : SzC l := fun c hc => ⟨by have := (h c hc).1; omega, by rw [(h c hc).2]; exact szd_nil⟩
theorem pair_sz {x : Grid} {a b : GEd} (h1 : SzC x.cells) (h2 : SzC a.cells) (h3 : SzC b.cells) : SzC (rawGr (rawGr x a) (pairY a b)).cells ∧ SzC (rawGr (rawGr x b) (pairX a b)).cells := by
  have mv : ∀ {l : List Cell} {r c : List AxStep}, SzC l → SzC (movL l r c) := fun {l r c} h d hd => by
    obtain ⟨d0, h0, hm⟩ := List.mem_filterMap.1 hd
    obtain ⟨_, _, rfl⟩ := mvC_some hm
    exact h d0 h0
  exact ⟨raw_sz (raw_sz h1 h2) (mv h3), raw_sz (raw_sz h1 h3) (fun c hc => mv h2 c (List.mem_filter.1 hc).1)⟩
theorem bd_sz (raw : List Int) (cols r : Nat) : SzC (bdA raw cols r) := szc_of fun c hc => by
  obtain ⟨_, _, _, _, ⟨v, hv, q5⟩, q6, q7⟩ := (bdA_all raw cols r).1 c hc
  exact ⟨by rw [q5]; exact (show (1 : Nat) ≤ 100 by decide), q7⟩
theorem pair_mlen {x : Grid} {a b : GEd} : (rawGr (rawGr x a) (pairY a b)).merges.length ≤ x.merges.length + a.merge.length + b.merge.length ∧ (rawGr (rawGr x b) (pairX a b)).merges.length ≤ x.merges.length + a.merge.length + b.merge.length := by
  have h1 := raw_mlen (rawGr x a) (pairY a b); have h2 := raw_mlen x a
  have h3 := raw_mlen (rawGr x b) (pairX a b); have h4 := raw_mlen x b
  have h5 : (pairY a b).merge.length ≤ b.merge.length := rectL_len _ _ _
  have h6 : (pairX a b).merge.length ≤ a.merge.length := rectL_len _ _ _
  omega
structure FitsAll (x : Grid) (a b : GEd) : Prop where
  pin : PairIn a b
  aa : AppIn x a
  ab : AppIn x b
  ay : AppIn (rawGr x a) (pairY a b)
  bx : AppIn (rawGr x b) (pairX a b)
  l1 : (rawGr (rawGr x a) (pairY a b)).merges.length ≤ 100000000000
  l2 : (rawGr (rawGr x b) (pairX a b)).merges.length ≤ 100000000000
  z1 : SzC (rawGr (rawGr x a) (pairY a b)).cells
  z2 : SzC (rawGr (rawGr x b) (pairX a b)).cells
  v1 : gridE (rawGr (rawGr x a) (pairY a b)) = 0
  v2 : gridE (rawGr (rawGr x b) (pairX a b)) = 0
  cells : sameCs (rawGr (rawGr x a) (pairY a b)).cells (rawGr (rawGr x b) (pairX a b)).cells = true
theorem tx1 : textG { data := #[111, 110, 101] } = true := by decide +kernel
theorem tx2 : textG { data := #[116, 119, 111] } = true := by decide +kernel
theorem mv_one {m n : Int} (hm : 2 ≤ m) (hn : 2 ≤ n) : MV [⟨0, 0, 2, 2⟩] m n :=
  ⟨fun r hr => by rw [List.mem_singleton.1 hr]; exact insB_iff.2 (by simp only []; omega), fun r hr => by rw [List.mem_singleton.1 hr]; simp only []; omega, List.pairwise_singleton _ _⟩
theorem fits_all {x : Grid} (p q : List Int) {ms : Bool} (hx : gridE x = 0) (lx : LimG 1000000 x) (hs : 0 ≤ x.rows ∧ x.rows ≤ 7 ∧ 0 ≤ x.cols ∧ x.cols ≤ 7) (zx : SzC x.cells) : FitsAll x (editE x p { data := #[111, 110, 101] } ms) (editE x q { data := #[116, 119, 111] } ms) := by
  have ea := edit_ok p ms ⟨hs.1, by omega⟩ ⟨hs.2.2.1, by omega⟩ tx1
  have eb := edit_ok q ms ⟨hs.1, by omega⟩ ⟨hs.2.2.1, by omega⟩ tx2
  obtain ⟨p1, p2, p3, p4, p5, p6, p7, p8⟩ := pair_out hx lx ⟨hs.1, by omega, hs.2.2.1, by omega⟩ ea eb
  obtain ⟨z1, z2⟩ := pair_sz zx (edit_sz (x := x) (raw := p) (text := { data := #[111, 110, 101] }) (ms := ms) (by decide)) (edit_sz (x := x) (raw := q) (text := { data := #[116, 119, 111] }) (ms := ms) (by decide))
  have hl := pair_mlen (x := x) (a := editE x p { data := #[111, 110, 101] } ms) (b := editE x q { data := #[116, 119, 111] } ms)
  have l1 := lx.m; have l2 := ea.lim.m; have l3 := eb.lim.m
  exact ⟨p1, p2, p3, p4, p5, by omega, by omega, z1, z2, raw_valid p4, raw_valid p5, sameCs_self p6⟩
theorem law30 (m n : Int) (raw p q : List Int) : FitsAll (⟨(boardG (withinI m 2 7) (withinI n 2 7) raw).rows, (boardG (withinI m 2 7) (withinI n 2 7) raw).cols, (boardG (withinI m 2 7) (withinI n 2 7) raw).cells, [⟨0, 0, 2, 2⟩]⟩ : Grid) (editE (⟨(boardG (withinI m 2 7) (withinI n 2 7) raw).rows, (boardG (withinI m 2 7) (withinI n 2 7) raw).cols, (boardG (withinI m 2 7) (withinI n 2 7) raw).cells, [⟨0, 0, 2, 2⟩]⟩ : Grid) p { data := #[111, 110, 101] } true) (editE (⟨(boardG (withinI m 2 7) (withinI n 2 7) raw).rows, (boardG (withinI m 2 7) (withinI n 2 7) raw).cols, (boardG (withinI m 2 7) (withinI n 2 7) raw).cells, [⟨0, 0, 2, 2⟩]⟩ : Grid) q { data := #[116, 119, 111] } true) := by
  have wm := withinI_bd m (lo := 2) (hi := 7) (by decide)
  have wn := withinI_bd n (lo := 2) (hi := 7) (by decide)
  obtain ⟨b1, b2, b3⟩ := board_ok raw (rows := withinI m 2 7) (cols := withinI n 2 7) (ms := [⟨0, 0, 2, 2⟩]) (by omega) (by omega) (mv_one (by omega) (by omega))
  exact fits_all p q b1 (b2 (by decide)) (by show 0 ≤ withinI m 2 7 ∧ withinI m 2 7 ≤ 7 ∧ 0 ≤ withinI n 2 7 ∧ withinI n 2 7 ≤ 7; omega) (bd_sz _ _ _)
/-- The same without merged cells: the two grids are one. -/
structure MeetsAll (x : Grid) (a b : GEd) : Prop where
  pin : PairIn a b
  aa : AppIn x a
  ab : AppIn x b
  ay : AppIn (rawGr x a) (pairY a b)
  bx : AppIn (rawGr x b) (pairX a b)
  same : sameG (rawGr (rawGr x a) (pairY a b)) (rawGr (rawGr x b) (pairX a b)) = true
end Go.Ch
end
section
set_option linter.unusedVariables false
set_option linter.unusedSimpArgs false
set_option maxRecDepth 100000
set_option maxHeartbeats 4000000
open Go Go.Proofs Go.Ab
namespace Go.Ch
theorem fc_boardI (m n : Int) (raw : List Int) (hm : 0 ≤ m ∧ m ≤ 1000) (hn : 0 ≤ n ∧ n ≤ 1000) : FC Tryz.prog 14 [VI m, VI n, VL 1 intT raw] (app emp []) (.t (gridT (boardG m n raw))) (app emp []) := by
  obtain ⟨k, rfl⟩ := Int.eq_ofNat_of_zero_le hm.1
  obtain ⟨l, rfl⟩ := Int.eq_ofNat_of_zero_le hn.1
  exact fc_board k l raw (by omega) (by omega)
theorem fc_law30 (m n : Int) (raw p q : List Int) : FC Tryz.prog 4 [VI m, VI n, VL 1 intT raw, VL 1 intT p, VL 1 intT q] (app emp []) (VB true) (app emp []) := by
 refine .go Tryz.f4 ?_
 refine .len 2 (fun hl2 => ?_)
 refine .len 3 (fun hl3 => ?_)
 refine .len 4 (fun hl4 => ?_)
 have wm := withinI_bd m (lo := 2) (hi := 7) (by decide)
 have wn := withinI_bd n (lo := 2) (hi := 7) (by decide)
 obtain ⟨U1, U2, U3, U4, U5, U6, U7, U8, U9, U10, U11, U12⟩ := law30 m n raw p q
 have e1 : ((((((true || false) || false) && ((gridE ((rawGr ((rawGr ({ rows := ((boardG (withinI m 2 7) (withinI n 2 7) raw)).rows, cols := ((boardG (withinI m 2 7) (withinI n 2 7) raw)).cols, cells := ((boardG (withinI m 2 7) (withinI n 2 7) raw)).cells, merges := [({ row := 0, col := 0, h := 2, w := 2 } : Rect)] } : Grid) ((editE ({ rows := ((boardG (withinI m 2 7) (withinI n 2 7) raw)).rows, cols := ((boardG (withinI m 2 7) (withinI n 2 7) raw)).cols, cells := ((boardG (withinI m 2 7) (withinI n 2 7) raw)).cells, merges := [({ row := 0, col := 0, h := 2, w := 2 } : Rect)] } : Grid) p ({ data := #[111, 110, 101] }) true)))) ((pairY ((editE ({ rows := ((boardG (withinI m 2 7) (withinI n 2 7) raw)).rows, cols := ((boardG (withinI m 2 7) (withinI n 2 7) raw)).cols, cells := ((boardG (withinI m 2 7) (withinI n 2 7) raw)).cells, merges := [({ row := 0, col := 0, h := 2, w := 2 } : Rect)] } : Grid) p ({ data := #[111, 110, 101] }) true)) ((editE ({ rows := ((boardG (withinI m 2 7) (withinI n 2 7) raw)).rows, cols := ((boardG (withinI m 2 7) (withinI n 2 7) raw)).cols, cells := ((boardG (withinI m 2 7) (withinI n 2 7) raw)).cells, merges := [({ row := 0, col := 0, h := 2, w := 2 } : Rect)] } : Grid) q ({ data := #[116, 119, 111] }) true))))))) == 0)) && ((gridE ((rawGr ((rawGr ({ rows := ((boardG (withinI m 2 7) (withinI n 2 7) raw)).rows, cols := ((boardG (withinI m 2 7) (withinI n 2 7) raw)).cols, cells := ((boardG (withinI m 2 7) (withinI n 2 7) raw)).cells, merges := [({ row := 0, col := 0, h := 2, w := 2 } : Rect)] } : Grid) ((editE ({ rows := ((boardG (withinI m 2 7) (withinI n 2 7) raw)).rows, cols := ((boardG (withinI m 2 7) (withinI n 2 7) raw)).cols, cells := ((boardG (withinI m 2 7) (withinI n 2 7) raw)).cells, merges := [({ row := 0, col := 0, h := 2, w := 2 } : Rect)] } : Grid) q ({ data := #[116, 119, 111] }) true)))) ((pairX ((editE ({ rows := ((boardG (withinI m 2 7) (withinI n 2 7) raw)).rows, cols := ((boardG (withinI m 2 7) (withinI n 2 7) raw)).cols, cells := ((boardG (withinI m 2 7) (withinI n 2 7) raw)).cells, merges := [({ row := 0, col := 0, h := 2, w := 2 } : Rect)] } : Grid) p ({ data := #[111, 110, 101] }) true)) ((editE ({ rows := ((boardG (withinI m 2 7) (withinI n 2 7) raw)).rows, cols := ((boardG (withinI m 2 7) (withinI n 2 7) raw)).cols, cells := ((boardG (withinI m 2 7) (withinI n 2 7) raw)).cells, merges := [({ row := 0, col := 0, h := 2, w := 2 } : Rect)] } : Grid) q ({ data := #[116, 119, 111] }) true))))))) == 0)) && (sameCs (((rawGr ((rawGr ({ rows := ((boardG (withinI m 2 7) (withinI n 2 7) raw)).rows, cols := ((boardG (withinI m 2 7) (withinI n 2 7) raw)).cols, cells := ((boardG (withinI m 2 7) (withinI n 2 7) raw)).cells, merges := [({ row := 0, col := 0, h := 2, w := 2 } : Rect)] } : Grid) ((editE ({ rows := ((boardG (withinI m 2 7) (withinI n 2 7) raw)).rows, cols := ((boardG (withinI m 2 7) (withinI n 2 7) raw)).cols, cells := ((boardG (withinI m 2 7) (withinI n 2 7) raw)).cells, merges := [({ row := 0, col := 0, h := 2, w := 2 } : Rect)] } : Grid) p ({ data := #[111, 110, 101] }) true)))) ((pairY ((editE ({ rows := ((boardG (withinI m 2 7) (withinI n 2 7) raw)).rows, cols := ((boardG (withinI m 2 7) (withinI n 2 7) raw)).cols, cells := ((boardG (withinI m 2 7) (withinI n 2 7) raw)).cells, merges := [({ row := 0, col := 0, h := 2, w := 2 } : Rect)] } : Grid) p ({ data := #[111, 110, 101] }) true)) ((editE ({ rows := ((boardG (withinI m 2 7) (withinI n 2 7) raw)).rows, cols := ((boardG (withinI m 2 7) (withinI n 2 7) raw)).cols, cells := ((boardG (withinI m 2 7) (withinI n 2 7) raw)).cells, merges := [({ row := 0, col := 0, h := 2, w := 2 } : Rect)] } : Grid) q ({ data := #[116, 119, 111] }) true)))))).cells) (((rawGr ((rawGr ({ rows := ((boardG (withinI m 2 7) (withinI n 2 7) raw)).rows, cols := ((boardG (withinI m 2 7) (withinI n 2 7) raw)).cols, cells := ((boardG (withinI m 2 7) (withinI n 2 7) raw)).cells, merges := [({ row := 0, col := 0, h := 2, w := 2 } : Rect)] } : Grid) ((editE ({ rows := ((boardG (withinI m 2 7) (withinI n 2 7) raw)).rows, cols := ((boardG (withinI m 2 7) (withinI n 2 7) raw)).cols, cells := ((boardG (withinI m 2 7) (withinI n 2 7) raw)).cells, merges := [({ row := 0, col := 0, h := 2, w := 2 } : Rect)] } : Grid) q ({ data := #[116, 119, 111] }) true)))) ((pairX ((editE ({ rows := ((boardG (withinI m 2 7) (withinI n 2 7) raw)).rows, cols := ((boardG (withinI m 2 7) (withinI n 2 7) raw)).cols, cells := ((boardG (withinI m 2 7) (withinI n 2 7) raw)).cells, merges := [({ row := 0, col := 0, h := 2, w := 2 } : Rect)] } : Grid) p ({ data := #[111, 110, 101] }) true)) ((editE ({ rows := ((boardG (withinI m 2 7) (withinI n 2 7) raw)).rows, cols := ((boardG (withinI m 2 7) (withinI n 2 7) raw)).cols, cells := ((boardG (withinI m 2 7) (withinI n 2 7) raw)).cells, merges := [({ row := 0, col := 0, h := 2, w := 2 } : Rect)] } : Grid) q ({ data := #[116, 119, 111] }) true)))))).cells))) : Bool) = true := by
  rw [U10, U11, U12]; rfl
 exact .finE [.r [], .r [(0, X (Xc0 fc_grids X0))], .f, .r [(1, X (Xc0 (fc_within m 2 7 (by omega)) X0)), (3, X (Xc0 (fc_within n 2 7 (by omega)) X0)), (5, X (Xc1 64 (fc_boardI (withinI m 2 7) (withinI n 2 7) raw (by omega) (by omega)) X0))], .r [], .r [(2, X (Xc1 136 (fc_editing ({ rows := ((boardG (withinI m 2 7) (withinI n 2 7) raw)).rows, cols := ((boardG (withinI m 2 7) (withinI n 2 7) raw)).cols, cells := ((boardG (withinI m 2 7) (withinI n 2 7) raw)).cells, merges := [({ row := 0, col := 0, h := 2, w := 2 } : Rect)] } : Grid) p ({ data := #[111, 110, 101] }) true (by exact (⟨by omega, by omega⟩ : 0 ≤ withinI m 2 7 ∧ withinI m 2 7 ≤ 1000)) (by exact (⟨by omega, by omega⟩ : 0 ≤ withinI n 2 7 ∧ withinI n 2 7 ≤ 1000))) (rowC rectT [({ row := 0, col := 0, h := 2, w := 2 } : Rect)] X0))), (5, X (Xc1 160 (fc_editing ({ rows := ((boardG (withinI m 2 7) (withinI n 2 7) raw)).rows, cols := ((boardG (withinI m 2 7) (withinI n 2 7) raw)).cols, cells := ((boardG (withinI m 2 7) (withinI n 2 7) raw)).cells, merges := [({ row := 0, col := 0, h := 2, w := 2 } : Rect)] } : Grid) q ({ data := #[116, 119, 111] }) true (by exact (⟨by omega, by omega⟩ : 0 ≤ withinI m 2 7 ∧ withinI m 2 7 ≤ 1000)) (by exact (⟨by omega, by omega⟩ : 0 ≤ withinI n 2 7 ∧ withinI n 2 7 ≤ 1000))) (rowC rectT [({ row := 0, col := 0, h := 2, w := 2 } : Rect)] X0)))], .r [(2, X (Xc1 216 (fc_gpair ((editE ({ rows := ((boardG (withinI m 2 7) (withinI n 2 7) raw)).rows, cols := ((boardG (withinI m 2 7) (withinI n 2 7) raw)).cols, cells := ((boardG (withinI m 2 7) (withinI n 2 7) raw)).cells, merges := [({ row := 0, col := 0, h := 2, w := 2 } : Rect)] } : Grid) p ({ data := #[111, 110, 101] }) true)) ((editE ({ rows := ((boardG (withinI m 2 7) (withinI n 2 7) raw)).rows, cols := ((boardG (withinI m 2 7) (withinI n 2 7) raw)).cols, cells := ((boardG (withinI m 2 7) (withinI n 2 7) raw)).cells, merges := [({ row := 0, col := 0, h := 2, w := 2 } : Rect)] } : Grid) q ({ data := #[116, 119, 111] }) true)) (by assumption)) X0))], .r [(2, X (Xc1 312 (fc_gapply ({ rows := ((boardG (withinI m 2 7) (withinI n 2 7) raw)).rows, cols := ((boardG (withinI m 2 7) (withinI n 2 7) raw)).cols, cells := ((boardG (withinI m 2 7) (withinI n 2 7) raw)).cells, merges := [({ row := 0, col := 0, h := 2, w := 2 } : Rect)] } : Grid) ((editE ({ rows := ((boardG (withinI m 2 7) (withinI n 2 7) raw)).rows, cols := ((boardG (withinI m 2 7) (withinI n 2 7) raw)).cols, cells := ((boardG (withinI m 2 7) (withinI n 2 7) raw)).cells, merges := [({ row := 0, col := 0, h := 2, w := 2 } : Rect)] } : Grid) p ({ data := #[111, 110, 101] }) true)) (by assumption)) (rowC rectT [({ row := 0, col := 0, h := 2, w := 2 } : Rect)] X0)))], .r [(2, X (Xc1 384 (fc_gapply ({ rows := ((boardG (withinI m 2 7) (withinI n 2 7) raw)).rows, cols := ((boardG (withinI m 2 7) (withinI n 2 7) raw)).cols, cells := ((boardG (withinI m 2 7) (withinI n 2 7) raw)).cells, merges := [({ row := 0, col := 0, h := 2, w := 2 } : Rect)] } : Grid) ((editE ({ rows := ((boardG (withinI m 2 7) (withinI n 2 7) raw)).rows, cols := ((boardG (withinI m 2 7) (withinI n 2 7) raw)).cols, cells := ((boardG (withinI m 2 7) (withinI n 2 7) raw)).cells, merges := [({ row := 0, col := 0, h := 2, w := 2 } : Rect)] } : Grid) q ({ data := #[116, 119, 111] }) true)) (by assumption)) (rowC rectT [({ row := 0, col := 0, h := 2, w := 2 } : Rect)] X0)))], .r [(2, X (Xc1 456 (fc_gapply ((rawGr ({ rows := ((boardG (withinI m 2 7) (withinI n 2 7) raw)).rows, cols := ((boardG (withinI m 2 7) (withinI n 2 7) raw)).cols, cells := ((boardG (withinI m 2 7) (withinI n 2 7) raw)).cells, merges := [({ row := 0, col := 0, h := 2, w := 2 } : Rect)] } : Grid) ((editE ({ rows := ((boardG (withinI m 2 7) (withinI n 2 7) raw)).rows, cols := ((boardG (withinI m 2 7) (withinI n 2 7) raw)).cols, cells := ((boardG (withinI m 2 7) (withinI n 2 7) raw)).cells, merges := [({ row := 0, col := 0, h := 2, w := 2 } : Rect)] } : Grid) p ({ data := #[111, 110, 101] }) true)))) ((pairY ((editE ({ rows := ((boardG (withinI m 2 7) (withinI n 2 7) raw)).rows, cols := ((boardG (withinI m 2 7) (withinI n 2 7) raw)).cols, cells := ((boardG (withinI m 2 7) (withinI n 2 7) raw)).cells, merges := [({ row := 0, col := 0, h := 2, w := 2 } : Rect)] } : Grid) p ({ data := #[111, 110, 101] }) true)) ((editE ({ rows := ((boardG (withinI m 2 7) (withinI n 2 7) raw)).rows, cols := ((boardG (withinI m 2 7) (withinI n 2 7) raw)).cols, cells := ((boardG (withinI m 2 7) (withinI n 2 7) raw)).cells, merges := [({ row := 0, col := 0, h := 2, w := 2 } : Rect)] } : Grid) q ({ data := #[116, 119, 111] }) true)))) (by assumption)) X0))], .r [(2, X (Xc1 528 (fc_gapply ((rawGr ({ rows := ((boardG (withinI m 2 7) (withinI n 2 7) raw)).rows, cols := ((boardG (withinI m 2 7) (withinI n 2 7) raw)).cols, cells := ((boardG (withinI m 2 7) (withinI n 2 7) raw)).cells, merges := [({ row := 0, col := 0, h := 2, w := 2 } : Rect)] } : Grid) ((editE ({ rows := ((boardG (withinI m 2 7) (withinI n 2 7) raw)).rows, cols := ((boardG (withinI m 2 7) (withinI n 2 7) raw)).cols, cells := ((boardG (withinI m 2 7) (withinI n 2 7) raw)).cells, merges := [({ row := 0, col := 0, h := 2, w := 2 } : Rect)] } : Grid) q ({ data := #[116, 119, 111] }) true)))) ((pairX ((editE ({ rows := ((boardG (withinI m 2 7) (withinI n 2 7) raw)).rows, cols := ((boardG (withinI m 2 7) (withinI n 2 7) raw)).cols, cells := ((boardG (withinI m 2 7) (withinI n 2 7) raw)).cells, merges := [({ row := 0, col := 0, h := 2, w := 2 } : Rect)] } : Grid) p ({ data := #[111, 110, 101] }) true)) ((editE ({ rows := ((boardG (withinI m 2 7) (withinI n 2 7) raw)).rows, cols := ((boardG (withinI m 2 7) (withinI n 2 7) raw)).cols, cells := ((boardG (withinI m 2 7) (withinI n 2 7) raw)).cells, merges := [({ row := 0, col := 0, h := 2, w := 2 } : Rect)] } : Grid) q ({ data := #[116, 119, 111] }) true)))) (by assumption)) X0))], .r [(4, Xv 1 true X0), (5, X (Xk true)), (8, Xv 1 (true || false) X0), (9, X (Xk (true || false))), (12, Xv 1 ((true || false) || false) (Xc0 (fc_gridError ((rawGr ((rawGr ({ rows := ((boardG (withinI m 2 7) (withinI n 2 7) raw)).rows, cols := ((boardG (withinI m 2 7) (withinI n 2 7) raw)).cols, cells := ((boardG (withinI m 2 7) (withinI n 2 7) raw)).cells, merges := [({ row := 0, col := 0, h := 2, w := 2 } : Rect)] } : Grid) ((editE ({ rows := ((boardG (withinI m 2 7) (withinI n 2 7) raw)).rows, cols := ((boardG (withinI m 2 7) (withinI n 2 7) raw)).cols, cells := ((boardG (withinI m 2 7) (withinI n 2 7) raw)).cells, merges := [({ row := 0, col := 0, h := 2, w := 2 } : Rect)] } : Grid) p ({ data := #[111, 110, 101] }) true)))) ((pairY ((editE ({ rows := ((boardG (withinI m 2 7) (withinI n 2 7) raw)).rows, cols := ((boardG (withinI m 2 7) (withinI n 2 7) raw)).cols, cells := ((boardG (withinI m 2 7) (withinI n 2 7) raw)).cells, merges := [({ row := 0, col := 0, h := 2, w := 2 } : Rect)] } : Grid) p ({ data := #[111, 110, 101] }) true)) ((editE ({ rows := ((boardG (withinI m 2 7) (withinI n 2 7) raw)).rows, cols := ((boardG (withinI m 2 7) (withinI n 2 7) raw)).cols, cells := ((boardG (withinI m 2 7) (withinI n 2 7) raw)).cells, merges := [({ row := 0, col := 0, h := 2, w := 2 } : Rect)] } : Grid) q ({ data := #[116, 119, 111] }) true)))))) (by omega) (by assumption)) X0)), (13, Xv 1 ((true || false) || false) X0), (14, X (Xk ((true || false) || false))), (17, Xv 1 (((true || false) || false) && ((gridE ((rawGr ((rawGr ({ rows := ((boardG (withinI m 2 7) (withinI n 2 7) raw)).rows, cols := ((boardG (withinI m 2 7) (withinI n 2 7) raw)).cols, cells := ((boardG (withinI m 2 7) (withinI n 2 7) raw)).cells, merges := [({ row := 0, col := 0, h := 2, w := 2 } : Rect)] } : Grid) ((editE ({ rows := ((boardG (withinI m 2 7) (withinI n 2 7) raw)).rows, cols := ((boardG (withinI m 2 7) (withinI n 2 7) raw)).cols, cells := ((boardG (withinI m 2 7) (withinI n 2 7) raw)).cells, merges := [({ row := 0, col := 0, h := 2, w := 2 } : Rect)] } : Grid) p ({ data := #[111, 110, 101] }) true)))) ((pairY ((editE ({ rows := ((boardG (withinI m 2 7) (withinI n 2 7) raw)).rows, cols := ((boardG (withinI m 2 7) (withinI n 2 7) raw)).cols, cells := ((boardG (withinI m 2 7) (withinI n 2 7) raw)).cells, merges := [({ row := 0, col := 0, h := 2, w := 2 } : Rect)] } : Grid) p ({ data := #[111, 110, 101] }) true)) ((editE ({ rows := ((boardG (withinI m 2 7) (withinI n 2 7) raw)).rows, cols := ((boardG (withinI m 2 7) (withinI n 2 7) raw)).cols, cells := ((boardG (withinI m 2 7) (withinI n 2 7) raw)).cells, merges := [({ row := 0, col := 0, h := 2, w := 2 } : Rect)] } : Grid) q ({ data := #[116, 119, 111] }) true))))))) == 0)) (Xc0 (fc_gridError ((rawGr ((rawGr ({ rows := ((boardG (withinI m 2 7) (withinI n 2 7) raw)).rows, cols := ((boardG (withinI m 2 7) (withinI n 2 7) raw)).cols, cells := ((boardG (withinI m 2 7) (withinI n 2 7) raw)).cells, merges := [({ row := 0, col := 0, h := 2, w := 2 } : Rect)] } : Grid) ((editE ({ rows := ((boardG (withinI m 2 7) (withinI n 2 7) raw)).rows, cols := ((boardG (withinI m 2 7) (withinI n 2 7) raw)).cols, cells := ((boardG (withinI m 2 7) (withinI n 2 7) raw)).cells, merges := [({ row := 0, col := 0, h := 2, w := 2 } : Rect)] } : Grid) q ({ data := #[116, 119, 111] }) true)))) ((pairX ((editE ({ rows := ((boardG (withinI m 2 7) (withinI n 2 7) raw)).rows, cols := ((boardG (withinI m 2 7) (withinI n 2 7) raw)).cols, cells := ((boardG (withinI m 2 7) (withinI n 2 7) raw)).cells, merges := [({ row := 0, col := 0, h := 2, w := 2 } : Rect)] } : Grid) p ({ data := #[111, 110, 101] }) true)) ((editE ({ rows := ((boardG (withinI m 2 7) (withinI n 2 7) raw)).rows, cols := ((boardG (withinI m 2 7) (withinI n 2 7) raw)).cols, cells := ((boardG (withinI m 2 7) (withinI n 2 7) raw)).cells, merges := [({ row := 0, col := 0, h := 2, w := 2 } : Rect)] } : Grid) q ({ data := #[116, 119, 111] }) true)))))) (by omega) (by assumption)) X0)), (18, Xv 1 (((true || false) || false) && ((gridE ((rawGr ((rawGr ({ rows := ((boardG (withinI m 2 7) (withinI n 2 7) raw)).rows, cols := ((boardG (withinI m 2 7) (withinI n 2 7) raw)).cols, cells := ((boardG (withinI m 2 7) (withinI n 2 7) raw)).cells, merges := [({ row := 0, col := 0, h := 2, w := 2 } : Rect)] } : Grid) ((editE ({ rows := ((boardG (withinI m 2 7) (withinI n 2 7) raw)).rows, cols := ((boardG (withinI m 2 7) (withinI n 2 7) raw)).cols, cells := ((boardG (withinI m 2 7) (withinI n 2 7) raw)).cells, merges := [({ row := 0, col := 0, h := 2, w := 2 } : Rect)] } : Grid) p ({ data := #[111, 110, 101] }) true)))) ((pairY ((editE ({ rows := ((boardG (withinI m 2 7) (withinI n 2 7) raw)).rows, cols := ((boardG (withinI m 2 7) (withinI n 2 7) raw)).cols, cells := ((boardG (withinI m 2 7) (withinI n 2 7) raw)).cells, merges := [({ row := 0, col := 0, h := 2, w := 2 } : Rect)] } : Grid) p ({ data := #[111, 110, 101] }) true)) ((editE ({ rows := ((boardG (withinI m 2 7) (withinI n 2 7) raw)).rows, cols := ((boardG (withinI m 2 7) (withinI n 2 7) raw)).cols, cells := ((boardG (withinI m 2 7) (withinI n 2 7) raw)).cells, merges := [({ row := 0, col := 0, h := 2, w := 2 } : Rect)] } : Grid) q ({ data := #[116, 119, 111] }) true))))))) == 0)) X0), (19, X (Xk (((true || false) || false) && ((gridE ((rawGr ((rawGr ({ rows := ((boardG (withinI m 2 7) (withinI n 2 7) raw)).rows, cols := ((boardG (withinI m 2 7) (withinI n 2 7) raw)).cols, cells := ((boardG (withinI m 2 7) (withinI n 2 7) raw)).cells, merges := [({ row := 0, col := 0, h := 2, w := 2 } : Rect)] } : Grid) ((editE ({ rows := ((boardG (withinI m 2 7) (withinI n 2 7) raw)).rows, cols := ((boardG (withinI m 2 7) (withinI n 2 7) raw)).cols, cells := ((boardG (withinI m 2 7) (withinI n 2 7) raw)).cells, merges := [({ row := 0, col := 0, h := 2, w := 2 } : Rect)] } : Grid) p ({ data := #[111, 110, 101] }) true)))) ((pairY ((editE ({ rows := ((boardG (withinI m 2 7) (withinI n 2 7) raw)).rows, cols := ((boardG (withinI m 2 7) (withinI n 2 7) raw)).cols, cells := ((boardG (withinI m 2 7) (withinI n 2 7) raw)).cells, merges := [({ row := 0, col := 0, h := 2, w := 2 } : Rect)] } : Grid) p ({ data := #[111, 110, 101] }) true)) ((editE ({ rows := ((boardG (withinI m 2 7) (withinI n 2 7) raw)).rows, cols := ((boardG (withinI m 2 7) (withinI n 2 7) raw)).cols, cells := ((boardG (withinI m 2 7) (withinI n 2 7) raw)).cells, merges := [({ row := 0, col := 0, h := 2, w := 2 } : Rect)] } : Grid) q ({ data := #[116, 119, 111] }) true))))))) == 0)))), (22, Xv 1 ((((true || false) || false) && ((gridE ((rawGr ((rawGr ({ rows := ((boardG (withinI m 2 7) (withinI n 2 7) raw)).rows, cols := ((boardG (withinI m 2 7) (withinI n 2 7) raw)).cols, cells := ((boardG (withinI m 2 7) (withinI n 2 7) raw)).cells, merges := [({ row := 0, col := 0, h := 2, w := 2 } : Rect)] } : Grid) ((editE ({ rows := ((boardG (withinI m 2 7) (withinI n 2 7) raw)).rows, cols := ((boardG (withinI m 2 7) (withinI n 2 7) raw)).cols, cells := ((boardG (withinI m 2 7) (withinI n 2 7) raw)).cells, merges := [({ row := 0, col := 0, h := 2, w := 2 } : Rect)] } : Grid) p ({ data := #[111, 110, 101] }) true)))) ((pairY ((editE ({ rows := ((boardG (withinI m 2 7) (withinI n 2 7) raw)).rows, cols := ((boardG (withinI m 2 7) (withinI n 2 7) raw)).cols, cells := ((boardG (withinI m 2 7) (withinI n 2 7) raw)).cells, merges := [({ row := 0, col := 0, h := 2, w := 2 } : Rect)] } : Grid) p ({ data := #[111, 110, 101] }) true)) ((editE ({ rows := ((boardG (withinI m 2 7) (withinI n 2 7) raw)).rows, cols := ((boardG (withinI m 2 7) (withinI n 2 7) raw)).cols, cells := ((boardG (withinI m 2 7) (withinI n 2 7) raw)).cells, merges := [({ row := 0, col := 0, h := 2, w := 2 } : Rect)] } : Grid) q ({ data := #[116, 119, 111] }) true))))))) == 0)) && ((gridE ((rawGr ((rawGr ({ rows := ((boardG (withinI m 2 7) (withinI n 2 7) raw)).rows, cols := ((boardG (withinI m 2 7) (withinI n 2 7) raw)).cols, cells := ((boardG (withinI m 2 7) (withinI n 2 7) raw)).cells, merges := [({ row := 0, col := 0, h := 2, w := 2 } : Rect)] } : Grid) ((editE ({ rows := ((boardG (withinI m 2 7) (withinI n 2 7) raw)).rows, cols := ((boardG (withinI m 2 7) (withinI n 2 7) raw)).cols, cells := ((boardG (withinI m 2 7) (withinI n 2 7) raw)).cells, merges := [({ row := 0, col := 0, h := 2, w := 2 } : Rect)] } : Grid) q ({ data := #[116, 119, 111] }) true)))) ((pairX ((editE ({ rows := ((boardG (withinI m 2 7) (withinI n 2 7) raw)).rows, cols := ((boardG (withinI m 2 7) (withinI n 2 7) raw)).cols, cells := ((boardG (withinI m 2 7) (withinI n 2 7) raw)).cells, merges := [({ row := 0, col := 0, h := 2, w := 2 } : Rect)] } : Grid) p ({ data := #[111, 110, 101] }) true)) ((editE ({ rows := ((boardG (withinI m 2 7) (withinI n 2 7) raw)).rows, cols := ((boardG (withinI m 2 7) (withinI n 2 7) raw)).cols, cells := ((boardG (withinI m 2 7) (withinI n 2 7) raw)).cells, merges := [({ row := 0, col := 0, h := 2, w := 2 } : Rect)] } : Grid) q ({ data := #[116, 119, 111] }) true))))))) == 0)) X0), (24, Xv 1 ((((true || false) || false) && ((gridE ((rawGr ((rawGr ({ rows := ((boardG (withinI m 2 7) (withinI n 2 7) raw)).rows, cols := ((boardG (withinI m 2 7) (withinI n 2 7) raw)).cols, cells := ((boardG (withinI m 2 7) (withinI n 2 7) raw)).cells, merges := [({ row := 0, col := 0, h := 2, w := 2 } : Rect)] } : Grid) ((editE ({ rows := ((boardG (withinI m 2 7) (withinI n 2 7) raw)).rows, cols := ((boardG (withinI m 2 7) (withinI n 2 7) raw)).cols, cells := ((boardG (withinI m 2 7) (withinI n 2 7) raw)).cells, merges := [({ row := 0, col := 0, h := 2, w := 2 } : Rect)] } : Grid) p ({ data := #[111, 110, 101] }) true)))) ((pairY ((editE ({ rows := ((boardG (withinI m 2 7) (withinI n 2 7) raw)).rows, cols := ((boardG (withinI m 2 7) (withinI n 2 7) raw)).cols, cells := ((boardG (withinI m 2 7) (withinI n 2 7) raw)).cells, merges := [({ row := 0, col := 0, h := 2, w := 2 } : Rect)] } : Grid) p ({ data := #[111, 110, 101] }) true)) ((editE ({ rows := ((boardG (withinI m 2 7) (withinI n 2 7) raw)).rows, cols := ((boardG (withinI m 2 7) (withinI n 2 7) raw)).cols, cells := ((boardG (withinI m 2 7) (withinI n 2 7) raw)).cells, merges := [({ row := 0, col := 0, h := 2, w := 2 } : Rect)] } : Grid) q ({ data := #[116, 119, 111] }) true))))))) == 0)) && ((gridE ((rawGr ((rawGr ({ rows := ((boardG (withinI m 2 7) (withinI n 2 7) raw)).rows, cols := ((boardG (withinI m 2 7) (withinI n 2 7) raw)).cols, cells := ((boardG (withinI m 2 7) (withinI n 2 7) raw)).cells, merges := [({ row := 0, col := 0, h := 2, w := 2 } : Rect)] } : Grid) ((editE ({ rows := ((boardG (withinI m 2 7) (withinI n 2 7) raw)).rows, cols := ((boardG (withinI m 2 7) (withinI n 2 7) raw)).cols, cells := ((boardG (withinI m 2 7) (withinI n 2 7) raw)).cells, merges := [({ row := 0, col := 0, h := 2, w := 2 } : Rect)] } : Grid) q ({ data := #[116, 119, 111] }) true)))) ((pairX ((editE ({ rows := ((boardG (withinI m 2 7) (withinI n 2 7) raw)).rows, cols := ((boardG (withinI m 2 7) (withinI n 2 7) raw)).cols, cells := ((boardG (withinI m 2 7) (withinI n 2 7) raw)).cells, merges := [({ row := 0, col := 0, h := 2, w := 2 } : Rect)] } : Grid) p ({ data := #[111, 110, 101] }) true)) ((editE ({ rows := ((boardG (withinI m 2 7) (withinI n 2 7) raw)).rows, cols := ((boardG (withinI m 2 7) (withinI n 2 7) raw)).cols, cells := ((boardG (withinI m 2 7) (withinI n 2 7) raw)).cells, merges := [({ row := 0, col := 0, h := 2, w := 2 } : Rect)] } : Grid) q ({ data := #[116, 119, 111] }) true))))))) == 0)) X0), (25, Xv 2 ((((true || false) || false) && ((gridE ((rawGr ((rawGr ({ rows := ((boardG (withinI m 2 7) (withinI n 2 7) raw)).rows, cols := ((boardG (withinI m 2 7) (withinI n 2 7) raw)).cols, cells := ((boardG (withinI m 2 7) (withinI n 2 7) raw)).cells, merges := [({ row := 0, col := 0, h := 2, w := 2 } : Rect)] } : Grid) ((editE ({ rows := ((boardG (withinI m 2 7) (withinI n 2 7) raw)).rows, cols := ((boardG (withinI m 2 7) (withinI n 2 7) raw)).cols, cells := ((boardG (withinI m 2 7) (withinI n 2 7) raw)).cells, merges := [({ row := 0, col := 0, h := 2, w := 2 } : Rect)] } : Grid) p ({ data := #[111, 110, 101] }) true)))) ((pairY ((editE ({ rows := ((boardG (withinI m 2 7) (withinI n 2 7) raw)).rows, cols := ((boardG (withinI m 2 7) (withinI n 2 7) raw)).cols, cells := ((boardG (withinI m 2 7) (withinI n 2 7) raw)).cells, merges := [({ row := 0, col := 0, h := 2, w := 2 } : Rect)] } : Grid) p ({ data := #[111, 110, 101] }) true)) ((editE ({ rows := ((boardG (withinI m 2 7) (withinI n 2 7) raw)).rows, cols := ((boardG (withinI m 2 7) (withinI n 2 7) raw)).cols, cells := ((boardG (withinI m 2 7) (withinI n 2 7) raw)).cells, merges := [({ row := 0, col := 0, h := 2, w := 2 } : Rect)] } : Grid) q ({ data := #[116, 119, 111] }) true))))))) == 0)) && ((gridE ((rawGr ((rawGr ({ rows := ((boardG (withinI m 2 7) (withinI n 2 7) raw)).rows, cols := ((boardG (withinI m 2 7) (withinI n 2 7) raw)).cols, cells := ((boardG (withinI m 2 7) (withinI n 2 7) raw)).cells, merges := [({ row := 0, col := 0, h := 2, w := 2 } : Rect)] } : Grid) ((editE ({ rows := ((boardG (withinI m 2 7) (withinI n 2 7) raw)).rows, cols := ((boardG (withinI m 2 7) (withinI n 2 7) raw)).cols, cells := ((boardG (withinI m 2 7) (withinI n 2 7) raw)).cells, merges := [({ row := 0, col := 0, h := 2, w := 2 } : Rect)] } : Grid) q ({ data := #[116, 119, 111] }) true)))) ((pairX ((editE ({ rows := ((boardG (withinI m 2 7) (withinI n 2 7) raw)).rows, cols := ((boardG (withinI m 2 7) (withinI n 2 7) raw)).cols, cells := ((boardG (withinI m 2 7) (withinI n 2 7) raw)).cells, merges := [({ row := 0, col := 0, h := 2, w := 2 } : Rect)] } : Grid) p ({ data := #[111, 110, 101] }) true)) ((editE ({ rows := ((boardG (withinI m 2 7) (withinI n 2 7) raw)).rows, cols := ((boardG (withinI m 2 7) (withinI n 2 7) raw)).cols, cells := ((boardG (withinI m 2 7) (withinI n 2 7) raw)).cells, merges := [({ row := 0, col := 0, h := 2, w := 2 } : Rect)] } : Grid) q ({ data := #[116, 119, 111] }) true))))))) == 0)) (Xc0 (fc_sameCells (((rawGr ((rawGr ({ rows := ((boardG (withinI m 2 7) (withinI n 2 7) raw)).rows, cols := ((boardG (withinI m 2 7) (withinI n 2 7) raw)).cols, cells := ((boardG (withinI m 2 7) (withinI n 2 7) raw)).cells, merges := [({ row := 0, col := 0, h := 2, w := 2 } : Rect)] } : Grid) ((editE ({ rows := ((boardG (withinI m 2 7) (withinI n 2 7) raw)).rows, cols := ((boardG (withinI m 2 7) (withinI n 2 7) raw)).cols, cells := ((boardG (withinI m 2 7) (withinI n 2 7) raw)).cells, merges := [({ row := 0, col := 0, h := 2, w := 2 } : Rect)] } : Grid) p ({ data := #[111, 110, 101] }) true)))) ((pairY ((editE ({ rows := ((boardG (withinI m 2 7) (withinI n 2 7) raw)).rows, cols := ((boardG (withinI m 2 7) (withinI n 2 7) raw)).cols, cells := ((boardG (withinI m 2 7) (withinI n 2 7) raw)).cells, merges := [({ row := 0, col := 0, h := 2, w := 2 } : Rect)] } : Grid) p ({ data := #[111, 110, 101] }) true)) ((editE ({ rows := ((boardG (withinI m 2 7) (withinI n 2 7) raw)).rows, cols := ((boardG (withinI m 2 7) (withinI n 2 7) raw)).cols, cells := ((boardG (withinI m 2 7) (withinI n 2 7) raw)).cells, merges := [({ row := 0, col := 0, h := 2, w := 2 } : Rect)] } : Grid) q ({ data := #[116, 119, 111] }) true)))))).cells) (((rawGr ((rawGr ({ rows := ((boardG (withinI m 2 7) (withinI n 2 7) raw)).rows, cols := ((boardG (withinI m 2 7) (withinI n 2 7) raw)).cols, cells := ((boardG (withinI m 2 7) (withinI n 2 7) raw)).cells, merges := [({ row := 0, col := 0, h := 2, w := 2 } : Rect)] } : Grid) ((editE ({ rows := ((boardG (withinI m 2 7) (withinI n 2 7) raw)).rows, cols := ((boardG (withinI m 2 7) (withinI n 2 7) raw)).cols, cells := ((boardG (withinI m 2 7) (withinI n 2 7) raw)).cells, merges := [({ row := 0, col := 0, h := 2, w := 2 } : Rect)] } : Grid) q ({ data := #[116, 119, 111] }) true)))) ((pairX ((editE ({ rows := ((boardG (withinI m 2 7) (withinI n 2 7) raw)).rows, cols := ((boardG (withinI m 2 7) (withinI n 2 7) raw)).cols, cells := ((boardG (withinI m 2 7) (withinI n 2 7) raw)).cells, merges := [({ row := 0, col := 0, h := 2, w := 2 } : Rect)] } : Grid) p ({ data := #[111, 110, 101] }) true)) ((editE ({ rows := ((boardG (withinI m 2 7) (withinI n 2 7) raw)).rows, cols := ((boardG (withinI m 2 7) (withinI n 2 7) raw)).cols, cells := ((boardG (withinI m 2 7) (withinI n 2 7) raw)).cells, merges := [({ row := 0, col := 0, h := 2, w := 2 } : Rect)] } : Grid) q ({ data := #[116, 119, 111] }) true)))))).cells)) X0)), (26, X (Xk ((((true || false) || false) && ((gridE ((rawGr ((rawGr ({ rows := ((boardG (withinI m 2 7) (withinI n 2 7) raw)).rows, cols := ((boardG (withinI m 2 7) (withinI n 2 7) raw)).cols, cells := ((boardG (withinI m 2 7) (withinI n 2 7) raw)).cells, merges := [({ row := 0, col := 0, h := 2, w := 2 } : Rect)] } : Grid) ((editE ({ rows := ((boardG (withinI m 2 7) (withinI n 2 7) raw)).rows, cols := ((boardG (withinI m 2 7) (withinI n 2 7) raw)).cols, cells := ((boardG (withinI m 2 7) (withinI n 2 7) raw)).cells, merges := [({ row := 0, col := 0, h := 2, w := 2 } : Rect)] } : Grid) p ({ data := #[111, 110, 101] }) true)))) ((pairY ((editE ({ rows := ((boardG (withinI m 2 7) (withinI n 2 7) raw)).rows, cols := ((boardG (withinI m 2 7) (withinI n 2 7) raw)).cols, cells := ((boardG (withinI m 2 7) (withinI n 2 7) raw)).cells, merges := [({ row := 0, col := 0, h := 2, w := 2 } : Rect)] } : Grid) p ({ data := #[111, 110, 101] }) true)) ((editE ({ rows := ((boardG (withinI m 2 7) (withinI n 2 7) raw)).rows, cols := ((boardG (withinI m 2 7) (withinI n 2 7) raw)).cols, cells := ((boardG (withinI m 2 7) (withinI n 2 7) raw)).cells, merges := [({ row := 0, col := 0, h := 2, w := 2 } : Rect)] } : Grid) q ({ data := #[116, 119, 111] }) true))))))) == 0)) && ((gridE ((rawGr ((rawGr ({ rows := ((boardG (withinI m 2 7) (withinI n 2 7) raw)).rows, cols := ((boardG (withinI m 2 7) (withinI n 2 7) raw)).cols, cells := ((boardG (withinI m 2 7) (withinI n 2 7) raw)).cells, merges := [({ row := 0, col := 0, h := 2, w := 2 } : Rect)] } : Grid) ((editE ({ rows := ((boardG (withinI m 2 7) (withinI n 2 7) raw)).rows, cols := ((boardG (withinI m 2 7) (withinI n 2 7) raw)).cols, cells := ((boardG (withinI m 2 7) (withinI n 2 7) raw)).cells, merges := [({ row := 0, col := 0, h := 2, w := 2 } : Rect)] } : Grid) q ({ data := #[116, 119, 111] }) true)))) ((pairX ((editE ({ rows := ((boardG (withinI m 2 7) (withinI n 2 7) raw)).rows, cols := ((boardG (withinI m 2 7) (withinI n 2 7) raw)).cols, cells := ((boardG (withinI m 2 7) (withinI n 2 7) raw)).cells, merges := [({ row := 0, col := 0, h := 2, w := 2 } : Rect)] } : Grid) p ({ data := #[111, 110, 101] }) true)) ((editE ({ rows := ((boardG (withinI m 2 7) (withinI n 2 7) raw)).rows, cols := ((boardG (withinI m 2 7) (withinI n 2 7) raw)).cols, cells := ((boardG (withinI m 2 7) (withinI n 2 7) raw)).cells, merges := [({ row := 0, col := 0, h := 2, w := 2 } : Rect)] } : Grid) q ({ data := #[116, 119, 111] }) true))))))) == 0))))]] [] (fun z0 => (VB z0, [])) ((((((true || false) || false) && ((gridE ((rawGr ((rawGr ({ rows := ((boardG (withinI m 2 7) (withinI n 2 7) raw)).rows, cols := ((boardG (withinI m 2 7) (withinI n 2 7) raw)).cols, cells := ((boardG (withinI m 2 7) (withinI n 2 7) raw)).cells, merges := [({ row := 0, col := 0, h := 2, w := 2 } : Rect)] } : Grid) ((editE ({ rows := ((boardG (withinI m 2 7) (withinI n 2 7) raw)).rows, cols := ((boardG (withinI m 2 7) (withinI n 2 7) raw)).cols, cells := ((boardG (withinI m 2 7) (withinI n 2 7) raw)).cells, merges := [({ row := 0, col := 0, h := 2, w := 2 } : Rect)] } : Grid) p ({ data := #[111, 110, 101] }) true)))) ((pairY ((editE ({ rows := ((boardG (withinI m 2 7) (withinI n 2 7) raw)).rows, cols := ((boardG (withinI m 2 7) (withinI n 2 7) raw)).cols, cells := ((boardG (withinI m 2 7) (withinI n 2 7) raw)).cells, merges := [({ row := 0, col := 0, h := 2, w := 2 } : Rect)] } : Grid) p ({ data := #[111, 110, 101] }) true)) ((editE ({ rows := ((boardG (withinI m 2 7) (withinI n 2 7) raw)).rows, cols := ((boardG (withinI m 2 7) (withinI n 2 7) raw)).cols, cells := ((boardG (withinI m 2 7) (withinI n 2 7) raw)).cells, merges := [({ row := 0, col := 0, h := 2, w := 2 } : Rect)] } : Grid) q ({ data := #[116, 119, 111] }) true))))))) == 0)) && ((gridE ((rawGr ((rawGr ({ rows := ((boardG (withinI m 2 7) (withinI n 2 7) raw)).rows, cols := ((boardG (withinI m 2 7) (withinI n 2 7) raw)).cols, cells := ((boardG (withinI m 2 7) (withinI n 2 7) raw)).cells, merges := [({ row := 0, col := 0, h := 2, w := 2 } : Rect)] } : Grid) ((editE ({ rows := ((boardG (withinI m 2 7) (withinI n 2 7) raw)).rows, cols := ((boardG (withinI m 2 7) (withinI n 2 7) raw)).cols, cells := ((boardG (withinI m 2 7) (withinI n 2 7) raw)).cells, merges := [({ row := 0, col := 0, h := 2, w := 2 } : Rect)] } : Grid) q ({ data := #[116, 119, 111] }) true)))) ((pairX ((editE ({ rows := ((boardG (withinI m 2 7) (withinI n 2 7) raw)).rows, cols := ((boardG (withinI m 2 7) (withinI n 2 7) raw)).cols, cells := ((boardG (withinI m 2 7) (withinI n 2 7) raw)).cells, merges := [({ row := 0, col := 0, h := 2, w := 2 } : Rect)] } : Grid) p ({ data := #[111, 110, 101] }) true)) ((editE ({ rows := ((boardG (withinI m 2 7) (withinI n 2 7) raw)).rows, cols := ((boardG (withinI m 2 7) (withinI n 2 7) raw)).cols, cells := ((boardG (withinI m 2 7) (withinI n 2 7) raw)).cells, merges := [({ row := 0, col := 0, h := 2, w := 2 } : Rect)] } : Grid) q ({ data := #[116, 119, 111] }) true))))))) == 0)) && (sameCs (((rawGr ((rawGr ({ rows := ((boardG (withinI m 2 7) (withinI n 2 7) raw)).rows, cols := ((boardG (withinI m 2 7) (withinI n 2 7) raw)).cols, cells := ((boardG (withinI m 2 7) (withinI n 2 7) raw)).cells, merges := [({ row := 0, col := 0, h := 2, w := 2 } : Rect)] } : Grid) ((editE ({ rows := ((boardG (withinI m 2 7) (withinI n 2 7) raw)).rows, cols := ((boardG (withinI m 2 7) (withinI n 2 7) raw)).cols, cells := ((boardG (withinI m 2 7) (withinI n 2 7) raw)).cells, merges := [({ row := 0, col := 0, h := 2, w := 2 } : Rect)] } : Grid) p ({ data := #[111, 110, 101] }) true)))) ((pairY ((editE ({ rows := ((boardG (withinI m 2 7) (withinI n 2 7) raw)).rows, cols := ((boardG (withinI m 2 7) (withinI n 2 7) raw)).cols, cells := ((boardG (withinI m 2 7) (withinI n 2 7) raw)).cells, merges := [({ row := 0, col := 0, h := 2, w := 2 } : Rect)] } : Grid) p ({ data := #[111, 110, 101] }) true)) ((editE ({ rows := ((boardG (withinI m 2 7) (withinI n 2 7) raw)).rows, cols := ((boardG (withinI m 2 7) (withinI n 2 7) raw)).cols, cells := ((boardG (withinI m 2 7) (withinI n 2 7) raw)).cells, merges := [({ row := 0, col := 0, h := 2, w := 2 } : Rect)] } : Grid) q ({ data := #[116, 119, 111] }) true)))))).cells) (((rawGr ((rawGr ({ rows := ((boardG (withinI m 2 7) (withinI n 2 7) raw)).rows, cols := ((boardG (withinI m 2 7) (withinI n 2 7) raw)).cols, cells := ((boardG (withinI m 2 7) (withinI n 2 7) raw)).cells, merges := [({ row := 0, col := 0, h := 2, w := 2 } : Rect)] } : Grid) ((editE ({ rows := ((boardG (withinI m 2 7) (withinI n 2 7) raw)).rows, cols := ((boardG (withinI m 2 7) (withinI n 2 7) raw)).cols, cells := ((boardG (withinI m 2 7) (withinI n 2 7) raw)).cells, merges := [({ row := 0, col := 0, h := 2, w := 2 } : Rect)] } : Grid) q ({ data := #[116, 119, 111] }) true)))) ((pairX ((editE ({ rows := ((boardG (withinI m 2 7) (withinI n 2 7) raw)).rows, cols := ((boardG (withinI m 2 7) (withinI n 2 7) raw)).cols, cells := ((boardG (withinI m 2 7) (withinI n 2 7) raw)).cells, merges := [({ row := 0, col := 0, h := 2, w := 2 } : Rect)] } : Grid) p ({ data := #[111, 110, 101] }) true)) ((editE ({ rows := ((boardG (withinI m 2 7) (withinI n 2 7) raw)).rows, cols := ((boardG (withinI m 2 7) (withinI n 2 7) raw)).cols, cells := ((boardG (withinI m 2 7) (withinI n 2 7) raw)).cells, merges := [({ row := 0, col := 0, h := 2, w := 2 } : Rect)] } : Grid) q ({ data := #[116, 119, 111] }) true)))))).cells))) : Bool) (true : Bool) e1.symm
end Go.Ch
end
section
set_option linter.unusedVariables false
namespace Go.Ab
open Go Go.Proofs.YthpcjddcgdlilaaGreatDoor
variable {P : Program} {W : World}

def RdM (P : Program) (t : TypeId) (k : Nat) {α : Type} (f : α → Tree) (μ : α → Nat) : Prop :=
  (∀ a, Elt k (f a)) ∧ P.cellsOf t = k ∧ ∀ (H : Type) (enc : TypeId × Value → H) (W : World) (fuel : Nat) (cs : List Value) (x : DataW H × List MemPlace),
    DataW.trod enc P W 0 (fun _ => true) true fuel t cs = some x → ∃ a : α, CellsR W (f a).cells cs ∧ μ a ≤ Rows.uptoBulk x.1

theorem bulk_pos {H : Type} (d : DataW H) : 1 ≤ Rows.uptoBulk d := by
  cases d with
  | lit l => cases l <;> simp [Rows.uptoBulk]
  | _ => simp [Rows.uptoBulk]

theorem RdM.int {t : TypeId} {k : IntKind} (ht : P.underlying t = some (.int k)) (hc : P.cellsOf t = 1) : RdM P t 1 (fun z : Int => .sc (.int k z)) (fun _ => 1) := by
  refine ⟨fun _ => elt1, hc, fun H enc W fuel cs x h => ?_⟩
  obtain ⟨n, rfl, _, _⟩ := DataW.trod_int ht h
  exact ⟨n, cells1 rfl (.sc _ rfl), bulk_pos _⟩
/-- An integer with its bounds. -/
theorem RdM.i64 {t : TypeId} (ht : P.underlying t = some (.int .i64)) (hc : P.cellsOf t = 1) : RdM P t 1 (fun z : { z : Int // -9223372036854775808 ≤ z ∧ z ≤ 9223372036854775807 } => .sc (.int .i64 z.1)) (fun _ => 1) := by
  refine ⟨fun _ => elt1, hc, fun H enc W fuel cs x h => ?_⟩
  obtain ⟨n, rfl, _, hw⟩ := DataW.trod_int ht h
  exact ⟨⟨n, by simpa [Lit.wf, IntKind.min, IntKind.max, IntKind.signed, IntKind.bits] using hw⟩, cells1 rfl (.sc _ rfl), bulk_pos _⟩
theorem RdM.bool {t : TypeId} (ht : P.underlying t = some .bool) (hc : P.cellsOf t = 1) : RdM P t 1 (fun b : Bool => .sc (.bool b)) (fun _ => 1) := by
  refine ⟨fun _ => elt1, hc, fun H enc W fuel cs x h => ?_⟩
  obtain ⟨n, rfl, _⟩ := DataW.trod_bool ht h
  exact ⟨n, cells1 rfl (.sc _ rfl), bulk_pos _⟩
theorem sum_le {α H : Type} {μ : α → Nat} : ∀ {l : List α} {es : List (DataW H)}, l.length = es.length → (∀ (i : Nat) (a : α) (d : DataW H), l[i]? = some a → es[i]? = some d → μ a ≤ Rows.uptoBulk d) → (l.map μ).sum ≤ Rows.uptoBulkAll es
  | [], es, _, _ => by simp
  | a :: l, [], h, _ => by simp at h
  | a :: l, d :: es, h, hi => by
    have h0 := hi 0 a d rfl rfl
    have ih := sum_le (l := l) (es := es) (by simpa using h) (fun i a' d' h1 h2 => hi (i + 1) a' d' (by simpa using h1) (by simpa using h2))
    simp only [List.map_cons, List.sum_cons, Rows.uptoBulkAll]
    omega

theorem RdM.slice {t e : TypeId} {k : Nat} {α : Type} {f : α → Tree} {μ : α → Nat} (ht : P.underlying t = some (.slice e)) (hk : 0 < k) (hc : P.cellsOf t = 1) (he : RdM P e k f μ) : RdM P t 1 (fun l : List α => .lst k (l.map f)) (fun l => (l.map μ).sum + 1) := by
  obtain ⟨h1, h2, h3⟩ := he
  refine ⟨fun l => ⟨rfl, fun T hT => by simp [Tree.cells] at hT; subst hT; rfl⟩, hc, fun H enc W fuel cs x h => ?_⟩
  have hx : ∀ l : List α, ∀ x ∈ l.map f, Elt k x := fun l x hx => by
    obtain ⟨a, _, rfl⟩ := List.mem_map.1 hx
    exact h1 a
  rcases DataW.trod_slice ht h with ⟨rfl, hx0⟩ | ⟨a, len, cap, elems, rest, n, _, rfl, hxe, hb, hl, hm, hlen, hel, _, _⟩
  · refine ⟨[], cells1 rfl (.lst k [] none 0 [] hk (fun x hx => by simp at hx) (Nat.le_refl _) (by simp [maxLen]) (fun h => absurd rfl h) (by simp) (fun j T u hT => by simp [flat] at hT)), ?_⟩
    exact bulk_pos _
  · have key : ∀ i, i < len → ∃ y : α, (∃ cs', cs'.length = k ∧ (∀ r, r < k → W.cell? (a.add (i * k + r)) = cs'[r]?) ∧ CellsR W (f y).cells cs') ∧ ∀ d, (elems.map (·.1))[i]? = some d → μ y ≤ Rows.uptoBulk d := by
      intro i hi
      have h4 := hel i hi
      have h5 : elems[i]? = some elems[i] := by rw [List.getElem?_eq_getElem (by omega)]
      rw [h5, h2] at h4
      obtain ⟨cs', h6, h7⟩ := Option.bind_eq_some_iff.1 h4
      obtain ⟨q1, q2, q3⟩ := World.cells?_some h6
      obtain ⟨y, hy, hμ⟩ := h3 H enc W n cs' _ h7
      refine ⟨y, ⟨cs', q2, fun r hr => ?_, hy⟩, fun d hd => ?_⟩
      · rw [← q3 r hr]
        rw [Addr.add_add]
      · rw [List.getElem?_map, h5] at hd
        simp only [Option.map_some, Option.some.injEq] at hd
        subst hd; exact hμ
    obtain ⟨l, hl1, hl2'⟩ := list_of len _ key
    have hl2 := fun i a h => (hl2' i a h).1
    have hspot : l ≠ [] → ∃ u, W.cell? a = some u := by
      intro hne
      have h0 : 0 < len := by rw [← hl1]; exact List.length_pos_iff.2 hne
      obtain ⟨cs', c1, c2, c3⟩ := hl2 0 l[0] (by rw [List.getElem?_eq_getElem (by omega)])
      have := c2 0 hk
      simp only [Nat.zero_mul, Nat.add_zero] at this
      rw [List.getElem?_eq_getElem (by omega)] at this
      have e : a.add 0 = a := by simp [Addr.add]
      rw [e] at this
      exact ⟨_, this⟩
    refine ⟨l, cells1 rfl ?_, ?_⟩
    rotate_left
    · rw [hxe]
      simp only [Rows.uptoBulk]
      have := sum_le (μ := μ) (l := l) (es := elems.map (·.1)) (by simp [hl1, hlen]) (fun i y d h1 h2 => (hl2' i y h1).2 d h2)
      omega
    have hget : ∀ j, j < len * k → ∃ u, W.cell? (a.add j) = some u ∧ ∀ T, (flat (l.map f))[j]? = some T → TRep W (fun b => b < W.heap.size) T u := by
      intro j hj
      have hi : j / k < len := Nat.div_lt_of_lt_mul (by rw [Nat.mul_comm]; exact hj)
      have hr : j % k < k := Nat.mod_lt _ hk
      have hji : j = j / k * k + j % k := by rw [Nat.mul_comm]; exact (Nat.div_add_mod j k).symm
      obtain ⟨cs', c1, c2, c3⟩ := hl2 (j / k) l[j / k] (by rw [List.getElem?_eq_getElem (by omega)])
      have c4 := c2 (j % k) hr
      rw [← hji, List.getElem?_eq_getElem (by omega)] at c4
      refine ⟨_, c4, fun T hT => ?_⟩
      rw [hji, flat_get (hx l) (i := j / k) (X := f l[j / k]) (by simp [List.getElem?_eq_getElem (show j / k < l.length by omega)]) hr] at hT
      exact c3.2 (j % k) T _ hT (by rw [List.getElem?_eq_getElem (by omega)])
    obtain ⟨us, hu1, hu2⟩ := list_of (len * k) _ hget
    have hlm : (l.map f).length = len := by simp [hl1]
    have := TRep.lst (w := W) (ok := fun b => b < W.heap.size) k (l.map f) (some a) cap us hk (hx l) (by omega) hm (fun hne => ?_) (by rw [hlm]; exact hu1) (fun j T u hT hu => (hu2 j u hu).2 T hT)
    · rw [hlm] at this; exact this
    · obtain ⟨u, hu⟩ := hspot (fun e => hne (by rw [e]; rfl))
      have hs := World.cell?_spot hu
      obtain ⟨b, o, sp⟩ := a
      simp only at hs
      subst hs
      refine ⟨b, o, rfl, ?_, fun j u hj => ?_⟩
      · simp only [World.cell?] at hu
        by_cases hb : b < W.heap.size
        · exact hb
        · rw [Array.getElem?_eq_none (by omega)] at hu; simp at hu
      · have := (hu2 j u hj).1
        rw [add_lit'] at this
        exact this

theorem RdM.map {t : TypeId} {k : Nat} {α β : Type} {f : α → Tree} {μ : α → Nat} {f' : β → Tree} {μ' : β → Nat} (h : RdM P t k f μ) (g : α → β) (hf : ∀ a, f' (g a) = f a) (hm : ∀ a, μ' (g a) ≤ μ a) (he : ∀ b, Elt k (f' b)) : RdM P t k f' μ' := by
  obtain ⟨h1, h2, h3⟩ := h
  refine ⟨he, h2, fun H enc W fuel cs x hx => ?_⟩
  obtain ⟨a, ha, hb⟩ := h3 H enc W fuel cs x hx
  exact ⟨g a, by rw [hf]; exact ha, Nat.le_trans (hm a) hb⟩

/-- The fields of a struct, from a cell on. -/
def RdFM (P : Program) (off : Nat) (fs : List Field) (k : Nat) {β : Type} (g : β → List Tree) (μ : β → Nat) : Prop :=
  (∀ b, (g b).length = k ∧ ∀ T ∈ g b, T.isCell = true) ∧ ∀ (H : Type) (enc : TypeId × Value → H) (W : World) (n : Nat) (cs : List Value) (ys : List (DataW H × List MemPlace)),
    ys.length = fs.length → (∀ (i : Nat) (f : Field), fs[i]? = some f → DataW.trod enc P W 0 (fun _ => true) true n f.type ((cs.drop f.offset).take (P.cellsOf f.type)) = ys[i]?) →
    ∃ b : β, (∀ (j : Nat) (T : Tree) (u : Value), (g b)[j]? = some T → cs[off + j]? = some u → TRep W (fun b => b < W.heap.size) T u) ∧ μ b ≤ Rows.uptoBulkAll (ys.map (·.1))
theorem RdFM.nil {off : Nat} : RdFM P off [] 0 (fun _ : Unit => []) (fun _ => 0) :=
  ⟨fun _ => ⟨rfl, fun T hT => by simp at hT⟩, fun H enc W n cs ys h1 h2 => ⟨(), fun j T u hT => by simp at hT, Nat.zero_le _⟩⟩
theorem RdFM.cons {off : Nat} {f : Field} {fs : List Field} {k1 k2 : Nat} {α β : Type} {f1 : α → Tree} {μ1 : α → Nat} {g2 : β → List Tree} {μ2 : β → Nat} (ho : f.offset = off) (h : RdM P f.type k1 f1 μ1) (hs : RdFM P (off + k1) fs k2 g2 μ2) : RdFM P off (f :: fs) (k1 + k2) (fun p : α × β => (f1 p.1).cells ++ g2 p.2) (fun p => μ1 p.1 + μ2 p.2) := by
  obtain ⟨h1, h2, h3⟩ := h
  obtain ⟨s1, s2⟩ := hs
  refine ⟨fun p => ⟨by rw [List.length_append, (h1 p.1).1, (s1 p.2).1], fun T hT => ?_⟩, fun H enc W n cs ys hl hy => ?_⟩
  · rcases List.mem_append.1 hT with hT | hT
    · exact (h1 p.1).2 T hT
    · exact (s1 p.2).2 T hT
  · cases ys with
    | nil => simp at hl
    | cons y ys =>
      have e0 := hy 0 f rfl
      simp only [List.getElem?_cons_zero, ho, h2] at e0
      obtain ⟨a, ⟨ha1, ha2⟩, ha3⟩ := h3 H enc W n _ _ e0
      obtain ⟨b, hb, hb3⟩ := s2 H enc W n cs ys (by simpa using hl) (fun i f' hf => by simpa using hy (i + 1) f' (by simpa using hf))
      refine ⟨(a, b), fun j T u hT hu => ?_, by simp only [List.map_cons, Rows.uptoBulkAll]; omega⟩
      by_cases hj : j < (f1 a).cells.length
      · rw [List.getElem?_append_left hj] at hT
        have hk : j < k1 := by rw [(h1 a).1] at hj; exact hj
        refine ha2 j T u hT ?_
        rw [List.getElem?_take, if_pos hk, List.getElem?_drop]
        exact hu
      · rw [List.getElem?_append_right (by show (f1 a).cells.length ≤ j; omega)] at hT
        rw [(h1 a).1] at hj hT
        refine hb (j - k1) T u hT ?_
        rw [← hu]; congr 1; omega
theorem RdM.struct {t : TypeId} {fs : Array Field} {k : Nat} {β : Type} {g : β → List Tree} {μ : β → Nat} (ht : P.underlying t = some (.struct fs)) (hc : P.cellsOf t = k) (h : RdFM P 0 fs.toList k g μ) : RdM P t k (fun b => .agg (g b)) (fun b => μ b + 1) := by
  obtain ⟨s1, s2⟩ := h
  refine ⟨fun b => s1 b, hc, fun H enc W fuel cs x hx => ?_⟩
  obtain ⟨xs, n, _, hxe, hl, hlen, hf⟩ := DataW.trod_struct ht hx
  obtain ⟨b, hb, hμ⟩ := s2 H enc W n cs xs (by simpa using hlen) (fun i f hi => hf i f (by simpa using hi))
  refine ⟨b, ⟨by rw [hl, hc]; exact (s1 b).1.symm, fun j T u hT hu => hb j T u hT (by simpa using hu)⟩, ?_⟩
  rw [hxe]; simp only [Rows.uptoBulk]; omega

/-- A one-cell argument. -/
theorem RdM.arg {t : TypeId} {α : Type} {f : α → Tree} {μ : α → Nat} (h : RdM P t 1 f μ) (h1 : ∀ a, (f a).isCell = true) {H : Type} {enc : TypeId × Value → H} {v : Value} {d : DataW H} {ps : List MemPlace} (hd : DataW.Trod enc P W 0 (fun _ => true) true t v d ps) (hv : v.cells.toList = [v]) :
    ∃ a, TRep W (fun b => b < W.heap.size) (f a) v ∧ μ a ≤ Rows.uptoBulk d := by
  obtain ⟨fuel, hf⟩ := hd
  obtain ⟨a, ⟨c1, c2⟩, c3⟩ := h.2.2 H enc W fuel _ _ hf
  refine ⟨a, c2 0 _ _ ?_ (by rw [hv]; rfl), c3⟩
  cases hfa : f a with
  | agg cs => have := h1 a; rw [hfa] at this; cases this
  | sc v => rfl
  | lst k xs => rfl
theorem bulk_bound {H : Type} {l : List (DataW H)} (hk : Rows.uptoSmall H l = true) : Rows.uptoBulkAll l ≤ 1048576 := of_decide_eq_true hk
end Go.Ab
end
