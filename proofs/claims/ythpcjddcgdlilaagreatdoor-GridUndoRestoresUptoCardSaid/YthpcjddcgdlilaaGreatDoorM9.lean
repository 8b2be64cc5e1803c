/- Parts of the proof: ChGrid20, AbBulk. -/
import Derived.Test.YthpcjddcgdlilaaGreatDoorM1
import Derived.Test.YthpcjddcgdlilaaGreatDoorM2
import Derived.Test.YthpcjddcgdlilaaGreatDoorM3
import Derived.Test.YthpcjddcgdlilaaGreatDoorM4
import Derived.Test.YthpcjddcgdlilaaGreatDoorM5
import Derived.Test.YthpcjddcgdlilaaGreatDoorM6
import Derived.Test.YthpcjddcgdlilaaGreatDoorM7
import Derived.Test.YthpcjddcgdlilaaGreatDoorM8
import Derived.Test.YthpcjddcgdlilaaGreatDoorRows
section
set_option linter.unusedVariables false
set_option linter.unusedSimpArgs false
set_option maxRecDepth 100000
set_option maxHeartbeats 4000000
open Go Go.Proofs Go.Ab
namespace Go.Ch
theorem fc_law28 (x : Grid) (e : GEd) (raw : List Int) (lx : LimG 1048576 x) (le : LimE 1048576 e) (zx : SzC x.cells) (ze : SzC e.cells) : FC Tryz.prog 3 [.t (gridT x), .t (gedT e), VL 1 intT raw] (app emp []) (VB true) (app emp []) := by
 refine .go Tryz.f3 ?_
 refine .len 2 (fun hl2 => ?_)
 have lm := lx.m
 have l3 : e.cells.length ≤ 100000000000 ∧ e.split.length ≤ 100000000000 ∧ e.merge.length ≤ 100000000000 := ⟨by have := le.c; omega, by have := le.s; omega, by have := le.m; omega⟩
 have lX := lx.mono (show 1048576 ≤ 100000000 by decide)
 have lE := le.mono (show 1048576 ≤ 100000000 by decide)
 refine .br [.r [], .r [(0, X (Xc0 fc_grids X0))], .f, .r [(1, X (Xc0 (fc_gridError x (by omega) (by assumption)) X0)), (5, Xg (!((gridE x) != 0)) (Xf [(0, 2), (1, 2), (2, 5), (3, 4), (4, 4)])), (6, Xv 2 (!((gridE x) != 0)) (Xc0 (fc_small x ({ rows := [], cols := [], cells := [], split := [], merge := [] } : GEd) valid_nil valid_nil) X0)), (7, Xv 1 (!((gridE x) != 0)) X0), (8, X (Xk' ((gridE x) != 0)))]] (((gridE x) != 0) || !(smallB x ({ rows := [], cols := [], cells := [], split := [], merge := [] } : GEd))) (fun h3 => ?_) (fun h3 => ?_)
 ·
  (try simp only [Bool.not_eq_true', Bool.not_eq_false', Bool.or_eq_true, Bool.or_eq_false_iff, bne_iff_ne, bne_eq_false_iff_eq, ne_eq] at h3)
  exact .fin [.r []] []
 ·
  (try simp only [Bool.not_eq_true', Bool.not_eq_false', Bool.or_eq_true, Bool.or_eq_false_iff, bne_iff_ne, bne_eq_false_iff_eq, ne_eq] at h3)
  have hgx := h3.1
  have sm := (small_iff.1 h3.2).1.1
  have gb := (gridE_iff.1 hgx).1
  refine .br [.r [(1, X (Xc0 (fc_editError e (by assumption) (by assumption)) X0)), (6, Xv 2 (!((edE e) != 0)) (Xc0g (e := (!((edE e) != 0))) (fun hg => by (try simp only [Bool.not_eq_true', Bool.not_eq_false', bne_iff_ne, bne_eq_false_iff_eq, ne_eq] at hg); exact (fc_fitError x e (by assumption) (edE_ok (by first | exact hg | omega)).okr (edE_ok (by first | exact hg | omega)).okc (by omega))) X0) (fun hg => ⟨hg, by and_intros <;> exact True.intro⟩)), (7, Xv 1 (!((edE e) != 0)) X0), (8, X (Xk' ((edE e) != 0))), (12, Xv 2 (!(((edE e) != 0) || ((fitE x e) != 0))) (Xc0g (e := (!(((edE e) != 0) || ((fitE x e) != 0)))) (fun hg => by (try simp only [Bool.not_eq_true', Bool.not_eq_false', Bool.or_eq_true, Bool.or_eq_false_iff, bne_iff_ne, bne_eq_false_iff_eq, ne_eq] at hg); exact (fc_small x e (edE_ok (by first | exact hg.1 | omega)).okr (edE_ok (by first | exact hg.1 | omega)).okc)) X0) (fun hg => ⟨hg, by and_intros <;> exact True.intro⟩)), (13, Xv 1 (!(((edE e) != 0) || ((fitE x e) != 0))) X0), (14, X (Xk' (((edE e) != 0) || ((fitE x e) != 0))))]] ((((edE e) != 0) || ((fitE x e) != 0)) || !(smallB x e)) (fun h5 => ?_) (fun h5 => ?_)
  ·
   (try simp only [Bool.not_eq_true', Bool.not_eq_false', Bool.or_eq_true, Bool.or_eq_false_iff, bne_iff_ne, bne_eq_false_iff_eq, ne_eq] at h5)
   first | (have q5 : (edE e = 0 ∧ fitE x e = 0) ∧ smallB x e = true := h5; obtain ⟨U1, U2, U3, U4, U5, U6, U7⟩ := und_given hgx q5.1.1 q5.1.2 lX lE zx ze) | obtain ⟨U1, U2, U3, U4, U5, U6, U7⟩ := und_drawn raw hgx h3.2 lX zx
   have e1 : (((((true || false) || false) && (sameG ((rawGr ((rawGr x ((editE x raw ({ data := #[110] }) true)))) ((undoE x ((editE x raw ({ data := #[110] }) true)))))) x)) && ((gridE ((rawGr x ((editE x raw ({ data := #[110] }) true))))) == 0)) : Bool) = true := by
    rw [U6, U7, sameG_self]; rfl
   exact .finE [.r [(2, X (Xc1 248 (fc_editing x raw ({ data := #[110] }) true (by omega) (by omega)) X0))], .r [(2, X (Xc1 280 (fc_gapply x ((editE x raw ({ data := #[110] }) true)) (by assumption)) X0))], .r [(2, X (Xc1 352 (fc_gundo x ((editE x raw ({ data := #[110] }) true)) (by assumption)) X0))], .r [(2, X (Xc1 424 (fc_gapply ((rawGr x ((editE x raw ({ data := #[110] }) true)))) ((undoE x ((editE x raw ({ data := #[110] }) true)))) (by assumption)) X0))], .r [(4, Xv 1 true X0), (5, X (Xk true)), (8, Xv 1 (true || false) X0), (9, X (Xk (true || false))), (13, Xv 2 ((true || false) || false) (Xc0 (fc_sameGrid ((rawGr ((rawGr x ((editE x raw ({ data := #[110] }) true)))) ((undoE x ((editE x raw ({ data := #[110] }) true)))))) x) X0)), (14, X (Xk ((true || false) || false))), (17, Xv 1 (((true || false) || false) && (sameG ((rawGr ((rawGr x ((editE x raw ({ data := #[110] }) true)))) ((undoE x ((editE x raw ({ data := #[110] }) true)))))) x)) (Xc0 (fc_gridError ((rawGr x ((editE x raw ({ data := #[110] }) true)))) (by omega) (by assumption)) X0)), (18, Xv 1 (((true || false) || false) && (sameG ((rawGr ((rawGr x ((editE x raw ({ data := #[110] }) true)))) ((undoE x ((editE x raw ({ data := #[110] }) true)))))) x)) X0), (19, X (Xk (((true || false) || false) && (sameG ((rawGr ((rawGr x ((editE x raw ({ data := #[110] }) true)))) ((undoE x ((editE x raw ({ data := #[110] }) true)))))) x))))]] [] (fun z0 => (VB z0, [])) (((((true || false) || false) && (sameG ((rawGr ((rawGr x ((editE x raw ({ data := #[110] }) true)))) ((undoE x ((editE x raw ({ data := #[110] }) true)))))) x)) && ((gridE ((rawGr x ((editE x raw ({ data := #[110] }) true))))) == 0)) : Bool) (true : Bool) e1.symm
  ·
   (try simp only [Bool.not_eq_true', Bool.not_eq_false', Bool.or_eq_true, Bool.or_eq_false_iff, bne_iff_ne, bne_eq_false_iff_eq, ne_eq] at h5)
   first | (have q5 : (edE e = 0 ∧ fitE x e = 0) ∧ smallB x e = true := h5; obtain ⟨U1, U2, U3, U4, U5, U6, U7⟩ := und_given hgx q5.1.1 q5.1.2 lX lE zx ze) | obtain ⟨U1, U2, U3, U4, U5, U6, U7⟩ := und_drawn raw hgx h3.2 lX zx
   have e2 : (((((true || false) || false) && (sameG ((rawGr ((rawGr x e)) ((undoE x e)))) x)) && ((gridE ((rawGr x e))) == 0)) : Bool) = true := by
    rw [U6, U7, sameG_self]; rfl
   exact .finE [.r [(2, X (Xc1 248 (fc_gapply x e (by assumption)) X0))], .r [(2, X (Xc1 320 (fc_gundo x e (by assumption)) X0))], .r [(2, X (Xc1 392 (fc_gapply ((rawGr x e)) ((undoE x e)) (by assumption)) X0))], .r [(4, Xv 1 true X0), (5, X (Xk true)), (8, Xv 1 (true || false) X0), (9, X (Xk (true || false))), (13, Xv 2 ((true || false) || false) (Xc0 (fc_sameGrid ((rawGr ((rawGr x e)) ((undoE x e)))) x) X0)), (14, X (Xk ((true || false) || false))), (17, Xv 1 (((true || false) || false) && (sameG ((rawGr ((rawGr x e)) ((undoE x e)))) x)) (Xc0 (fc_gridError ((rawGr x e)) (by omega) (by assumption)) X0)), (18, Xv 1 (((true || false) || false) && (sameG ((rawGr ((rawGr x e)) ((undoE x e)))) x)) X0), (19, X (Xk (((true || false) || false) && (sameG ((rawGr ((rawGr x e)) ((undoE x e)))) x))))]] [] (fun z0 => (VB z0, [])) (((((true || false) || false) && (sameG ((rawGr ((rawGr x e)) ((undoE x e)))) x)) && ((gridE ((rawGr x e))) == 0)) : Bool) (true : Bool) e2.symm
end Go.Ch
end
section
set_option linter.unusedVariables false
namespace Go.Ab
open Go Go.Proofs.YthpcjddcgdlilaaGreatDoor
variable {P : Program} {W : World}

def RdM (P : Program) (t : TypeId) (k : Nat) {α : Type} (f : α → Tree) (μ : α → Nat) : Prop :=
  (∀ a, Elt k (f a)) ∧ P.cellsOf t = k ∧ ∀ (H : Type) (enc : TypeId × Value → H) (W : World) (fuel : Nat) (cs : List Value) (x : DataW H × List MemPlace),
    DataW.trod enc P W 0 (fun _ => true) true fuel t cs = some x → ∃ a : α, CellsR W (f a).cells cs ∧ μ a ≤ Rows.uptoBulk x.1

theorem bulk_pos {H : Type} (d : DataW H) : 1 ≤ Rows.uptoBulk d := by
  cases d with
  | lit l => cases l <;> simp [Rows.uptoBulk]
  | _ => simp [Rows.uptoBulk]

theorem RdM.int {t : TypeId} {k : IntKind} (ht : P.underlying t = some (.int k)) (hc : P.cellsOf t = 1) : RdM P t 1 (fun z : Int => .sc (.int k z)) (fun _ => 1) := by
  refine ⟨fun _ => elt1, hc, fun H enc W fuel cs x h => ?_⟩
  obtain ⟨n, rfl, _, _⟩ := DataW.trod_int ht h
  exact ⟨n, cells1 rfl (.sc _ rfl), bulk_pos _⟩
/-- An integer with its bounds. -/
theorem RdM.i64 {t : TypeId} (ht : P.underlying t = some (.int .i64)) (hc : P.cellsOf t = 1) : RdM P t 1 (fun z : { z : Int // -9223372036854775808 ≤ z ∧ z ≤ 9223372036854775807 } => .sc (.int .i64 z.1)) (fun _ => 1) := by
  refine ⟨fun _ => elt1, hc, fun H enc W fuel cs x h => ?_⟩
  obtain ⟨n, rfl, _, hw⟩ := DataW.trod_int ht h
  exact ⟨⟨n, by simpa [Lit.wf, IntKind.min, IntKind.max, IntKind.signed, IntKind.bits] using hw⟩, cells1 rfl (.sc _ rfl), bulk_pos _⟩
theorem RdM.bool {t : TypeId} (ht : P.underlying t = some .bool) (hc : P.cellsOf t = 1) : RdM P t 1 (fun b : Bool => .sc (.bool b)) (fun _ => 1) := by
  refine ⟨fun _ => elt1, hc, fun H enc W fuel cs x h => ?_⟩
  obtain ⟨n, rfl, _⟩ := DataW.trod_bool ht h
  exact ⟨n, cells1 rfl (.sc _ rfl), bulk_pos _⟩
theorem RdM.str {t : TypeId} (ht : P.underlying t = some .string) (hc : P.cellsOf t = 1) : RdM P t 1 (fun s : ByteArray => .sc (.string s)) (fun s => s.size + 1) := by
  refine ⟨fun _ => elt1, hc, fun H enc W fuel cs x h => ?_⟩
  obtain ⟨n, rfl, rfl, _⟩ := DataW.trod_string ht h
  exact ⟨n, cells1 rfl (.sc _ rfl), by simp [Rows.uptoBulk]⟩

theorem sum_le {α H : Type} {μ : α → Nat} : ∀ {l : List α} {es : List (DataW H)}, l.length = es.length → (∀ (i : Nat) (a : α) (d : DataW H), l[i]? = some a → es[i]? = some d → μ a ≤ Rows.uptoBulk d) → (l.map μ).sum ≤ Rows.uptoBulkAll es
  | [], es, _, _ => by simp
  | a :: l, [], h, _ => by simp at h
  | a :: l, d :: es, h, hi => by
    have h0 := hi 0 a d rfl rfl
    have ih := sum_le (l := l) (es := es) (by simpa using h) (fun i a' d' h1 h2 => hi (i + 1) a' d' (by simpa using h1) (by simpa using h2))
    simp only [List.map_cons, List.sum_cons, Rows.uptoBulkAll]
    omega

theorem RdM.slice {t e : TypeId} {k : Nat} {α : Type} {f : α → Tree} {μ : α → Nat} (ht : P.underlying t = some (.slice e)) (hk : 0 < k) (hc : P.cellsOf t = 1) (he : RdM P e k f μ) : RdM P t 1 (fun l : List α => .lst k (l.map f)) (fun l => (l.map μ).sum + 1) := by
  obtain ⟨h1, h2, h3⟩ := he
  refine ⟨fun l => ⟨rfl, fun T hT => by simp [Tree.cells] at hT; subst hT; rfl⟩, hc, fun H enc W fuel cs x h => ?_⟩
  have hx : ∀ l : List α, ∀ x ∈ l.map f, Elt k x := fun l x hx => by
    obtain ⟨a, _, rfl⟩ := List.mem_map.1 hx
    exact h1 a
  rcases DataW.trod_slice ht h with ⟨rfl, hx0⟩ | ⟨a, len, cap, elems, rest, n, _, rfl, hxe, hb, hl, hm, hlen, hel, _, _⟩
  · refine ⟨[], cells1 rfl (.lst k [] none 0 [] hk (fun x hx => by simp at hx) (Nat.le_refl _) (by simp [maxLen]) (fun h => absurd rfl h) (by simp) (fun j T u hT => by simp [flat] at hT)), ?_⟩
    exact bulk_pos _
  · have key : ∀ i, i < len → ∃ y : α, (∃ cs', cs'.length = k ∧ (∀ r, r < k → W.cell? (a.add (i * k + r)) = cs'[r]?) ∧ CellsR W (f y).cells cs') ∧ ∀ d, (elems.map (·.1))[i]? = some d → μ y ≤ Rows.uptoBulk d := by
      intro i hi
      have h4 := hel i hi
      have h5 : elems[i]? = some elems[i] := by rw [List.getElem?_eq_getElem (by omega)]
      rw [h5, h2] at h4
      obtain ⟨cs', h6, h7⟩ := Option.bind_eq_some_iff.1 h4
      obtain ⟨q1, q2, q3⟩ := World.cells?_some h6
      obtain ⟨y, hy, hμ⟩ := h3 H enc W n cs' _ h7
      refine ⟨y, ⟨cs', q2, fun r hr => ?_, hy⟩, fun d hd => ?_⟩
      · rw [← q3 r hr]
        rw [Addr.add_add]
      · rw [List.getElem?_map, h5] at hd
        simp only [Option.map_some, Option.some.injEq] at hd
        subst hd; exact hμ
    obtain ⟨l, hl1, hl2'⟩ := list_of len _ key
    have hl2 := fun i a h => (hl2' i a h).1
    have hspot : l ≠ [] → ∃ u, W.cell? a = some u := by
      intro hne
      have h0 : 0 < len := by rw [← hl1]; exact List.length_pos_iff.2 hne
      obtain ⟨cs', c1, c2, c3⟩ := hl2 0 l[0] (by rw [List.getElem?_eq_getElem (by omega)])
      have := c2 0 hk
      simp only [Nat.zero_mul, Nat.add_zero] at this
      rw [List.getElem?_eq_getElem (by omega)] at this
      have e : a.add 0 = a := by simp [Addr.add]
      rw [e] at this
      exact ⟨_, this⟩
    refine ⟨l, cells1 rfl ?_, ?_⟩
    rotate_left
    · rw [hxe]
      simp only [Rows.uptoBulk]
      have := sum_le (μ := μ) (l := l) (es := elems.map (·.1)) (by simp [hl1, hlen]) (fun i y d h1 h2 => (hl2' i y h1).2 d h2)
      omega
    have hget : ∀ j, j < len * k → ∃ u, W.cell? (a.add j) = some u ∧ ∀ T, (flat (l.map f))[j]? = some T → TRep W (fun b => b < W.heap.size) T u := by
      intro j hj
      have hi : j / k < len := Nat.div_lt_of_lt_mul (by rw [Nat.mul_comm]; exact hj)
      have hr : j % k < k := Nat.mod_lt _ hk
      have hji : j = j / k * k + j % k := by rw [Nat.mul_comm]; exact (Nat.div_add_mod j k).symm
      obtain ⟨cs', c1, c2, c3⟩ := hl2 (j / k) l[j / k] (by rw [List.getElem?_eq_getElem (by omega)])
      have c4 := c2 (j % k) hr
      rw [← hji, List.getElem?_eq_getElem (by omega)] at c4
      refine ⟨_, c4, fun T hT => ?_⟩
      rw [hji, flat_get (hx l) (i := j / k) (X := f l[j / k]) (by simp [List.getElem?_eq_getElem (show j / k < l.length by omega)]) hr] at hT
      exact c3.2 (j % k) T _ hT (by rw [List.getElem?_eq_getElem (by omega)])
    obtain ⟨us, hu1, hu2⟩ := list_of (len * k) _ hget
    have hlm : (l.map f).length = len := by simp [hl1]
    have := TRep.lst (w := W) (ok := fun b => b < W.heap.size) k (l.map f) (some a) cap us hk (hx l) (by omega) hm (fun hne => ?_) (by rw [hlm]; exact hu1) (fun j T u hT hu => (hu2 j u hu).2 T hT)
    · rw [hlm] at this; exact this
    · obtain ⟨u, hu⟩ := hspot (fun e => hne (by rw [e]; rfl))
      have hs := World.cell?_spot hu
      obtain ⟨b, o, sp⟩ := a
      simp only at hs
      subst hs
      refine ⟨b, o, rfl, ?_, fun j u hj => ?_⟩
      · simp only [World.cell?] at hu
        by_cases hb : b < W.heap.size
        · exact hb
        · rw [Array.getElem?_eq_none (by omega)] at hu; simp at hu
      · have := (hu2 j u hj).1
        rw [add_lit'] at this
        exact this

theorem RdM.map {t : TypeId} {k : Nat} {α β : Type} {f : α → Tree} {μ : α → Nat} {f' : β → Tree} {μ' : β → Nat} (h : RdM P t k f μ) (g : α → β) (hf : ∀ a, f' (g a) = f a) (hm : ∀ a, μ' (g a) ≤ μ a) (he : ∀ b, Elt k (f' b)) : RdM P t k f' μ' := by
  obtain ⟨h1, h2, h3⟩ := h
  refine ⟨he, h2, fun H enc W fuel cs x hx => ?_⟩
  obtain ⟨a, ha, hb⟩ := h3 H enc W fuel cs x hx
  exact ⟨g a, by rw [hf]; exact ha, Nat.le_trans (hm a) hb⟩

/-- The fields of a struct, from a cell on. -/
def RdFM (P : Program) (off : Nat) (fs : List Field) (k : Nat) {β : Type} (g : β → List Tree) (μ : β → Nat) : Prop :=
  (∀ b, (g b).length = k ∧ ∀ T ∈ g b, T.isCell = true) ∧ ∀ (H : Type) (enc : TypeId × Value → H) (W : World) (n : Nat) (cs : List Value) (ys : List (DataW H × List MemPlace)),
    ys.length = fs.length → (∀ (i : Nat) (f : Field), fs[i]? = some f → DataW.trod enc P W 0 (fun _ => true) true n f.type ((cs.drop f.offset).take (P.cellsOf f.type)) = ys[i]?) →
    ∃ b : β, (∀ (j : Nat) (T : Tree) (u : Value), (g b)[j]? = some T → cs[off + j]? = some u → TRep W (fun b => b < W.heap.size) T u) ∧ μ b ≤ Rows.uptoBulkAll (ys.map (·.1))
theorem RdFM.nil {off : Nat} : RdFM P off [] 0 (fun _ : Unit => []) (fun _ => 0) :=
  ⟨fun _ => ⟨rfl, fun T hT => by simp at hT⟩, fun H enc W n cs ys h1 h2 => ⟨(), fun j T u hT => by simp at hT, Nat.zero_le _⟩⟩
theorem RdFM.cons {off : Nat} {f : Field} {fs : List Field} {k1 k2 : Nat} {α β : Type} {f1 : α → Tree} {μ1 : α → Nat} {g2 : β → List Tree} {μ2 : β → Nat} (ho : f.offset = off) (h : RdM P f.type k1 f1 μ1) (hs : RdFM P (off + k1) fs k2 g2 μ2) : RdFM P off (f :: fs) (k1 + k2) (fun p : α × β => (f1 p.1).cells ++ g2 p.2) (fun p => μ1 p.1 + μ2 p.2) := by
  obtain ⟨h1, h2, h3⟩ := h
  obtain ⟨s1, s2⟩ := hs
  refine ⟨fun p => ⟨by rw [List.length_append, (h1 p.1).1, (s1 p.2).1], fun T hT => ?_⟩, fun H enc W n cs ys hl hy => ?_⟩
  · rcases List.mem_append.1 hT with hT | hT
    · exact (h1 p.1).2 T hT
    · exact (s1 p.2).2 T hT
  · cases ys with
    | nil => simp at hl
    | cons y ys =>
      have e0 := hy 0 f rfl
      simp only [List.getElem?_cons_zero, ho, h2] at e0
      obtain ⟨a, ⟨ha1, ha2⟩, ha3⟩ := h3 H enc W n _ _ e0
      obtain ⟨b, hb, hb3⟩ := s2 H enc W n cs ys (by simpa using hl) (fun i f' hf => by simpa using hy (i + 1) f' (by simpa using hf))
      refine ⟨(a, b), fun j T u hT hu => ?_, by simp only [List.map_cons, Rows.uptoBulkAll]; omega⟩
      by_cases hj : j < (f1 a).cells.length
      · rw [List.getElem?_append_left hj] at hT
        have hk : j < k1 := by rw [(h1 a).1] at hj; exact hj
        refine ha2 j T u hT ?_
        rw [List.getElem?_take, if_pos hk, List.getElem?_drop]
        exact hu
      · rw [List.getElem?_append_right (by show (f1 a).cells.length ≤ j; omega)] at hT
        rw [(h1 a).1] at hj hT
        refine hb (j - k1) T u hT ?_
        rw [← hu]; congr 1; omega
theorem RdM.struct {t : TypeId} {fs : Array Field} {k : Nat} {β : Type} {g : β → List Tree} {μ : β → Nat} (ht : P.underlying t = some (.struct fs)) (hc : P.cellsOf t = k) (h : RdFM P 0 fs.toList k g μ) : RdM P t k (fun b => .agg (g b)) (fun b => μ b + 1) := by
  obtain ⟨s1, s2⟩ := h
  refine ⟨fun b => s1 b, hc, fun H enc W fuel cs x hx => ?_⟩
  obtain ⟨xs, n, _, hxe, hl, hlen, hf⟩ := DataW.trod_struct ht hx
  obtain ⟨b, hb, hμ⟩ := s2 H enc W n cs xs (by simpa using hlen) (fun i f hi => hf i f (by simpa using hi))
  refine ⟨b, ⟨by rw [hl, hc]; exact (s1 b).1.symm, fun j T u hT hu => hb j T u hT (by simpa using hu)⟩, ?_⟩
  rw [hxe]; simp only [Rows.uptoBulk]; omega

/-- A one-cell argument. -/
theorem RdM.arg {t : TypeId} {α : Type} {f : α → Tree} {μ : α → Nat} (h : RdM P t 1 f μ) (h1 : ∀ a, (f a).isCell = true) {H : Type} {enc : TypeId × Value → H} {v : Value} {d : DataW H} {ps : List MemPlace} (hd : DataW.Trod enc P W 0 (fun _ => true) true t v d ps) (hv : v.cells.toList = [v]) :
    ∃ a, TRep W (fun b => b < W.heap.size) (f a) v ∧ μ a ≤ Rows.uptoBulk d := by
  obtain ⟨fuel, hf⟩ := hd
  obtain ⟨a, ⟨c1, c2⟩, c3⟩ := h.2.2 H enc W fuel _ _ hf
  refine ⟨a, c2 0 _ _ ?_ (by rw [hv]; rfl), c3⟩
  cases hfa : f a with
  | agg cs => have := h1 a; rw [hfa] at this; cases this
  | sc v => rfl
  | lst k xs => rfl
theorem bulk_bound {H : Type} {l : List (DataW H)} (hk : Rows.uptoSmall H l = true) : Rows.uptoBulkAll l ≤ 1048576 := of_decide_eq_true hk
theorem sum_mem {α : Type} {μ : α → Nat} {l : List α} {a : α} (h : a ∈ l) : μ a ≤ (l.map μ).sum := by
  induction l with
  | nil => cases h
  | cons b l ih =>
    simp only [List.map_cons, List.sum_cons]
    rcases List.mem_cons.1 h with rfl | h
    · omega
    · have := ih h; omega
theorem sum_len {α : Type} {μ : α → Nat} (hμ : ∀ a, 1 ≤ μ a) (l : List α) : l.length ≤ (l.map μ).sum := by
  induction l with
  | nil => simp
  | cons b l ih => have := hμ b; simp only [List.map_cons, List.sum_cons, List.length_cons]; omega
end Go.Ab
end
