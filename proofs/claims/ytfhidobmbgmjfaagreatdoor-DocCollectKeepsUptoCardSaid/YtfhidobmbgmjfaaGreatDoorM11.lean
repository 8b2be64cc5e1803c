/- Documents: what the statement on Collect compares. -/
import Derived.Test.YtfhidobmbgmjfaaGreatDoorM1
import Derived.Test.YtfhidobmbgmjfaaGreatDoorM2
import Derived.Test.YtfhidobmbgmjfaaGreatDoorM3
import Derived.Test.YtfhidobmbgmjfaaGreatDoorM4
import Derived.Test.YtfhidobmbgmjfaaGreatDoorM5
import Derived.Test.YtfhidobmbgmjfaaGreatDoorM6
import Derived.Test.YtfhidobmbgmjfaaGreatDoorM7
import Derived.Test.YtfhidobmbgmjfaaGreatDoorM8
import Derived.Test.YtfhidobmbgmjfaaGreatDoorM9
import Derived.Test.YtfhidobmbgmjfaaGreatDoorM10
import Derived.Test.YtfhidobmbgmjfaaGreatDoorRows
import Derived.Shelf.Unicode.DecodeAny
import Derived.Test.YtfhidobmbgmjfaaGreatDoorProg
section
set_option linter.unusedVariables false
namespace Go.Ch
open Go Go.Ab
theorem nodup_sub : ∀ {l m : List Int}, l.Nodup → (∀ x ∈ l, x ∈ m) → l.length ≤ m.length
  | [], m, _, _ => Nat.zero_le _
  | a :: l, m, hn, hs => by
    rw [List.nodup_cons] at hn
    have ha := hs a List.mem_cons_self
    have h1 := nodup_sub (l := l) (m := m.erase a) hn.2 (fun x hx => (List.mem_erase_of_ne (fun e => hn.1 (by rw [← e]; exact hx))).2 (hs x (List.mem_cons_of_mem _ hx)))
    have h2 := List.length_erase_of_mem ha
    have h3 : 0 < m.length := List.length_pos_of_mem ha
    simp only [List.length_cons]; omega
theorem col_len {d : Doc} (hV : DocV d) : (treeV (colD d)).length = (colD d).nodes.length := by
  have h1 := tree_len (col_v hV)
  have h2 := nodup_sub (l := (colD d).nodes.map Node.id) (m := (treeV d).map Vis.id) (by
    have := sort_pair.1 (col_srt hV)
    unfold List.Nodup
    rw [List.pairwise_map]
    exact this.imp (fun {a b} h e => by omega)) (fun x hx => by
    obtain ⟨n, hn, rfl⟩ := List.mem_map.1 hx
    exact (col_mem.1 hn).2)
  rw [List.length_map, List.length_map] at h2
  rw [col_tree hV] at h1 ⊢
  omega
def tkA (d : Doc) (k : Nat) : List Int := ((treeV d).take k).flatMap fun v => [v.id, v.parent]
theorem tkA_succ {d : Doc} {k : Nat} (h : k < (treeV d).length) : tkA d k ++ [((treeV d).getD k default).id, ((treeV d).getD k default).parent] = tkA d (k + 1) := by
  unfold tkA; rw [takeD h, List.flatMap_append]; simp
theorem tkA_len (d : Doc) : ∀ (k : Nat), k ≤ (treeV d).length → (tkA d k).length = 2 * k
  | 0, _ => rfl
  | k + 1, h => by
    rw [← tkA_succ (by omega), List.length_append, tkA_len d k (by omega)]
    simp only [List.length_cons, List.length_nil]; omega
theorem tkA_col {d : Doc} (hV : DocV d) : tkA d (treeV d).length = tkA (colD d) (treeV (colD d)).length := by unfold tkA; rw [col_tree hV]
theorem loose_nil {d : Doc} (hV : DocV d) : (looseD (colD d)).length = 0 := by rw [col_loose hV]; rfl
end Go.Ch
end
section
set_option linter.unusedVariables false
set_option linter.unusedSimpArgs false
set_option maxRecDepth 100000
set_option maxHeartbeats 4000000
open Go Go.Proofs Go.Ab
namespace Go.Ch
theorem fc_sameInts (a : List Int) : FC Tryz.prog 15 [VL 1 intT a, VL 1 intT a] (app emp []) (VB true) (app emp []) := by
 refine .go Tryz.f15 ?_
 refine .len 0 (fun hl0 => ?_)
 refine .len 1 (fun hl1 => ?_)
 refine .br [.r [], .r [(1, X (Xl intT a)), (3, X (Xl intT a))]] ((a.length : Int) != (a.length : Int)) (fun h1 => ?_) (fun h1 => ?_)
 ·
  (try simp only [bne_iff_ne, bne_eq_false_iff_eq, ne_eq] at h1)
  exfalso
  first | omega | simp at h1
 ·
  (try simp only [bne_iff_ne, bne_eq_false_iff_eq, ne_eq] at h1)
  refine .loop (α := Nat) [.r [(1, X (Xl intT a))]] 72 (fun i => ([(0, VL 1 intT a), (1, VL 1 intT a), (12, VI (a.length : Int)), (13, VI (i : Int))], [])) (fun i => i ≤ a.length) (fun i => a.length - i) (0 : Nat) ?_ ?_
  ·
   omega
  rintro i I4 ih4
  try dsimp only at I4
  refine .br [.r []] (decide ((i : Int) < (a.length : Int))) (fun h4 => ?_) (fun h4 => ?_)
  ·
   (try simp only [decide_eq_true_eq, decide_eq_false_iff_not, Int.not_lt, Int.not_le] at h4)
   refine .br [.r [], .r [(2, X (Xi intT a (i : Int))), (6, X (Xi intT a (i : Int)))]] ((a.getD i default) != (a.getD i default)) (fun h6 => ?_) (fun h6 => ?_)
   ·
    (try simp only [bne_iff_ne, bne_eq_false_iff_eq, ne_eq] at h6)
    exfalso
    simp at h6
   ·
    (try simp only [bne_iff_ne, bne_eq_false_iff_eq, ne_eq] at h6)
    refine .back [.r [(0, X (Xn ((i : Int) + 1)))]] [] (ih4 ((i + 1) : Nat) ?_ ?_)
    ·
     show _ ≤ _; omega
    ·
     ((try dsimp only); omega)
  ·
   (try simp only [decide_eq_true_eq, decide_eq_false_iff_not, Int.not_lt, Int.not_le] at h4)
   exact .fin [.r []] []

theorem fc_sameInts2 (a b : List Int) (h : a = b) : FC Tryz.prog 15 [VL 1 intT a, VL 1 intT b] (app emp []) (VB true) (app emp []) := h ▸ fc_sameInts a

theorem fc_law33 (d : Doc) (hb : DocB d) : FC Tryz.prog 4 [.t (docT d)] (app emp []) (VB true) (app emp []) := by
 refine .go Tryz.f4 ?_
 refine .br [.r [], .r [(0, X (Xc0 fc_docs X0))], .f, .r [(1, X (Xc0 (fc_docR d (by assumption)) X0)), (5, Xv 1 (!((docE d) != 0)) (Xc0 (fc_smallR d (by assumption)) X0)), (6, Xv 1 (!((docE d) != 0)) X0), (7, X (Xk' ((docE d) != 0)))]] (((docE d) != 0) || !(smallD d)) (fun h3 => ?_) (fun h3 => ?_)
 ·
  (try simp only [Bool.not_eq_true', Bool.not_eq_false', Bool.or_eq_true, Bool.or_eq_false_iff, bne_iff_ne, bne_eq_false_iff_eq, ne_eq] at h3)
  exact .fin [.r []] []
 ·
  (try simp only [Bool.not_eq_true', Bool.not_eq_false', Bool.or_eq_true, Bool.or_eq_false_iff, bne_iff_ne, bne_eq_false_iff_eq, ne_eq] at h3)
  have hV : DocV d := ⟨hb, h3.1⟩
  have hC := col_v hV
  have hCb := hC.b
  have hn := tree_len hV
  have hn2 := tree_len hC
  have hbl := hb.len
  have hbl2 := hCb.len
  have hln := loose_nil hV
  have hab := tkA_col hV
  have hl1 := tkA_len d _ (Nat.le_refl _)
  have hl2 := tkA_len (colD d) _ (Nat.le_refl _)
  have hcl := col_len hV
  have hct : (treeV (colD d)).length = (treeV d).length := by rw [col_tree hV]
  refine .br [.r [(1, X (Xc1 104 (fc_collect d (by assumption)) X0))], .r [(1, X (Xc1 168 (fc_loose ((colD d)) (by assumption)) X0))], .r [(4, Xv 1 (!false) X0), (5, X (Xk' false)), (8, Xv 1 (!(false || false)) (Xl intT (looseD ((colD d))))), (9, Xv 1 (!(false || false)) X0), (10, X (Xk' (false || false))), (13, Xv 1 (!((false || false) || (((looseD ((colD d))).length : Int) != 0))) (Xc0 (fc_docCk ((colD d)) (by assumption)) X0)), (14, Xv 1 (!((false || false) || (((looseD ((colD d))).length : Int) != 0))) X0), (15, X (Xk' ((false || false) || (((looseD ((colD d))).length : Int) != 0))))]] (((false || false) || (((looseD ((colD d))).length : Int) != 0)) || ((docE ((colD d))) != 0)) (fun h7 => ?_) (fun h7 => ?_)
  ·
   (try simp only [Bool.or_eq_true, Bool.or_eq_false_iff, bne_iff_ne, bne_eq_false_iff_eq, ne_eq] at h7)
   exfalso
   rw [col_loose hV, hC.e] at h7
   simp at h7
  ·
   (try simp only [Bool.or_eq_true, Bool.or_eq_false_iff, bne_iff_ne, bne_eq_false_iff_eq, ne_eq] at h7)
   refine .rng [.r [], .r [(1, X (Xc1 368 (fc_tree d (by assumption)) X0))], .le (.nB 344 0 1)] encP default (treeV d) (fun k => [(136, .box [VL 9 nodeT (((colD d)).nodes)]), (344, .box [.row 376 ((tkA d k).length)]), (352, .box [VN]), (376, OR 1 intT (tkA d k))]) [(368, .box [VL 9 nodeT ((d).nodes)])] (fun _ => none) ((treeV d).length) 999 377 [(3, .ptr 136 0), (7, .ptr 344 0), (8, .ptr 352 0), (50, .fn 37 [.ptr 368 0])] [3, 7, 8] (fun k => ([(7, .ptr 344 0), (9, VI (((treeV d).getD k default).id)), (10, VI (((treeV d).getD k default).parent))], [(136, .box [VL 9 nodeT (((colD d)).nodes)]), (344, .box [.row 376 ((tkA d k).length)]), (352, .box [VN]), (376, OR 1 intT (tkA d k))])) 393 (iter_of (d := d) (gf := 37) (caps := [.ptr 368 0]) (C := [(368, .box [VL 9 nodeT (d).nodes])]) (e := 999) (res := .tup []) (J := (fun _ => none)) (m := (treeV d).length) (Nat.le_refl _) (fun _ _ _ => rfl) (.inl rfl) rfl (fun Y hY ha => (fc_treeB d Y hY hV [] ha).ren [(0, 999), (1, 368)] [(0, 999), (1, 368)] (by kernel_rfl) (by kernel_rfl) (by kernel_rfl) (by kernel_rfl) (by kernel_rfl) (by kernel_rfl))) (fun k hk hj => ⟨by kernel_rfl, ?_, ?_⟩) .normal ?_ (fun _ => by kernel_rfl)
   ·
    exact .rass [.r [], .r []] [(136, 136), (344, 344), (352, 352), (376, 376)]
   ·
    have hkl := tkA_len d k (by omega)
    exact .rend [.r [(4, X (rowC intT [((treeV d).getD k default).id, ((treeV d).getD k default).parent] (Xap 1 intT 376 (tkA d k) [((treeV d).getD k default).id, ((treeV d).getD k default).parent])))]] [(136, 136), (344, 344), (352, 352), (376, 376)] .normal [(136, .box [VL 9 nodeT (((colD d)).nodes)]), (344, .box [.row 376 (((tkA d k) ++ [((treeV d).getD k default).id, ((treeV d).getD k default).parent]).length)]), (352, .box [VN]), (376, OR 1 intT ((tkA d k) ++ [((treeV d).getD k default).id, ((treeV d).getD k default).parent]))] rfl (by rw [← tkA_succ hk])
   refine .rng [.r [(1, X (Xc1 385 (fc_tree ((colD d)) (by assumption)) X0))], .le (.nB 352 0 1)] encP default (treeV (colD d)) (fun k => [(136, .box [VL 9 nodeT (((colD d)).nodes)]), (344, .box [.row 376 ((tkA d ((treeV d).length)).length)]), (352, .box [.row 393 ((tkA (colD d) k).length)]), (376, OR 1 intT (tkA d ((treeV d).length))), (393, OR 1 intT (tkA (colD d) k))]) [(385, .box [VL 9 nodeT ((((colD d))).nodes)])] (fun _ => none) ((treeV (colD d)).length) 998 394 [(3, .ptr 136 0), (7, .ptr 344 0), (8, .ptr 352 0), (59, .fn 37 [.ptr 385 0])] [3, 7, 8] (fun k => ([(8, .ptr 352 0), (11, VI (((treeV (colD d)).getD k default).id)), (12, VI (((treeV (colD d)).getD k default).parent))], [(136, .box [VL 9 nodeT (((colD d)).nodes)]), (344, .box [.row 376 ((tkA d ((treeV d).length)).length)]), (352, .box [.row 393 ((tkA (colD d) k).length)]), (376, OR 1 intT (tkA d ((treeV d).length))), (393, OR 1 intT (tkA (colD d) k))])) 410 (iter_of (d := (colD d)) (gf := 37) (caps := [.ptr 385 0]) (C := [(385, .box [VL 9 nodeT ((colD d)).nodes])]) (e := 998) (res := .tup []) (J := (fun _ => none)) (m := (treeV (colD d)).length) (Nat.le_refl _) (fun _ _ _ => rfl) (.inl rfl) rfl (fun Y hY ha => (fc_treeB (colD d) Y hY hC [] ha).ren [(0, 998), (1, 385)] [(0, 998), (1, 385)] (by kernel_rfl) (by kernel_rfl) (by kernel_rfl) (by kernel_rfl) (by kernel_rfl) (by kernel_rfl))) (fun k hk hj => ⟨by kernel_rfl, ?_, ?_⟩) .normal ?_ (fun _ => by kernel_rfl)
   ·
    exact .rass [.r [], .r []] [(136, 136), (344, 344), (352, 352), (376, 376), (393, 393)]
   ·
    have hkl := tkA_len (colD d) k (by omega)
    exact .rend [.r [(4, X (rowC intT [((treeV (colD d)).getD k default).id, ((treeV (colD d)).getD k default).parent] (Xap 1 intT 393 (tkA (colD d) k) [((treeV (colD d)).getD k default).id, ((treeV (colD d)).getD k default).parent])))]] [(136, 136), (344, 344), (352, 352), (376, 376), (393, 393)] .normal [(136, .box [VL 9 nodeT (((colD d)).nodes)]), (344, .box [.row 376 ((tkA d ((treeV d).length)).length)]), (352, .box [.row 393 (((tkA (colD d) k) ++ [((treeV (colD d)).getD k default).id, ((treeV (colD d)).getD k default).parent]).length)]), (376, OR 1 intT (tkA d ((treeV d).length))), (393, OR 1 intT ((tkA (colD d) k) ++ [((treeV (colD d)).getD k default).id, ((treeV (colD d)).getD k default).parent]))] rfl (by rw [← tkA_succ hk])
   have e1 : ((true && (((tkA d ((treeV d).length)).length : Int) == (2 * ((((colD d)).nodes).length : Int)))) : Bool) = true := by
    (first | omega | with_reducible exact fun h => h | (intro hq; rw [hq]; done) | (intro hq; rw [hq]; rfl) | (simp only [List.length_map]; done) | (simp only [List.length_map]; omega) | (simp; omega) | (simp; done))
   exact .finE [.r [(2, X (Xc0 (fc_sameInts2 (tkA d ((treeV d).length)) (tkA (colD d) ((treeV (colD d)).length)) (by assumption)) (rowC intT (tkA d ((treeV d).length)) (rowC intT (tkA (colD d) ((treeV (colD d)).length)) X0)))), (5, Xv 1 true X0), (7, Xv 1 true X0), (8, Xv 1 true (Xl nodeT (((colD d)).nodes))), (9, Xv 1 true (Xn (2 * ((((colD d)).nodes).length : Int)))), (10, Xv 2 true X0), (11, X (Xk true))]] [] (fun z0 => (VB z0, [])) ((true && (((tkA d ((treeV d).length)).length : Int) == (2 * ((((colD d)).nodes).length : Int)))) : Bool) (true : Bool) e1.symm
end Go.Ch
end
section
set_option linter.unusedVariables false
namespace Go.Ab
open Go Go.Proofs.YtfhidobmbgmjfaaGreatDoor
variable {P : Program} {W : World}

def RdM (P : Program) (t : TypeId) (k : Nat) {α : Type} (f : α → Tree) (μ : α → Nat) : Prop :=
  (∀ a, Elt k (f a)) ∧ P.cellsOf t = k ∧ ∀ (H : Type) (enc : TypeId × Value → H) (W : World) (fuel : Nat) (cs : List Value) (x : DataW H × List MemPlace),
    DataW.trod enc P W 0 (fun _ => true) true fuel t cs = some x → ∃ a : α, CellsR W (f a).cells cs ∧ μ a ≤ Rows.uptoBulk x.1

theorem bulk_pos {H : Type} (d : DataW H) : 1 ≤ Rows.uptoBulk d := by
  cases d with
  | lit l => cases l <;> simp [Rows.uptoBulk]
  | _ => simp [Rows.uptoBulk]

theorem RdM.int {t : TypeId} {k : IntKind} (ht : P.underlying t = some (.int k)) (hc : P.cellsOf t = 1) : RdM P t 1 (fun z : Int => .sc (.int k z)) (fun _ => 1) := by
  refine ⟨fun _ => elt1, hc, fun H enc W fuel cs x h => ?_⟩
  obtain ⟨n, rfl, _, _⟩ := DataW.trod_int ht h
  exact ⟨n, cells1 rfl (.sc _ rfl), bulk_pos _⟩
/-- An integer with its bounds. -/
theorem RdM.i64 {t : TypeId} (ht : P.underlying t = some (.int .i64)) (hc : P.cellsOf t = 1) : RdM P t 1 (fun z : { z : Int // -9223372036854775808 ≤ z ∧ z ≤ 9223372036854775807 } => .sc (.int .i64 z.1)) (fun _ => 1) := by
  refine ⟨fun _ => elt1, hc, fun H enc W fuel cs x h => ?_⟩
  obtain ⟨n, rfl, _, hw⟩ := DataW.trod_int ht h
  exact ⟨⟨n, by simpa [Lit.wf, IntKind.min, IntKind.max, IntKind.signed, IntKind.bits] using hw⟩, cells1 rfl (.sc _ rfl), bulk_pos _⟩
theorem RdM.bool {t : TypeId} (ht : P.underlying t = some .bool) (hc : P.cellsOf t = 1) : RdM P t 1 (fun b : Bool => .sc (.bool b)) (fun _ => 1) := by
  refine ⟨fun _ => elt1, hc, fun H enc W fuel cs x h => ?_⟩
  obtain ⟨n, rfl, _⟩ := DataW.trod_bool ht h
  exact ⟨n, cells1 rfl (.sc _ rfl), bulk_pos _⟩
theorem RdM.str {t : TypeId} (ht : P.underlying t = some .string) (hc : P.cellsOf t = 1) : RdM P t 1 (fun s : ByteArray => .sc (.string s)) (fun s => s.size + 1) := by
  refine ⟨fun _ => elt1, hc, fun H enc W fuel cs x h => ?_⟩
  obtain ⟨n, rfl, rfl, _⟩ := DataW.trod_string ht h
  exact ⟨n, cells1 rfl (.sc _ rfl), by simp [Rows.uptoBulk]⟩

theorem sum_le {α H : Type} {μ : α → Nat} : ∀ {l : List α} {es : List (DataW H)}, l.length = es.length → (∀ (i : Nat) (a : α) (d : DataW H), l[i]? = some a → es[i]? = some d → μ a ≤ Rows.uptoBulk d) → (l.map μ).sum ≤ Rows.uptoBulkAll es
  | [], es, _, _ => by simp
  | a :: l, [], h, _ => by simp at h
  | a :: l, d :: es, h, hi => by
    have h0 := hi 0 a d rfl rfl
    have ih := sum_le (l := l) (es := es) (by simpa using h) (fun i a' d' h1 h2 => hi (i + 1) a' d' (by simpa using h1) (by simpa using h2))
    simp only [List.map_cons, List.sum_cons, Rows.uptoBulkAll]
    omega

theorem RdM.slice {t e : TypeId} {k : Nat} {α : Type} {f : α → Tree} {μ : α → Nat} (ht : P.underlying t = some (.slice e)) (hk : 0 < k) (hc : P.cellsOf t = 1) (he : RdM P e k f μ) : RdM P t 1 (fun l : List α => .lst k (l.map f)) (fun l => (l.map μ).sum + 1) := by
  obtain ⟨h1, h2, h3⟩ := he
  refine ⟨fun l => ⟨rfl, fun T hT => by simp [Tree.cells] at hT; subst hT; rfl⟩, hc, fun H enc W fuel cs x h => ?_⟩
  have hx : ∀ l : List α, ∀ x ∈ l.map f, Elt k x := fun l x hx => by
    obtain ⟨a, _, rfl⟩ := List.mem_map.1 hx
    exact h1 a
  rcases DataW.trod_slice ht h with ⟨rfl, hx0⟩ | ⟨a, len, cap, elems, rest, n, _, rfl, hxe, hb, hl, hm, hlen, hel, _, _⟩
  · refine ⟨[], cells1 rfl (.lst k [] none 0 [] hk (fun x hx => by simp at hx) (Nat.le_refl _) (by simp [maxLen]) (fun h => absurd rfl h) (by simp) (fun j T u hT => by simp [flat] at hT)), ?_⟩
    exact bulk_pos _
  · have key : ∀ i, i < len → ∃ y : α, (∃ cs', cs'.length = k ∧ (∀ r, r < k → W.cell? (a.add (i * k + r)) = cs'[r]?) ∧ CellsR W (f y).cells cs') ∧ ∀ d, (elems.map (·.1))[i]? = some d → μ y ≤ Rows.uptoBulk d := by
      intro i hi
      have h4 := hel i hi
      have h5 : elems[i]? = some elems[i] := by rw [List.getElem?_eq_getElem (by omega)]
      rw [h5, h2] at h4
      obtain ⟨cs', h6, h7⟩ := Option.bind_eq_some_iff.1 h4
      obtain ⟨q1, q2, q3⟩ := World.cells?_some h6
      obtain ⟨y, hy, hμ⟩ := h3 H enc W n cs' _ h7
      refine ⟨y, ⟨cs', q2, fun r hr => ?_, hy⟩, fun d hd => ?_⟩
      · rw [← q3 r hr]
        rw [Addr.add_add]
      · rw [List.getElem?_map, h5] at hd
        simp only [Option.map_some, Option.some.injEq] at hd
        subst hd; exact hμ
    obtain ⟨l, hl1, hl2'⟩ := list_of len _ key
    have hl2 := fun i a h => (hl2' i a h).1
    have hspot : l ≠ [] → ∃ u, W.cell? a = some u := by
      intro hne
      have h0 : 0 < len := by rw [← hl1]; exact List.length_pos_iff.2 hne
      obtain ⟨cs', c1, c2, c3⟩ := hl2 0 l[0] (by rw [List.getElem?_eq_getElem (by omega)])
      have := c2 0 hk
      simp only [Nat.zero_mul, Nat.add_zero] at this
      rw [List.getElem?_eq_getElem (by omega)] at this
      have e : a.add 0 = a := by simp [Addr.add]
      rw [e] at this
      exact ⟨_, this⟩
    refine ⟨l, cells1 rfl ?_, ?_⟩
    rotate_left
    · rw [hxe]
      simp only [Rows.uptoBulk]
      have := sum_le (μ := μ) (l := l) (es := elems.map (·.1)) (by simp [hl1, hlen]) (fun i y d h1 h2 => (hl2' i y h1).2 d h2)
      omega
    have hget : ∀ j, j < len * k → ∃ u, W.cell? (a.add j) = some u ∧ ∀ T, (flat (l.map f))[j]? = some T → TRep W (fun b => b < W.heap.size) T u := by
      intro j hj
      have hi : j / k < len := Nat.div_lt_of_lt_mul (by rw [Nat.mul_comm]; exact hj)
      have hr : j % k < k := Nat.mod_lt _ hk
      have hji : j = j / k * k + j % k := by rw [Nat.mul_comm]; exact (Nat.div_add_mod j k).symm
      obtain ⟨cs', c1, c2, c3⟩ := hl2 (j / k) l[j / k] (by rw [List.getElem?_eq_getElem (by omega)])
      have c4 := c2 (j % k) hr
      rw [← hji, List.getElem?_eq_getElem (by omega)] at c4
      refine ⟨_, c4, fun T hT => ?_⟩
      rw [hji, flat_get (hx l) (i := j / k) (X := f l[j / k]) (by simp [List.getElem?_eq_getElem (show j / k < l.length by omega)]) hr] at hT
      exact c3.2 (j % k) T _ hT (by rw [List.getElem?_eq_getElem (by omega)])
    obtain ⟨us, hu1, hu2⟩ := list_of (len * k) _ hget
    have hlm : (l.map f).length = len := by simp [hl1]
    have := TRep.lst (w := W) (ok := fun b => b < W.heap.size) k (l.map f) (some a) cap us hk (hx l) (by omega) hm (fun hne => ?_) (by rw [hlm]; exact hu1) (fun j T u hT hu => (hu2 j u hu).2 T hT)
    · rw [hlm] at this; exact this
    · obtain ⟨u, hu⟩ := hspot (fun e => hne (by rw [e]; rfl))
      have hs := World.cell?_spot hu
      obtain ⟨b, o, sp⟩ := a
      simp only at hs
      subst hs
      refine ⟨b, o, rfl, ?_, fun j u hj => ?_⟩
      · simp only [World.cell?] at hu
        by_cases hb : b < W.heap.size
        · exact hb
        · rw [Array.getElem?_eq_none (by omega)] at hu; simp at hu
      · have := (hu2 j u hj).1
        rw [add_lit'] at this
        exact this

theorem RdM.map {t : TypeId} {k : Nat} {α β : Type} {f : α → Tree} {μ : α → Nat} {f' : β → Tree} {μ' : β → Nat} (h : RdM P t k f μ) (g : α → β) (hf : ∀ a, f' (g a) = f a) (hm : ∀ a, μ' (g a) ≤ μ a) (he : ∀ b, Elt k (f' b)) : RdM P t k f' μ' := by
  obtain ⟨h1, h2, h3⟩ := h
  refine ⟨he, h2, fun H enc W fuel cs x hx => ?_⟩
  obtain ⟨a, ha, hb⟩ := h3 H enc W fuel cs x hx
  exact ⟨g a, by rw [hf]; exact ha, Nat.le_trans (hm a) hb⟩

/-- The fields of a struct, from a cell on. -/
def RdFM (P : Program) (off : Nat) (fs : List Field) (k : Nat) {β : Type} (g : β → List Tree) (μ : β → Nat) : Prop :=
  (∀ b, (g b).length = k ∧ ∀ T ∈ g b, T.isCell = true) ∧ ∀ (H : Type) (enc : TypeId × Value → H) (W : World) (n : Nat) (cs : List Value) (ys : List (DataW H × List MemPlace)),
    ys.length = fs.length → (∀ (i : Nat) (f : Field), fs[i]? = some f → DataW.trod enc P W 0 (fun _ => true) true n f.type ((cs.drop f.offset).take (P.cellsOf f.type)) = ys[i]?) →
    ∃ b : β, (∀ (j : Nat) (T : Tree) (u : Value), (g b)[j]? = some T → cs[off + j]? = some u → TRep W (fun b => b < W.heap.size) T u) ∧ μ b ≤ Rows.uptoBulkAll (ys.map (·.1))
theorem RdFM.nil {off : Nat} : RdFM P off [] 0 (fun _ : Unit => []) (fun _ => 0) :=
  ⟨fun _ => ⟨rfl, fun T hT => by simp at hT⟩, fun H enc W n cs ys h1 h2 => ⟨(), fun j T u hT => by simp at hT, Nat.zero_le _⟩⟩
theorem RdFM.cons {off : Nat} {f : Field} {fs : List Field} {k1 k2 : Nat} {α β : Type} {f1 : α → Tree} {μ1 : α → Nat} {g2 : β → List Tree} {μ2 : β → Nat} (ho : f.offset = off) (h : RdM P f.type k1 f1 μ1) (hs : RdFM P (off + k1) fs k2 g2 μ2) : RdFM P off (f :: fs) (k1 + k2) (fun p : α × β => (f1 p.1).cells ++ g2 p.2) (fun p => μ1 p.1 + μ2 p.2) := by
  obtain ⟨h1, h2, h3⟩ := h
  obtain ⟨s1, s2⟩ := hs
  refine ⟨fun p => ⟨by rw [List.length_append, (h1 p.1).1, (s1 p.2).1], fun T hT => ?_⟩, fun H enc W n cs ys hl hy => ?_⟩
  · rcases List.mem_append.1 hT with hT | hT
    · exact (h1 p.1).2 T hT
    · exact (s1 p.2).2 T hT
  · cases ys with
    | nil => simp at hl
    | cons y ys =>
      have e0 := hy 0 f rfl
      simp only [List.getElem?_cons_zero, ho, h2] at e0
      obtain ⟨a, ⟨ha1, ha2⟩, ha3⟩ := h3 H enc W n _ _ e0
      obtain ⟨b, hb, hb3⟩ := s2 H enc W n cs ys (by simpa using hl) (fun i f' hf => by simpa using hy (i + 1) f' (by simpa using hf))
      refine ⟨(a, b), fun j T u hT hu => ?_, by simp only [List.map_cons, Rows.uptoBulkAll]; omega⟩
      by_cases hj : j < (f1 a).cells.length
      · rw [List.getElem?_append_left hj] at hT
        have hk : j < k1 := by rw [(h1 a).1] at hj; exact hj
        refine ha2 j T u hT ?_
        rw [List.getElem?_take, if_pos hk, List.getElem?_drop]
        exact hu
      · rw [List.getElem?_append_right (by show (f1 a).cells.length ≤ j; omega)] at hT
        rw [(h1 a).1] at hj hT
        refine hb (j - k1) T u hT ?_
        rw [← hu]; congr 1; omega
theorem RdM.struct {t : TypeId} {fs : Array Field} {k : Nat} {β : Type} {g : β → List Tree} {μ : β → Nat} (ht : P.underlying t = some (.struct fs)) (hc : P.cellsOf t = k) (h : RdFM P 0 fs.toList k g μ) : RdM P t k (fun b => .agg (g b)) (fun b => μ b + 1) := by
  obtain ⟨s1, s2⟩ := h
  refine ⟨fun b => s1 b, hc, fun H enc W fuel cs x hx => ?_⟩
  obtain ⟨xs, n, _, hxe, hl, hlen, hf⟩ := DataW.trod_struct ht hx
  obtain ⟨b, hb, hμ⟩ := s2 H enc W n cs xs (by simpa using hlen) (fun i f hi => hf i f (by simpa using hi))
  refine ⟨b, ⟨by rw [hl, hc]; exact (s1 b).1.symm, fun j T u hT hu => hb j T u hT (by simpa using hu)⟩, ?_⟩
  rw [hxe]; simp only [Rows.uptoBulk]; omega

/-- A one-cell argument. -/
theorem RdM.arg {t : TypeId} {α : Type} {f : α → Tree} {μ : α → Nat} (h : RdM P t 1 f μ) (h1 : ∀ a, (f a).isCell = true) {H : Type} {enc : TypeId × Value → H} {v : Value} {d : DataW H} {ps : List MemPlace} (hd : DataW.Trod enc P W 0 (fun _ => true) true t v d ps) (hv : v.cells.toList = [v]) :
    ∃ a, TRep W (fun b => b < W.heap.size) (f a) v ∧ μ a ≤ Rows.uptoBulk d := by
  obtain ⟨fuel, hf⟩ := hd
  obtain ⟨a, ⟨c1, c2⟩, c3⟩ := h.2.2 H enc W fuel _ _ hf
  refine ⟨a, c2 0 _ _ ?_ (by rw [hv]; rfl), c3⟩
  cases hfa : f a with
  | agg cs => have := h1 a; rw [hfa] at this; cases this
  | sc v => rfl
  | lst k xs => rfl
theorem bulk_bound {H : Type} {l : List (DataW H)} (hk : Rows.uptoSmall H l = true) : Rows.uptoBulkAll l ≤ 1048576 := of_decide_eq_true hk
theorem sum_mem {α : Type} {μ : α → Nat} {l : List α} {a : α} (h : a ∈ l) : μ a ≤ (l.map μ).sum := by
  induction l with
  | nil => cases h
  | cons b l ih =>
    simp only [List.map_cons, List.sum_cons]
    rcases List.mem_cons.1 h with rfl | h
    · omega
    · have := ih h; omega
theorem sum_len {α : Type} {μ : α → Nat} (hμ : ∀ a, 1 ≤ μ a) (l : List α) : l.length ≤ (l.map μ).sum := by
  induction l with
  | nil => simp
  | cons b l ih => have := hμ b; simp only [List.map_cons, List.sum_cons, List.length_cons]; omega
end Go.Ab
end
section
namespace Go.Proofs
open Go.Shelf
def Tryz.lays260_ren : Go.Shelf.Ren := ⟨fun | 260 => 205 | n => n, fun | 9 => 9 | 21 => 21 | 3 => 3 | 4 => 4 | 5 => 5 | 119 => 242 | 0 => 0 | 46 => 194 | 139 => 245 | 138 => 244 | n => n, fun | 3 => 0 | 4 => 1 | n => n⟩
theorem Tryz.lays260 : Go.Proofs.Lays.n260 Tryz.prog Tryz.lays260_ren := {
  mixed := by kernel_rfl
  f260 := Tryz.func205.trans (congrArg some (by kernel_rfl))
  t0 := Tryz.underlying0
  a0 := Tryz.isAgg0
  z0 := Tryz.sizeOf0
  v0 := Tryz.zeroValue0
  t3 := Tryz.underlying3
  a3 := Tryz.isAgg3
  z3 := Tryz.sizeOf3
  v3 := Tryz.zeroValue3
  t4 := Tryz.underlying4
  a4 := Tryz.isAgg4
  z4 := Tryz.sizeOf4
  v4 := Tryz.zeroValue4
  t5 := Tryz.underlying5
  a5 := Tryz.isAgg5
  z5 := Tryz.sizeOf5
  v5 := Tryz.zeroValue5
  t9 := Tryz.underlying9
  a9 := Tryz.isAgg9
  z9 := Tryz.sizeOf9
  v9 := Tryz.zeroValue9
  t21 := Tryz.underlying21
  a21 := Tryz.isAgg21
  z21 := Tryz.sizeOf21
  v21 := Tryz.zeroValue21
  t46 := Tryz.underlying194
  a46 := Tryz.isAgg194
  z46 := Tryz.sizeOf194
  v46 := Tryz.zeroValue194
  t119 := Tryz.underlying242
  a119 := Tryz.isAgg242
  z119 := Tryz.sizeOf242
  t138 := Tryz.underlying244
  a138 := Tryz.isAgg244
  z138 := Tryz.sizeOf244
  v138 := Tryz.zeroValue244
  t139 := Tryz.underlying245
  a139 := Tryz.isAgg245
  z139 := Tryz.sizeOf245
  v139 := Tryz.zeroValue245
  g3 := by kernel_rfl
  g4 := by kernel_rfl }
end Go.Proofs
end
