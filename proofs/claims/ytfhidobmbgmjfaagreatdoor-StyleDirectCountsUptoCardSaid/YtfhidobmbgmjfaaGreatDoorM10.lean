/- Parts of the proof: ChDoc12, ChDoc13, DocFirst, ChDoc14, DocTree, ChDoc15, DocClose, DocDel, DocCol, AbDeep, StylePlain, ChStyle, ChStyle2, ChStyle3, ChStyle4, ChStyle5, AbBulk, TryzShelf2. -/
import Derived.Test.YtfhidobmbgmjfaaGreatDoorM1
import Derived.Test.YtfhidobmbgmjfaaGreatDoorM2
import Derived.Test.YtfhidobmbgmjfaaGreatDoorM3
import Derived.Test.YtfhidobmbgmjfaaGreatDoorM4
import Derived.Test.YtfhidobmbgmjfaaGreatDoorM5
import Derived.Test.YtfhidobmbgmjfaaGreatDoorM6
import Derived.Test.YtfhidobmbgmjfaaGreatDoorM7
import Derived.Test.YtfhidobmbgmjfaaGreatDoorM8
import Derived.Test.YtfhidobmbgmjfaaGreatDoorM9
import Derived.Test.YtfhidobmbgmjfaaGreatDoorRows
import Derived.Shelf.Unicode.DecodeAny
import Derived.Test.YtfhidobmbgmjfaaGreatDoorProg
section
set_option linter.unusedVariables false
set_option linter.unusedSimpArgs false
set_option maxRecDepth 100000
set_option maxHeartbeats 4000000
open Go Go.Proofs Go.Ab
namespace Go.Ch
theorem fc_from (d : Doc) (Y : YSpec) (hY : YCalls Tryz.prog Y) (hV : DocV d) : ∀ (n : Nat), ∀ (v : Vis) (S : List Int) (p : List (List Tree)), WOk d Y n S p v → FC Tryz.prog 75 [.t (visT v), .ptr 0 0, .ptr 1 0, .ptr 2 0, .ptr 3 0] (app emp [(0, .box [.hdl 4]), (1, .box [.yl 5]), (2, .box [VL 9 nodeT d.nodes]), (3, .box [.fn 75 [.ptr 0 0, .ptr 1 0, .ptr 2 0, .ptr 3 0]]), (4, .mp (List.map onM S) none), (5, .ext Y p)]) (VB (contY Y.goes p (walkV d.nodes n S v))) (app emp [(0, .box [.hdl 4]), (1, .box [.yl 5]), (2, .box [VL 9 nodeT d.nodes]), (3, .box [.fn 75 [.ptr 0 0, .ptr 1 0, .ptr 2 0, .ptr 3 0]]), (4, .mp (List.map onM (endS Y.goes S p (walkV d.nodes n S v))) none), (5, .ext Y (endP Y.goes p (walkV d.nodes n S v)))])
  | 0, v, S, p, hw => absurd hw.mu (Nat.not_lt_zero _)
  | n + 1, v, S, p, hw => fc_from1 d Y hY hV n (fc_from d Y hY hV n) v S p hw

theorem fc_walkY (d : Doc) (Y : YSpec) (hY : YCalls Tryz.prog Y) (hV : DocV d) (p : List (List Tree)) (ha : AdmY Y p (treeV d)) : FC Tryz.prog 38 [.t (docT d), .yl 0] (app emp [(0, .ext Y p)]) (.tup []) (app emp [(0, .ext Y (endP Y.goes p (treeV d)))]) := by
 refine .go Tryz.f38 ?_
 have e1 : ((endP Y.goes p (treeV d)) : List (List Tree)) = (endP Y.goes p (walkV d.nodes (d.nodes.length + 1) [] ({ id := 1, parent := 0, vis := true } : Vis))) := by
  rfl
 exact .finE [.r [], .r [], .r [], .r [], .r [(2, X (Xc3 81 [(0, 25), (1, 9), (2, 1), (3, 41), (4, 17), (5, 0)] (fc_from d Y hY hV (d.nodes.length + 1) ({ id := 1, parent := 0, vis := true } : Vis) [] p (WOk.root hV ha)) X0))]] [(0, 0)] (fun z0 : List (List Tree) => (.tup [], [(0, .ext Y z0)])) _ _ e1

theorem fc_treeC (Y : YSpec) (hY : YCalls Tryz.prog Y) (v : Vis) (p : List (List Tree)) (ha : Y.adm p (encP v)) : FC Tryz.prog 39 [.t (visT v), .ptr 0 0] (app emp [(0, .box [.yl 1]), (1, .ext Y p)]) (VB (Y.goes (p ++ [encP v]))) (app emp [(0, .box [.yl 1]), (1, .ext Y (p ++ [encP v]))]) := by
 refine .go Tryz.f39 ?_
 have e1 : ((p ++ [encP v]) : List (List Tree)) = (p ++ [(encP v)]) := by
  rfl
 have e2 : ((Y.goes (p ++ [encP v])) : Bool) = (Y.goes (p ++ [(encP v)])) := by
  rfl
 exact .finE [.r [], .r [(5, X (Xy Tryz.prog Y p (encP v)) (⟨hY, ha⟩))]] [(0, 0), (1, 1)] (fun ((z0, z1) : (List (List Tree)) × Bool) => (VB z1, [(0, .box [.yl 1]), (1, .ext Y z0)])) _ _ (pr e1 e2)

theorem fc_walkT (d : Doc) (Y : YSpec) (hY : YCalls Tryz.prog Y) (hV : DocV d) (p : List (List Tree)) (ha : AdmP Y p (treeV d)) : FC Tryz.prog 38 [.t (docT d), .fn 39 [.ptr 0 0]] (app emp [(0, .box [.yl 1]), (1, .ext Y p)]) (.tup []) (app emp [(0, .box [.yl 1]), (1, .ext Y (p ++ (stopP Y.goes p (treeV d)).map encP))]) := by
  have h := FC.pack (P := Tryz.prog) (W := 38) (fid := 39) (a1 := [.t (docT d)]) (a2 := []) (caps := [.ptr 0 0]) (R := fun pre => [(0, .box [.yl 1]), (1, .ext Y (p ++ pre.map idP))]) (C := []) (pre0 := []) (pre' := endP (fun pre => Y.goes (p ++ pre.map idP)) [] (treeV d)) (res := .tup []) (e := 0)
    (G := fun pre => Y.goes (p ++ pre.map idP)) (A := fun pre xs => ∃ v, xs = enc1 v ∧ Y.adm (p ++ pre.map idP) (encP v))
    (fun pre xs hA => by
      obtain ⟨v, rfl, hadm⟩ := hA
      have := fc_treeC Y hY v (p ++ pre.map idP) hadm
      rw [← map_idP] at this
      exact this)
    (fun Y2 h1 h2 h3 => by
      have := fc_walkY d Y2 h3 hV [] (adm_conv (p0 := p) h1 h2 (by simpa using ha))
      rw [h1] at this
      exact this)
    (by kernel_rfl) (by kernel_rfl) rfl (by kernel_rfl) (by kernel_rfl) rfl
  rw [end_conv] at h
  simpa using h
end Go.Ch
end
section
set_option linter.unusedVariables false
set_option linter.unusedSimpArgs false
set_option maxRecDepth 100000
set_option maxHeartbeats 4000000
open Go Go.Proofs Go.Ab
namespace Go.Ch
theorem fc_treeB (d : Doc) (Y : YSpec) (hY : YCalls Tryz.prog Y) (hV : DocV d) (p : List (List Tree)) (ha : AdmP Y p (treeV d)) : FC Tryz.prog 37 [.yl 0, .ptr 1 0] (app emp [(0, .ext Y p), (1, .box [VL 9 nodeT d.nodes])]) (.tup []) (app emp [(0, .ext Y (p ++ (stopP Y.goes p (treeV d)).map encP)), (1, .box [VL 9 nodeT d.nodes])]) := by
 refine .go Tryz.f37 ?_
 have hb := hV.b
 refine .bp [.r [], .r [(1, X (Xc0 (fc_docCk d (by assumption)) X0))]] ((docE d) != 0) (fun h1 => ?_) (fun h1 => ?_)
 ·
  exfalso
  exact h1 hV.e
 ·
  exact .fin [.r [(2, X (Xc3 50 [(0, 2), (1, 0)] (fc_walkT d Y hY hV p (by assumption)) X0))]] [(0, 0), (1, 1)]

theorem fc_tree (d : Doc) (hb : DocB d) : FC Tryz.prog 10 [.t (docT d)] (app emp []) (.fn 37 [.ptr 0 0]) (app emp [(0, .box [VL 9 nodeT d.nodes])]) := by
 refine .go Tryz.f10 ?_
 exact .fin [.r [], .r [(1, X (Xc1 24 (fc_copyD d (by assumption)) X0))], .r []] [(0, 0)]

theorem fc_visC (v : Vis) (k : Int) (b : Bool) : FC Tryz.prog 40 [.t (visT v), .ptr 0 0, .ptr 1 0] (app emp [(0, .box [VI k]), (1, .box [VB b])]) (VB (v.id != k)) (app emp [(0, .box [VI k]), (1, .box [VB (if v.id = k then v.vis else b)])]) := by
 refine .go Tryz.f40 ?_
 refine .bp [.r [], .r []] (v.id == k) (fun h1 => ?_) (fun h1 => ?_)
 ·
  have e1 : ((if v.id = k then v.vis else b) : Bool) = v.vis := by
   first | rfl | rw [if_pos h1] | rw [if_neg h1]
  exact .finE [.r [], .r []] [(0, 0), (1, 1)] (fun z0 : Bool => (VB (v.id != k), [(0, .box [VI k]), (1, .box [VB z0])])) _ _ e1
 ·
  have e2 : ((if v.id = k then v.vis else b) : Bool) = b := by
   first | rfl | rw [if_pos h1] | rw [if_neg h1]
  exact .finE [.r []] [(0, 0), (1, 1)] (fun z0 : Bool => (VB (v.id != k), [(0, .box [VI k]), (1, .box [VB z0])])) _ _ e2

theorem fc_walkV (d : Doc) (hV : DocV d) (k : Int) : FC Tryz.prog 38 [.t (docT d), .fn 40 [.ptr 0 0, .ptr 1 0]] (app emp [(0, .box [VI k]), (1, .box [VB false])]) (.tup []) (app emp [(0, .box [VI k]), (1, .box [VB (visD d k)])]) := by
  have h := FC.pack (P := Tryz.prog) (W := 38) (fid := 40) (a1 := [.t (docT d)]) (a2 := []) (caps := [.ptr 0 0, .ptr 1 0]) (R := fun pre => [(0, .box [VI k]), (1, .box [VB (outT k pre)])]) (C := []) (pre0 := []) (pre' := endP (gV k) [] (treeV d)) (res := .tup []) (e := 0)
    (G := gV k) (A := fun pre xs => ∃ v, xs = enc1 v)
    (fun pre xs hA => by
      obtain ⟨v, rfl⟩ := hA
      have := fc_visC v k (outT k pre)
      rw [← outT_snoc, ← gV_snoc k pre] at this
      exact this)
    (fun Y2 h1 h2 h3 => by
      have := fc_walkY d Y2 h3 hV [] (adm_vis h2)
      rw [h1] at this
      exact this)
    (by kernel_rfl) (by kernel_rfl) rfl (by kernel_rfl) (by kernel_rfl) rfl
  rw [out_end] at h
  exact h

theorem fc_visible (d : Doc) (k : Int) (hV : DocV d) : FC Tryz.prog 11 [.t (docT d), VI k] (app emp []) (VB (visD d k)) (app emp []) := by
 refine .go Tryz.f11 ?_
 have hb := hV.b
 refine .bp [.r [], .r [], .r [(1, X (Xc0 (fc_docCk d (by assumption)) X0))]] ((docE d) != 0) (fun h2 => ?_) (fun h2 => ?_)
 ·
  exfalso
  exact h2 hV.e
 ·
  exact .fin [.r [(2, X (Xc3 80 [(0, 8), (1, 24)] (fc_walkV d hV k) X0))], .r []] []
end Go.Ch
end
section
set_option linter.unusedVariables false
namespace Go.Ch
open Go Go.Ab
def firstD : Doc := ⟨[⟨1, 0, [], [⟨0, 2, []⟩], ⟨0, 0, [], []⟩, []⟩, ⟨2, 1, [], [⟨10, 0, []⟩], ⟨0, 0, [], []⟩, []⟩]⟩
theorem first_e : docE firstD = 0 := by decide +kernel
theorem first_vis : visD firstD 2 = true := by decide +kernel
theorem first_b : DocB firstD := by
  refine ⟨by decide, fun n hn => ?_, by decide⟩
  have hn2 : n = ⟨1, 0, [], [⟨0, 2, []⟩], ⟨0, 0, [], []⟩, []⟩ ∨ n = ⟨2, 1, [], [⟨10, 0, []⟩], ⟨0, 0, [], []⟩, []⟩ := by
    unfold firstD at hn; simpa using hn
  rcases hn2 with rfl | rfl
  all_goals
    refine ⟨fun a ha => ?_, by decide, fun x hx => ?_, by decide, fun x hx => ?_, fun c hc => ?_, by decide, fun c hc => ?_, by decide, by decide, fun o ho => ?_⟩
    · cases ha
    · rw [List.mem_singleton.1 hx]; intro a ha; cases ha
    · rw [List.mem_singleton.1 hx]; decide
    · cases hc
    · cases hc
    · cases ho
theorem first_v : DocV firstD := ⟨first_b, first_e⟩
end Go.Ch
end
section
set_option linter.unusedVariables false
set_option linter.unusedSimpArgs false
set_option maxRecDepth 100000
set_option maxHeartbeats 4000000
open Go Go.Proofs Go.Ab
namespace Go.Ch
theorem fc_first  : FC Tryz.prog 24 [] (app emp []) (.t (docT firstD)) (app emp []) := by
 refine .go Tryz.f24 ?_
 have e1 : (firstD : Doc) = ({ nodes := [({ id := 1, kind := 0, attrs := [], flow := [({ char := 0, ref := 2, attrs := [] } : Elem)], grid := ({ rows := 0, cols := 0, cells := [], merges := [] } : Grid), draw := [] } : Node), ({ id := 2, kind := 1, attrs := [], flow := [({ char := 10, ref := 0, attrs := [] } : Elem)], grid := ({ rows := 0, cols := 0, cells := [], merges := [] } : Grid), draw := [] } : Node)] } : Doc) := by
  rfl
 exact .finVE [.r [], .r [(0, X (Xf [(2, 2)])), (2, X (Xf [(2, 2), (6, 5), (7, 4), (8, 8)])), (3, X (Xf [(2, 2)])), (5, X (Xf [(2, 2), (6, 5), (7, 4), (8, 8)])), (6, X (rowC elemT [({ char := 0, ref := 2, attrs := [] } : Elem)] (rowC elemT [({ char := 10, ref := 0, attrs := [] } : Elem)] X0)))]] [.fR 0 [(2 : Nat) = (List.map nodeT [({ id := 1, kind := 0, attrs := [], flow := [({ char := 0, ref := 2, attrs := [] } : Elem)], grid := ({ rows := 0, cols := 0, cells := [], merges := [] } : Grid), draw := [] } : Node), ({ id := 2, kind := 1, attrs := [], flow := [({ char := 10, ref := 0, attrs := [] } : Elem)], grid := ({ rows := 0, cols := 0, cells := [], merges := [] } : Grid), draw := [] } : Node)]).length] ⟨lm, trivial⟩] [] (fun z0 : Doc => (.t (docT z0), [])) _ _ e1

theorem fc_docs  : FC Tryz.prog 7 [] (app emp []) (VB true) (app emp []) := by
 refine .go Tryz.f7 ?_
 have q1 := first_b
 have q2 := first_v
 have e1 : (((((docE firstD) == 0) && ((firstD.nodes.length : Int) == 2)) && (visD firstD 2)) : Bool) = true := by
  rw [first_e, first_vis]; rfl
 exact .finE [.r [], .r [(0, X (Xc1 8 fc_first X0))], .r [(1, X (Xc0 (fc_docCk firstD (by assumption)) X0)), (5, Xv 1 ((docE firstD) == 0) X0), (6, Xv 1 ((docE firstD) == 0) (Xl nodeT firstD.nodes)), (7, Xv 1 ((docE firstD) == 0) X0), (8, X (Xk ((docE firstD) == 0))), (11, Xv 1 (((docE firstD) == 0) && ((firstD.nodes.length : Int) == 2)) (Xc0 (fc_visible firstD 2 (by assumption)) X0)), (12, X (Xk (((docE firstD) == 0) && ((firstD.nodes.length : Int) == 2))))]] [] (fun z0 : Bool => (VB z0, [])) _ _ e1.symm
end Go.Ch
end
section
set_option linter.unusedVariables false
namespace Go.Ch
open Go Go.Ab

/-- Each visit of L has a parent among a and what was ahead of it, and that is visible if it is. -/
def Chain (a : Vis) (L : List Vis) : Prop := ∀ L1 w L2, L = L1 ++ w :: L2 → ∃ u ∈ a :: L1, u.id = w.parent ∧ (w.vis = true → u.vis = true)
theorem Chain.nil (a : Vis) : Chain a [] := fun L1 w L2 h => by simp at h
theorem Chain.app {a : Vis} {L M : List Vis} (h1 : Chain a L) (h2 : Chain a M) : Chain a (L ++ M) := by
  intro L1 w L2 h
  rcases List.append_eq_append_iff.1 h with ⟨X, e1, e2⟩ | ⟨X, e1, e2⟩
  · obtain ⟨u, hu, h3⟩ := h2 X w L2 e2
    refine ⟨u, ?_, h3⟩
    rw [e1]
    rcases List.mem_cons.1 hu with hu | hu
    · exact hu ▸ List.mem_cons_self
    · exact List.mem_cons_of_mem _ (List.mem_append_right _ hu)
  · cases X with
    | nil =>
      rw [List.append_nil] at e1
      rw [List.nil_append] at e2
      obtain ⟨u, hu, h3⟩ := h2 [] w L2 e2.symm
      refine ⟨u, ?_, h3⟩
      rcases List.mem_cons.1 hu with hu | hu
      · exact hu ▸ List.mem_cons_self
      · cases hu
    | cons x X =>
      rw [List.cons_append] at e2
      injection e2 with e3 e4
      subst e3
      exact h1 L1 w X e1
theorem Chain.kid {v k : Vis} {M : List Vis} (h : Chain k M) (hp : k.parent = v.id) (hv : k.vis = true → v.vis = true) : Chain v (k :: M) := by
  intro L1 w L2 e
  cases L1 with
  | nil => rw [List.nil_append] at e; injection e with e1 e2; subst e1; exact ⟨v, List.mem_cons_self, hp.symm, hv⟩
  | cons x L1 =>
    rw [List.cons_append] at e; injection e with e1 e2; subst e1
    obtain ⟨u, hu, h3⟩ := h L1 w L2 e2
    exact ⟨u, List.mem_cons_of_mem _ hu, h3⟩
theorem kids_ok {l : List Node} {v k : Vis} (h : k ∈ kidsV l v) : k.parent = v.id ∧ (k.vis = true → v.vis = true) := by
  unfold kidsV at h
  rcases List.mem_append.1 h with h | h
  · rcases List.mem_append.1 h with h | h
    · obtain ⟨r, _, rfl⟩ := List.mem_map.1 h; exact ⟨rfl, fun q => q⟩
    · obtain ⟨c, _, hc⟩ := List.mem_flatMap.1 h
      unfold kidC at hc
      split at hc
      · rw [List.mem_singleton.1 hc]
        refine ⟨rfl, fun q => ?_⟩
        change visC _ v.vis c = true at q
        unfold visC at q
        simp only [Bool.and_eq_true] at q
        exact q.1.1
      · cases hc
  · obtain ⟨r, _, rfl⟩ := List.mem_map.1 h; exact ⟨rfl, fun q => q⟩
structure VOk (S : List Int) (v : Vis) (W : List Vis) : Prop where
  head : W = [] ∨ ∃ M, W = v :: M ∧ Chain v M
  nd : (idsV9 W).Nodup
  new : ∀ k ∈ idsV9 W, k ∉ S
theorem walkL_ok {f : List Int → Vis → List Vis} {v : Vis} (hf : ∀ S k, k.parent = v.id ∧ (k.vis = true → v.vis = true) → VOk S k (f S k)) : ∀ (ks : List Vis) (S : List Int), (∀ k ∈ ks, k.parent = v.id ∧ (k.vis = true → v.vis = true)) →
    Chain v (walkL f S ks) ∧ (idsV9 (walkL f S ks)).Nodup ∧ ∀ k ∈ idsV9 (walkL f S ks), k ∉ S
  | [], S, _ => ⟨Chain.nil v, by simp [walkL, idsV9], fun k hk => by simp [walkL, idsV9] at hk⟩
  | k :: ks, S, h => by
    have hk := h k List.mem_cons_self
    obtain ⟨a1, a2, a3⟩ := hf S k hk
    obtain ⟨b1, b2, b3⟩ := walkL_ok hf ks (S ++ idsV9 (f S k)) (fun x hx => h x (List.mem_cons_of_mem _ hx))
    rw [walkL]
    refine ⟨Chain.app ?_ b1, ?_, fun x hx => ?_⟩
    · rcases a1 with a1 | ⟨M, a1, a4⟩
      · rw [a1]; exact Chain.nil v
      · rw [a1]; exact a4.kid hk.1 hk.2
    · rw [idsV9_app, List.nodup_append]
      exact ⟨a2, b2, fun x hx y hy e => b3 y hy (List.mem_append_right _ (e ▸ hx))⟩
    · rw [idsV9_app] at hx
      rcases List.mem_append.1 hx with hx | hx
      · exact a3 x hx
      · exact fun q => b3 x hx (List.mem_append_left _ q)
theorem walkV_ok (l : List Node) : ∀ (n : Nat) (S : List Int) (v : Vis), VOk S v (walkV l n S v)
  | 0, S, v => ⟨.inl rfl, by simp [walkV, idsV9], fun k hk => by simp [walkV, idsV9] at hk⟩
  | n + 1, S, v => by
    rw [walkV]
    split
    · exact ⟨.inl rfl, by simp [idsV9], fun k hk => by simp [idsV9] at hk⟩
    · rename_i hv
      obtain ⟨b1, b2, b3⟩ := walkL_ok (f := walkV l n) (v := v) (fun S k _ => walkV_ok l n S k) (kidsV l v) (S ++ [v.id]) (fun k hk => kids_ok hk)
      refine ⟨.inr ⟨_, rfl, b1⟩, ?_, fun k hk => ?_⟩
      · show (v.id :: idsV9 _).Nodup
        rw [List.nodup_cons]
        exact ⟨fun q => b3 _ q (List.mem_append_right _ (List.mem_singleton.2 rfl)), b2⟩
      · rcases List.mem_cons.1 (show k ∈ v.id :: idsV9 _ from hk) with rfl | hk
        · exact hv
        · exact fun q => b3 k hk (List.mem_append_left _ q)
theorem tree_nd (d : Doc) : ((treeV d).map Vis.id).Nodup := (walkV_ok d.nodes (d.nodes.length + 1) [] root9).nd
/-! ### The two lists that the statement makes -/
theorem walkL_has {d : Doc} {f : List Int → Vis → List Vis} (hf : ∀ S v, hasN d.nodes v.id = true → ∀ w ∈ f S v, hasN d.nodes w.id = true) : ∀ (ks : List Vis) (S : List Int), (∀ k ∈ ks, hasN d.nodes k.id = true) → ∀ w ∈ walkL f S ks, hasN d.nodes w.id = true := by
  intro ks
  induction ks with
  | nil => intro S _ w hw; simp [walkL] at hw
  | cons k ks ih =>
    intro S hk w hw
    rw [walkL] at hw
    rcases List.mem_append.1 hw with hw | hw
    · exact hf S k (hk k List.mem_cons_self) w hw
    · exact ih _ (fun x hx => hk x (List.mem_cons_of_mem _ hx)) w hw
theorem walkV_has {d : Doc} (hV : DocV d) (n : Nat) : ∀ (S : List Int) (v : Vis), hasN d.nodes v.id = true → ∀ w ∈ walkV d.nodes n S v, hasN d.nodes w.id = true := by
  induction n with
  | zero => intro S v _ w hw; simp [walkV] at hw
  | succ n ih =>
    intro S v h w hw
    rw [walkV] at hw
    split at hw
    · simp at hw
    rcases List.mem_cons.1 hw with rfl | hw
    · exact h
    · exact walkL_has ih _ _ (fun k hk => kids_has hV h hk) w hw
theorem tree_has {d : Doc} (hV : DocV d) {w : Vis} (hw : w ∈ treeV d) : hasN d.nodes w.id = true := walkV_has hV (d.nodes.length + 1) [] root9 hV.one w hw
theorem tree_len {d : Doc} (hV : DocV d) : (treeV d).length ≤ d.nodes.length := by
  have h := nodup_len d.nodes.length ((treeV d).map fun w => lobN d.nodes w.id) (by
    have hn := tree_nd d
    unfold List.Nodup at hn ⊢
    rw [List.pairwise_map] at hn ⊢
    refine hn.imp_of_mem (fun {a b} ha hb h e => h ?_)
    rw [← (hasN_iff.1 (tree_has hV ha)).2, ← (hasN_iff.1 (tree_has hV hb)).2, e]) (fun j hj => by
    obtain ⟨w, hw, rfl⟩ := List.mem_map.1 hj
    exact (hasN_iff.1 (tree_has hV hw)).1)
  simpa using h
end Go.Ch
end
section
set_option linter.unusedVariables false
set_option linter.unusedSimpArgs false
set_option maxRecDepth 100000
set_option maxHeartbeats 4000000
open Go Go.Proofs Go.Ab
namespace Go.Ch
end Go.Ch
end
section
set_option linter.unusedVariables false
namespace Go.Ch
open Go Go.Ab

/-! ### Without the loose nodes -/
end Go.Ch
end
section
set_option linter.unusedVariables false
set_option linter.unusedSimpArgs false
namespace Go.Ch
open Go Go.Ab

theorem filtG_succ {α : Type} [Inhabited α] {p : α → Bool} {l : List α} {i : Nat} (h : i < l.length) : (l.take (i + 1)).filter p = (l.take i).filter p ++ (if p (l.getD i default) = true then [l.getD i default] else []) := by
  rw [takeD h, List.filter_append, List.filter_cons, List.filter_nil]
theorem mem_getDX {α : Type} [Inhabited α] {l : List α} {x : α} (h : x ∈ l) : ∃ j, j < l.length ∧ l.getD j default = x := by
  obtain ⟨j, hj, e⟩ := List.mem_iff_getElem.1 h
  exact ⟨j, hj, by rw [List.getD_eq_getElem?_getD, List.getElem?_eq_getElem hj]; exact e⟩
theorem idxF_spec {α : Type} [Inhabited α] (p : α → Bool) {l : List α} : ∀ (n i : Nat), l.length - i = n → (idxF p l i = -1 ∧ (∀ j, i ≤ j → j < l.length → p (l.getD j default) = false)) ∨
    ∃ k : Nat, idxF p l i = (k : Int) ∧ i ≤ k ∧ k < l.length ∧ p (l.getD k default) = true ∧ ∀ j, i ≤ j → j < k → p (l.getD j default) = false
  | 0, i, h => by rw [idxF, if_neg (by omega)]; exact .inl ⟨rfl, fun j h1 h2 => by omega⟩
  | n + 1, i, h => by
    have hi : i < l.length := by omega
    rw [idxF, if_pos hi]
    by_cases hp : p (l.getD i default) = true
    · rw [if_pos hp]; exact .inr ⟨i, rfl, Nat.le_refl _, hi, hp, fun j h1 h2 => by omega⟩
    · rw [if_neg hp]
      rcases idxF_spec p (l := l) n (i + 1) (by omega) with ⟨e, q⟩ | ⟨k, e, k1, k2, k3, k4⟩
      · refine .inl ⟨e, fun j h1 h2 => ?_⟩
        by_cases ej : i = j
        · rw [← ej]; simpa using hp
        · exact q j (by omega) h2
      · refine .inr ⟨k, e, by omega, k2, k3, fun j h1 h2 => ?_⟩
        by_cases ej : i = j
        · rw [← ej]; simpa using hp
        · exact k4 j (by omega) h2
def delL {α : Type} (p : α → Bool) (l : List α) : List α := l.filter (fun q => !p q)
/-- What the loop of DeleteFunc keeps. -/
structure DelI {α : Type} [Inhabited α] (p : α → Bool) (l o : List α) (i j : Nat) : Prop where
  len : o.length = l.length
  lt : i < j
  le : j ≤ l.length
  tk : o.take i = delL p (l.take j)
  dr : o.drop j = l.drop j
theorem DelI.start {α : Type} [Inhabited α] {p : α → Bool} {l : List α} {k : Nat} (h1 : k < l.length) (h2 : p (l.getD k default) = true) (h3 : ∀ j, 0 ≤ j → j < k → p (l.getD j default) = false) : DelI p l l k (k + 1) := by
  refine ⟨rfl, by omega, by omega, ?_, rfl⟩
  unfold delL
  rw [filtG_succ h1, if_neg (by rw [h2]; decide), List.append_nil]
  symm
  rw [List.filter_eq_self]
  intro q hq
  obtain ⟨j, hj, rfl⟩ := mem_getDX hq
  rw [List.length_take] at hj
  rw [List.getD_eq_getElem?_getD, List.getElem?_take_of_lt (by omega), ← List.getD_eq_getElem?_getD, h3 j (by omega) (by omega)]; rfl
theorem DelI.at_ {α : Type} [Inhabited α] {p : α → Bool} {l o : List α} {i j : Nat} (h : DelI p l o i j) (hj : j < l.length) : o.getD j default = l.getD j default := by
  have e1 : o.drop j = o.getD j default :: o.drop (j + 1) := drop_succD (by have := h.len; omega)
  have e2 : l.drop j = l.getD j default :: l.drop (j + 1) := drop_succD hj
  have := h.dr
  rw [e1, e2] at this
  exact (List.cons.inj this).1
theorem DelI.skip {α : Type} [Inhabited α] {p : α → Bool} {l o : List α} {i j : Nat} (h : DelI p l o i j) (hj : j < l.length) (hp : p (o.getD j default) = true) : DelI p l o i (j + 1) := by
  have e := h.at_ hj
  rw [e] at hp
  refine ⟨h.len, by have := h.lt; omega, by omega, ?_, ?_⟩
  · rw [h.tk]; unfold delL; rw [filtG_succ hj, if_neg (by rw [hp]; decide), List.append_nil]
  · have := congrArg (List.drop 1) h.dr
    rwa [List.drop_drop, List.drop_drop] at this
theorem DelI.keep {α : Type} [Inhabited α] {p : α → Bool} {l o : List α} {i j : Nat} (h : DelI p l o i j) (hj : j < l.length) (hp : p (o.getD j default) = false) : DelI p l (o.set i (o.getD j default)) (i + 1) (j + 1) := by
  have e := h.at_ hj
  have hlt := h.lt
  have hlen := h.len
  rw [e] at hp ⊢
  refine ⟨by rw [List.length_set]; exact hlen, by omega, by omega, ?_, ?_⟩
  · unfold delL
    rw [filtG_succ hj, if_pos (by rw [hp]; rfl)]
    have : (o.set i (l.getD j default)).take (i + 1) = o.take i ++ [l.getD j default] := by
      rw [List.take_succ_eq_append_getElem (by rw [List.length_set]; omega), List.getElem_set_self, List.take_set_of_le (Nat.le_refl _)]
    rw [this, h.tk]; rfl
  · rw [List.drop_set_of_lt (by omega)]
    have := congrArg (List.drop 1) h.dr
    rwa [List.drop_drop, List.drop_drop] at this
theorem DelI.done {α : Type} [Inhabited α] {p : α → Bool} {l o : List α} {i j : Nat} (h : DelI p l o i j) (hj : ¬ j < l.length) : o.take i = delL p l := by
  rw [h.tk, List.take_of_length_le (by omega)]

/-! ### The set that a walk fills -/
end Go.Ch
end
section
set_option linter.unusedVariables false
namespace Go.Ch
open Go Go.Ab
theorem nodup_sub : ∀ {l m : List Int}, l.Nodup → (∀ x ∈ l, x ∈ m) → l.length ≤ m.length
  | [], m, _, _ => Nat.zero_le _
  | a :: l, m, hn, hs => by
    rw [List.nodup_cons] at hn
    have ha := hs a List.mem_cons_self
    have h1 := nodup_sub (l := l) (m := m.erase a) hn.2 (fun x hx => (List.mem_erase_of_ne (fun e => hn.1 (by rw [← e]; exact hx))).2 (hs x (List.mem_cons_of_mem _ hx)))
    have h2 := List.length_erase_of_mem ha
    have h3 : 0 < m.length := List.length_pos_of_mem ha
    simp only [List.length_cons]; omega
end Go.Ch
end
section
set_option linter.unusedVariables false
namespace Go.Ab
variable {P : Program} {n : Nat} {l0 : List (Nat × Ob)} {Q : Exit → St → Prop}

theorem SimC.weak {ctl : Ctl} {K : List Fr} {s s' : St} (h : Le n l0 s s') (k : SimC P n l0 Q ⟨ctl, K, s'⟩) : SimC P n l0 Q ⟨ctl, K, s⟩ := ⟨fun hm hQ => CtlG_le hQ h (k.run hm hQ)⟩
/-- Nine values. -/
structure V9 where
  a : Value
  b : Value
  c : Value
  d : Value
  e : Value
  f : Value
  g : Value
  h : Value
  i : Value
instance : Inhabited V9 := ⟨⟨undef, undef, undef, undef, undef, undef, undef, undef, undef⟩⟩
def v9L (x : V9) : List Value := [x.a, x.b, x.c, x.d, x.e, x.f, x.g, x.h, x.i]
def v9T (x : V9) : Tree := .agg [.sc x.a, .sc x.b, .sc x.c, .sc x.d, .sc x.e, .sc x.f, .sc x.g, .sc x.h, .sc x.i]
def v9of : List Value → V9
  | [a, b, c, d, e, f, g, h, i] => ⟨a, b, c, d, e, f, g, h, i⟩
  | _ => default
theorem v9of_L : ∀ {l : List Value}, l.length = 9 → v9L (v9of l) = l
  | [a, b, c, d, e, f, g, h, i], _ => rfl
def chop : Nat → List Value → List V9
  | 0, _ => []
  | n + 1, l => v9of (l.take 9) :: chop n (l.drop 9)
theorem chop_len : ∀ (n : Nat) (l : List Value), (chop n l).length = n
  | 0, _ => rfl
  | n + 1, l => by simp [chop, chop_len n]
theorem v9T_cells (x : V9) : (v9T x).cells = (v9L x).map .sc := rfl
theorem chop_flat : ∀ (n : Nat) (l : List Value), l.length = n * 9 → flat ((chop n l).map v9T) = l.map .sc
  | 0, l, h => by have : l = [] := List.length_eq_zero_iff.1 (by omega); subst this; rfl
  | n + 1, l, h => by
    simp only [chop, List.map_cons, flat, v9T_cells]
    rw [v9of_L (by rw [List.length_take]; omega), chop_flat n _ (by rw [List.length_drop]; omega), ← List.map_append, List.take_append_drop]
theorem chop_deep {α : Type} {f : α → Tree} {w : World} {ok : Nat → Prop} (hf : ∀ x, ∃ t, f x = .agg t) : ∀ (l : List α) (vs : List Value), vs.length = l.length * 9 → (∀ x ∈ l, Elt 9 (f x)) →
    (∀ (j : Nat) (T : Tree) (u : Value), (flat (l.map f))[j]? = some T → vs[j]? = some u → TRep w ok T u) → ∀ (i : Nat) (x : α) (x' : V9), l[i]? = some x → (chop l.length vs)[i]? = some x' → TRep w ok (f x) (.agg (v9L x').toArray)
  | [], _, _, _, _, i, x, x', h, _ => by simp at h
  | y :: l, vs, hl, he, ht, i, x, x', h, h' => by
    obtain ⟨t, hy⟩ := hf y
    have hE := he y List.mem_cons_self
    rw [hy] at hE
    have ht9 : t.length = 9 := hE.1
    have e1 : flat ((y :: l).map f) = t ++ flat (l.map f) := by simp only [List.map_cons, flat]; rw [hy]; rfl
    rw [e1] at ht
    simp only [List.length_cons] at hl
    cases i with
    | zero =>
      simp only [List.getElem?_cons_zero, Option.some.injEq, List.length_cons, chop] at h h'
      subst h; subst h'
      rw [hy, v9of_L (by rw [List.length_take]; omega)]
      refine .agg t (vs.take 9) (by rw [List.length_take]; omega) hE.2 (fun j T u hT hu => ht j T u ?_ ?_)
      · rw [List.getElem?_append_left (List.getElem?_eq_some_iff.1 hT).1]; exact hT
      · rw [List.getElem?_take] at hu
        split at hu
        · exact hu
        · cases hu
    | succ i =>
      simp only [List.getElem?_cons_succ, List.length_cons, chop] at h h'
      refine chop_deep hf l (vs.drop 9) (by rw [List.length_drop]; omega) (fun x hx => he x (List.mem_cons_of_mem _ hx)) (fun j T u hT hu => ht (t.length + j) T u ?_ ?_) i x x' h h'
      · rw [List.getElem?_append_right (by omega), Nat.add_sub_cancel_left]; exact hT
      · rw [List.getElem?_drop] at hu; rw [ht9]; exact hu

/-- What stands for the link between a list and the values of its cells. -/
structure YDeep {α : Type} (Y : YSpec) (f : α → Tree) (l : List α) (l' : List V9) : Prop where
  len : l'.length = l.length
  hold : ∀ (pre : List (List Tree)) (g : List Nat) (w : World), Y.holds pre g w → ∀ (i : Nat) (x : α) (x' : V9), l[i]? = some x → l'[i]? = some x' → TRep w Y.D (f x) (.agg (v9L x').toArray)
theorem v9T_inv {w : World} {ok : Nat → Prop} {x : V9} {u : Value} (h : TRep w ok (v9T x) u) : u = .agg (v9L x).toArray := by
  unfold v9T at h
  cases h with
  | agg _ us hl hc h =>
  congr 2
  have : ∀ (l : List Value) (us : List Value), us.length = (l.map Tree.sc).length → (∀ (i : Nat) (T : Tree) (u : Value), (l.map Tree.sc)[i]? = some T → us[i]? = some u → TRep w ok T u) → us = l := by
    intro l us hl h
    apply List.ext_getElem?
    intro i
    by_cases hi : i < us.length
    · have hi2 : i < l.length := by rw [List.length_map] at hl; omega
      have h1 : (l.map Tree.sc)[i]? = some (.sc l[i]) := by rw [List.getElem?_map, List.getElem?_eq_getElem hi2]; rfl
      have h2 := VRel.sc_inv (S := emp) (m := ⟨fun _ => (none, 0), fun _ => []⟩) (.t _ _ (h i _ _ h1 (List.getElem?_eq_getElem hi)))
      rw [List.getElem?_eq_getElem hi, List.getElem?_eq_getElem hi2, h2]
    · rw [List.getElem?_eq_none (by omega), List.getElem?_eq_none (by simp at hl; omega)]
  exact this (v9L x) us hl h
theorem deep_le {α : Type} [Inhabited α] {Y : YSpec} {f : α → Tree} {l : List α} {l' : List V9} (hY : YDeep Y f l l') {i : Nat} (hi : i < l.length) {s : St} (t e : Nat) {pre : List (List Tree)} (he : s.st e = some (.ext Y pre)) (ht : get s.sl t = .t (v9T (l'.getD i default))) :
    Le n l0 s ⟨(t, .t (f (l.getD i default))) :: s.sl, s.st, s.nx⟩ := by
  intro P F m0 w0 m a w h0 h1 h2
  refine ⟨m, ⟨fun t' => ?_, h1.size, h1.defers, h1.srel, h1.fresh⟩, h2⟩
  simp only [get]
  by_cases q : t = t'
  · subst q
    simp only [Nat.beq_refl, cond_true]
    have hv := h1.slots t
    rw [ht] at hv
    generalize a.tmps.getD t undef = u at hv
    cases hv with
    | t _ _ hT =>
    have hu := v9T_inv hT
    subst hu
    obtain ⟨-, hh, hD⟩ := h1.srel.objs e _ he
    have hl := hY.len
    have e1 : l[i]? = some (l.getD i default) := by simp [List.getD, hi]
    have e2 : l'[i]? = some (l'.getD i default) := by simp [List.getD, hl ▸ hi]
    exact .t _ _ ((hY.hold _ _ _ hh i _ _ e1 e2).mono hD (fun _ _ _ _ h => h))
  · rw [beq_ne q, cond_false]; exact h1.slots t'
/-- A box's cell is seen in a weaker form. -/
theorem Le.boxW {s : St} {b i : Nat} {cs : List AVal} {v v' : AVal} (hb : s.st b = some (.box cs)) (hi : cs[i]? = some v) (hW : Weak v v') : Le n l0 s ⟨s.sl, upd s.st b (.box (cs.set i v')), s.nx⟩ := by
  intro P F m0 w0 m a w h0 h1 h2
  obtain ⟨bb, us, e, q1, q2, q3, q4⟩ := h1.srel.objs b _ hb
  have key := rewrite_obj (o' := .box (cs.set i v')) h1.srel hb rfl q1 (w' := w) rfl rfl rfl rfl (fun _ _ => rfl) (by simp [Ob.len]) (by simp [Ob.same]) (fun hF => by
    refine ⟨bb, us, e, q1, q2, by simp [q3], fun j x u hv hu => ?_⟩
    rw [List.getElem?_set] at hv
    split at hv
    · rename_i hij
      subst hij
      split at hv
      · simp only [Option.some.injEq] at hv
        subst hv
        obtain ⟨r1, r2⟩ := q4 i _ u hi hu
        exact ⟨hW _ _ _ _ _ (hF.val r1), r2⟩
      · cases hv
    · obtain ⟨r1, r2⟩ := q4 j x u hv hu
      exact ⟨hF.val r1, r2⟩)
  refine ⟨_, ⟨fun t' => key.2.val (h1.slots t'), h1.size, h1.defers.ext key.2, key.1, fun id' hid' => ?_⟩, h2.trans h0 key.2⟩
  show upd s.st b _ id' = none
  simp only at hid'
  rw [upd_ne (fun e => by subst e; rw [h1.fresh id' (by omega)] at hb; cases hb)]
  exact h1.fresh id' (by omega)
theorem Weak.nilL {k : Nat} (hk : 0 < k) : Weak VN (.t (.lst k [])) := fun st m w ok u h => by
  have := VRel.sc_inv h
  subst this
  exact .t _ _ (.lst k [] none 0 [] hk (fun x hx => by cases hx) (Nat.le_refl _) (Nat.zero_le _) (fun h => absurd rfl h) (by simp) (fun j T u h => by simp [flat] at h))
def isRun : Ctl → Bool
  | .run _ => true
  | .out _ => false
/-- From here on a box holds the values of the cells; the link stands beside it. -/
theorem SimC.shal {c : Cfg} {α : Type} (f : α → Tree) (l : List α) (b i : Nat) (cs : List AVal) (hf : ∀ x, ∃ t, f x = .agg t)
    (k : ∀ (l' : List V9) (Y : YSpec), YDeep Y f l l' → SimC P n l0 Q ⟨c.ctl, c.K, ⟨c.s.sl, upd (upd c.s.st b (.box (cs.set i (VL 9 v9T l')))) c.s.nx (.ext Y []), c.s.nx + 1⟩⟩)
    (hb : c.s.st b = some (.box cs) := by kernel_rfl) (hi : cs[i]? = some (VL 9 f l) := by kernel_rfl) (hr : isRun c.ctl = true := by kernel_rfl) : SimC P n l0 Q c := by
  refine ⟨fun hm hQ => ?_⟩
  obtain ⟨ctl, K, s⟩ := c
  cases ctl with
  | out e => cases hr
  | run code =>
  show Sim P n l0 code s (wrapK P n l0 K Q)
  intro F m0 w0 m a w h0 h1 h2
  have hS := h1.srel
  obtain ⟨bb, us, ty, p1, p2, p3, p4⟩ := hS.objs b _ hb
  have hil := (List.getElem?_eq_some_iff.1 hi).1
  have hiu : us[i]? = some (us[i]'(by rw [p3]; exact hil)) := Array.getElem?_eq_getElem _
  obtain ⟨q1, q2⟩ := p4 i _ _ hi hiu
  generalize us[i]'(by rw [p3]; exact hil) = u at hiu q1 q2
  cases q1 with
  | t _ _ hT =>
  cases hT with
  | lst _ _ A cc vs hk hx hn hmx hA hl hv =>
  have hl9 : vs.length = l.length * 9 := by simpa using hl
  have hE : ∀ x ∈ l, Elt 9 (f x) := fun x hx' => hx _ (List.mem_map.2 ⟨x, hx', rfl⟩)
  have hone : ∀ (j : Nat) (u : Value), vs[j]? = some u → u.oneCell' = true := by
    intro j u hu
    have hj := (List.getElem?_eq_some_iff.1 hu).1
    have hfl : (flat (l.map f)).length = l.length * 9 := (flat_len hx).trans (by simp)
    have hT := List.getElem?_eq_getElem (l := flat (l.map f)) (i := j) (by omega)
    refine (hv j _ u hT hu).one ?_
    exact flat_cell hx _ (List.getElem_mem _)
  have hdeep := chop_deep (w := w) (ok := okB F s.st m w) hf l vs hl9 hE hv
  obtain ⟨Y, hY⟩ : ∃ Y : YSpec, Y = {
      fn := .func (.func default) #[] #[]
      kind := .inl ⟨_, _, rfl⟩
      goes := fun _ => true
      adm := fun _ _ => False
      D := okB F s.st m w
      holds := (fun _ _ W => ∀ (i : Nat) (x : α) (x' : V9), l[i]? = some x → (chop l.length vs)[i]? = some x' → TRep W (okB F s.st m w) (f x) (.agg (v9L x').toArray))
      stab := fun _ _ W W' h _ _ hD i x x' r1 r2 => (h i x x' r1 r2).mono (fun _ q => q) (fun b o u hb hc => by rw [cell_of_heap (hD b hb)]; exact hc)
      stabD := fun _ _ W W' q h hq _ _ hb i x x' r1 r2 => (h i x x' r1 r2).mono (fun _ q => q) (fun b o u _ hc => by
        rw [cell_of_heap (hb b (fun e => by subst e; obtain ⟨_, _, _, hz⟩ := cells_of_cell hc; rw [hq] at hz; cases hz))]; exact hc) } := ⟨_, rfl⟩
  have hYD : YDeep Y f l (chop l.length vs) := ⟨chop_len _ _, fun pre g W hh => by subst hY; exact hh⟩
  have hkk := (k (chop l.length vs) Y hYD).run hm hQ
  have hfr : s.st s.nx = none := h1.fresh s.nx (Nat.le_refl _)
  have hbn : b ≠ s.nx := fun e => by rw [e, hfr] at hb; cases hb
  obtain ⟨cs', hcs'⟩ : ∃ cs', cs' = cs.set i (VL 9 v9T (chop l.length vs)) := ⟨_, rfl⟩
  have hcl : cs'.length = cs.length := by rw [hcs', List.length_set]
  obtain ⟨S', hS'⟩ : ∃ S', S' = upd (upd s.st b (.box cs')) s.nx (.ext Y []) := ⟨_, rfl⟩
  obtain ⟨m', hm'⟩ : ∃ m', m' = yPlace m s.nx [] := ⟨_, rfl⟩
  have mh : ∀ id x, m'.has id x → id ≠ s.nx ∧ m.has id x := fun id x hh => by
    subst hm'
    by_cases e : id = s.nx
    · subst e; exact absurd ((yPlace_e _ _ _ _).1 hh) (by simp)
    · exact ⟨e, (yPlace_has e).1 hh⟩
  have old : ∀ id o, S' id = some o → id ≠ s.nx → ∃ o0, s.st id = some o0 ∧ o0.live = o.live := fun id o ho hne => by
    subst hS'
    rw [upd_ne hne] at ho
    by_cases e : id = b
    · subst e; rw [upd_same] at ho; cases ho; exact ⟨_, hb, rfl⟩
    · rw [upd_ne e] at ho; exact ⟨o, ho, rfl⟩
  have hF : FrameExt F s.st m w S' m' w := by
    refine ⟨rfl, rfl, rfl, Nat.le_refl _, fun _ _ _ => rfl, fun id o ho => ?_, fun id o ho hno x hh => ?_⟩
    · have hne : id ≠ s.nx := fun e => by rw [e, hfr] at ho; cases ho
      have hmi : m' id = m id := by rw [hm']; exact yPlace_ne hne
      by_cases e : id = b
      · subst e
        rw [hb] at ho; cases ho
        exact ⟨.box cs', by rw [hS', upd_ne hne, upd_same], Nat.le_refl _, fun _ => hmi, fun q => q, fun x hx => .inl (mh _ _ hx).2, hcl.symm⟩
      · exact ⟨o, by rw [hS', upd_ne hne, upd_ne e]; exact ho, Nat.le_refl _, fun _ => hmi, fun q => q, fun x hx => .inl (mh _ _ hx).2, o.same_refl⟩
    · obtain ⟨hne, -⟩ := mh _ _ hh
      obtain ⟨o0, r1, -⟩ := old id o ho hne
      rw [hno] at r1; cases r1
  have hok : ∀ x, okB F s.st m w x → okB F S' m' w x := fun x hx => hF.ok hx
  have hSR : SRel F S' m' w := by
    refine ⟨fun id o ho => ?_, fun i j oi oj x hi hj hx hy => ?_, fun id o x ho hx => ?_, fun id o x ho hx => ?_, hS.low, hS.hold⟩
    · by_cases e : id = s.nx
      · subst e
        rw [hS', upd_same] at ho; cases ho
        refine ⟨by rw [hm']; simp [yPlace], ?_, fun x hx => hok x ?_⟩
        · subst hY; exact hdeep
        · subst hY; exact hx
      · have hmi : m' id = m id := by rw [hm']; exact yPlace_ne e
        have hgi : m'.g id = m.g id := by rw [hm']; exact yPlace_g e
        rw [hmi, hgi]
        by_cases e2 : id = b
        · subst e2
          rw [hS', upd_ne e, upd_same] at ho; cases ho
          refine ⟨bb, us, ty, p1, p2, by rw [p3, hcl], fun j v u' hv' hu' => ?_⟩
          rw [hcs', List.getElem?_set] at hv'
          by_cases ej : i = j
          · subst ej
            rw [if_pos rfl, if_pos hil] at hv'
            cases hv'
            rw [hiu] at hu'; cases hu'
            refine ⟨.t _ _ ?_, q2⟩
            have hlen : ((chop l.length vs).map v9T).length = (l.map f).length := by simp [chop_len]
            rw [← hlen]
            refine .lst 9 _ A cc vs (by omega) (fun x hx' => ?_) (by rw [hlen]; exact hn) hmx (fun hne => ?_) (by rw [hlen]; exact hl) (fun j T u hT hu => ?_)
            · obtain ⟨y, -, rfl⟩ := List.mem_map.1 hx'
              exact ⟨rfl, fun T hT => by rw [v9T_cells] at hT; obtain ⟨z, -, rfl⟩ := List.mem_map.1 hT; rfl⟩
            · obtain ⟨b', o', r1, r2, r3⟩ := hA (fun hz => hne (List.length_eq_zero_iff.1 (by rw [hlen, hz]; rfl)))
              exact ⟨b', o', r1, hok _ r2, r3⟩
            · rw [chop_flat _ _ hl9, List.getElem?_map, hu] at hT
              cases hT
              exact .sc u (hone j u hu)
          · rw [if_neg ej] at hv'
            obtain ⟨r1, r2⟩ := p4 j v u' hv' hu'
            exact ⟨hF.val r1, r2⟩
        · rw [hS', upd_ne e, upd_ne e2] at ho
          exact (hS.objs id o ho).persist hF (fun _ _ => rfl)
    · obtain ⟨a1, a2⟩ := mh _ _ hx
      obtain ⟨b1, b2⟩ := mh _ _ hy
      obtain ⟨o1, c1, -⟩ := old i oi hi a1
      obtain ⟨o2, c2, -⟩ := old j oj hj b1
      exact hS.inj i j o1 o2 x c1 c2 a2 b2
    · obtain ⟨a1, a2⟩ := mh _ _ hx
      obtain ⟨o1, c1, -⟩ := old id o ho a1
      exact hS.avoid id o1 x c1 a2
    · obtain ⟨a1, a2⟩ := mh _ _ hx
      obtain ⟨o1, c1, -⟩ := old id o ho a1
      exact hS.lt id o1 x c1 a2
  subst hcs' hS'
  refine hkk F m0 w0 m' a w h0 ⟨fun t => hF.val (h1.slots t), h1.size, h1.defers.ext hF, hSR, fun id hid => ?_⟩ (h2.trans h0 hF)
  show upd (upd s.st b _) s.nx _ id = none
  simp only at hid
  rw [upd_ne (by omega), upd_ne (fun e => by subst e; have := hb; rw [h1.fresh id (by show s.nx ≤ id; omega)] at this; cases this)]
  exact h1.fresh id (by omega)
end Go.Ab
end
section
set_option linter.unusedVariables false
set_option linter.unusedSimpArgs false
namespace Go.Ch
open Go Go.Ab

structure Book where
  nodes : List Node
instance : Inhabited Book := ⟨⟨[]⟩⟩
def bookT (b : Book) : Tree := .agg [.lst 9 (b.nodes.map nodeT)]
abbrev kNm : ByteArray := { data := #[110, 97, 109, 101] }
abbrev kOf : ByteArray := { data := #[111, 102] }
abbrev kBs : ByteArray := { data := #[98, 97, 115, 101] }
abbrev kSt : ByteArray := { data := #[115, 116, 121, 108, 101] }
abbrev kPa : ByteArray := { data := #[112, 97, 114, 97, 103, 114, 97, 112, 104] }
abbrev kTx : ByteArray := { data := #[116, 101, 120, 116] }
abbrev kPp : ByteArray := { data := #[112, 46] }
abbrev ndV (d : Doc) (v : Vis) : Node := d.nodes.getD (lobN d.nodes v.id) default
def styO (d : Doc) (v : Vis) : Option Node := if (ndV d v).kind = 11 then some (ndV d v) else none
def styL (d : Doc) (k : Nat) : List Node := ((treeV d).take k).filterMap (styO d)
def stylesD (d : Doc) : List Node := styL d (treeV d).length
def idxN (l : List Node) (k : Int) : Int := if hasN l k = true then (lobN l k : Int) else -1
theorem styL_succ {d : Doc} {k : Nat} (h : k < (treeV d).length) : styL d (k + 1) = styL d k ++ (styO d ((treeV d).getD k default)).toList := by
  unfold styL
  rw [takeD h, List.filterMap_append, List.filterMap_cons, List.filterMap_nil]
  cases styO d ((treeV d).getD k default) <;> rfl
theorem styL_len (d : Doc) (k : Nat) : (styL d k).length ≤ k := by
  unfold styL
  exact Nat.le_trans (List.length_filterMap_le _ _) (by rw [List.length_take]; omega)
def pS (nm u : ByteArray) (n : Node) : Bool := !(seq nm { data := #[] }) && seq (getA n.attrs kNm 0) nm && seq (getA n.attrs kOf 0) u
def findS (l : List Node) (nm u : ByteArray) : Option Node := l.find? (pS nm u)
theorem drop_X {α : Type} [Inhabited α] {l : List α} {i : Nat} (h : i < l.length) : l.drop i = l.getD i default :: l.drop (i + 1) := by
  rw [List.drop_eq_getElem_cons h]; simp [List.getD, List.getElem?_eq_getElem h]
theorem findS_hit {l : List Node} {nm u : ByteArray} {i : Nat} (h : i < l.length) (hp : pS nm u (l.getD i default) = true) : findS (l.drop i) nm u = some (l.getD i default) := by
  unfold findS; rw [drop_X h, List.find?_cons_of_pos hp]
theorem findS_next {l : List Node} {nm u : ByteArray} {i : Nat} (h : i < l.length) (hp : pS nm u (l.getD i default) = false) : findS (l.drop i) nm u = findS (l.drop (i + 1)) nm u := by
  unfold findS; rw [drop_X h, List.find?_cons_of_neg (by rw [hp]; decide)]
theorem findS_end {l : List Node} {nm u : ByteArray} {i : Nat} (h : l.length ≤ i) : findS (l.drop i) nm u = none := by
  unfold findS; rw [List.drop_eq_nil_of_le h]; rfl
def chainS (l : List Node) (u : ByteArray) : Nat → ByteArray → List Node → List Node
  | 0, _, out => out
  | k + 1, nm, out => match findS l nm u with
    | none => out
    | some n => if out.any (fun m => m.id == n.id) = true then out else chainS l u k (getA n.attrs kBs 0) (out ++ [n])
/-- What a round of the chain keeps. -/
structure ChI (l : List Node) (u nm0 nm : ByteArray) (out : List Node) : Prop where
  eq : chainS l u (l.length + 1) nm0 [] = chainS l u (l.length + 1 - out.length) nm out
  nd : (out.map Node.id).Nodup
  sub : ∀ n ∈ out, n ∈ l
theorem ChI.len {l out : List Node} {u nm0 nm : ByteArray} (h : ChI l u nm0 nm out) : out.length ≤ l.length := by
  have := nodup_sub (l := out.map Node.id) (m := l.map Node.id) h.nd (fun x hx => by
    obtain ⟨n, hn, rfl⟩ := List.mem_map.1 hx
    exact List.mem_map.2 ⟨n, h.sub n hn, rfl⟩)
  simpa using this
theorem ChI.start (l : List Node) (u nm : ByteArray) : ChI l u nm nm [] := ⟨rfl, List.nodup_nil, fun n h => by cases h⟩
theorem any_id {out : List Node} {k : Int} : out.any (fun m => m.id == k) = true ↔ k ∈ out.map Node.id := by
  rw [List.any_eq_true, List.mem_map]
  constructor
  · rintro ⟨x, h1, h2⟩; exact ⟨x, h1, by simpa using h2⟩
  · rintro ⟨x, h1, h2⟩; exact ⟨x, h1, by simpa using h2⟩
theorem ChI.none {l out : List Node} {u nm0 nm : ByteArray} (h : ChI l u nm0 nm out) (hf : findS l nm u = none) : chainS l u (l.length + 1) nm0 [] = out := by
  have := h.len
  rw [h.eq, show l.length + 1 - out.length = (l.length - out.length) + 1 by omega, chainS, hf]
theorem ChI.stop {l out : List Node} {u nm0 nm : ByteArray} {n : Node} (h : ChI l u nm0 nm out) (hf : findS l nm u = some n) (ha : out.any (fun m => m.id == n.id) = true) : chainS l u (l.length + 1) nm0 [] = out := by
  have := h.len
  rw [h.eq, show l.length + 1 - out.length = (l.length - out.length) + 1 by omega, chainS, hf]
  simp only
  rw [if_pos ha]
theorem findS_mem {l : List Node} {nm u : ByteArray} {n : Node} (h : findS l nm u = some n) : n ∈ l := List.mem_of_find?_eq_some h
theorem ChI.step {l out : List Node} {u nm0 nm : ByteArray} {n : Node} (h : ChI l u nm0 nm out) (hf : findS l nm u = some n) (ha : out.any (fun m => m.id == n.id) = false) : ChI l u nm0 (getA n.attrs kBs 0) (out ++ [n]) := by
  have hl := h.len
  refine ⟨?_, ?_, fun m hm => ?_⟩
  · rw [h.eq, show l.length + 1 - out.length = (l.length - out.length) + 1 by omega, chainS, hf]
    simp only
    rw [if_neg (by rw [ha]; decide), List.length_append]
    congr 1
    simp only [List.length_cons, List.length_nil]; omega
  · rw [List.map_append, List.nodup_append]
    refine ⟨h.nd, by simp, fun a hA b hB => ?_⟩
    simp only [List.map_cons, List.map_nil, List.mem_singleton] at hB
    subst hB
    intro e; subst e
    rw [← any_id, ha] at hA; cases hA
  · rcases List.mem_append.1 hm with q | q
    · exact h.sub m q
    · rw [List.mem_singleton.1 q]; exact findS_mem hf
theorem chainS_mem {l : List Node} {u : ByteArray} : ∀ (k : Nat) (nm : ByteArray) (out : List Node), (∀ n ∈ out, n ∈ l) → ∀ n ∈ chainS l u k nm out, n ∈ l
  | 0, _, out, h => h
  | k + 1, nm, out, h => by
    rw [chainS]
    split
    · exact h
    · rename_i n hf
      split
      · exact h
      · refine chainS_mem k _ _ (fun m hm => ?_)
        rcases List.mem_append.1 hm with q | q
        · exact h m q
        · rw [List.mem_singleton.1 q]; exact findS_mem hf
def chnS (l : List Node) (nm u : ByteArray) : List Node := chainS l u (l.length + 1) nm []
theorem chnS_mem {l : List Node} {nm u : ByteArray} : ∀ n ∈ chnS l nm u, n ∈ l := chainS_mem _ _ _ (fun _ h => by cases h)

theorem idx_any {α : Type} [Inhabited α] (p : α → Bool) {l : List α} : l.any p = decide (idxF p l 0 ≥ 0) := by
  rcases idxF_spec p (l := l) _ 0 rfl with ⟨a, b⟩ | ⟨k, hk, k1, k2, k3, k4⟩
  · rw [a, Bool.eq_iff_iff, List.any_eq_true]
    constructor
    · rintro ⟨x, h1, h2⟩
      obtain ⟨j, j1, j2⟩ := mem_getDX h1
      rw [← j2, b j (Nat.zero_le _) j1] at h2; cases h2
    · intro h; simp at h
  · rw [hk, decide_eq_true (by omega), List.any_eq_true]
    exact ⟨_, getDX_mem k2, k3⟩

/-! ### What a style gives -/
def pcut (a : Attr) : Option Attr := if 2 < a.name.size ∧ seq (a.name.extract 0 2) kPp = true ∧ nameGo (a.name.extract 2 a.name.size) = true then some ⟨a.name.extract 2 a.name.size, a.val⟩ else none
def pcutL (l : List Attr) : List Attr := l.filterMap pcut
def givK (l : List Node) (k : Nat) : List Attr := (l.reverse.take k).foldl (fun out n => fm rawG out (pcutL n.attrs)) []
def givS (l : List Node) (nm u : ByteArray) : List Attr := givK (chnS l nm u) (chnS l nm u).length
theorem rev_at {l : List Node} {k : Nat} (h : k < l.length) : l.reverse.getD k default = l.getD (l.length - 1 - k) default := by
  simp only [List.getD_eq_getElem?_getD]
  rw [List.getElem?_reverse h]
theorem givK_succ {l : List Node} {k : Nat} (h : k < l.length) : givK l (k + 1) = fm rawG (givK l k) (pcutL (l.getD (l.length - 1 - k) default).attrs) := by
  unfold givK
  rw [takeD (by simpa using h), List.foldl_append, rev_at h]; rfl
theorem pcutL_len (l : List Attr) : (pcutL l).length ≤ l.length := List.length_filterMap_le _ _
theorem pcut_succ {l : List Attr} {i : Nat} (h : i < l.length) : pcutL (l.take (i + 1)) = pcutL (l.take i) ++ (pcut (l.getD i default)).toList := by
  unfold pcutL
  rw [takeD h, List.filterMap_append, List.filterMap_cons, List.filterMap_nil]
  cases pcut (l.getD i default) <;> rfl
def attN (l : List Node) : Nat := (l.map fun n => n.attrs.length).sum
theorem attN_app (a b : List Node) : attN (a ++ b) = attN a + attN b := by unfold attN; rw [List.map_append, List.sum_append]
theorem attN_cons (x : Node) (l : List Node) : attN (x :: l) = x.attrs.length + attN l := rfl
theorem attN_part (p : Node → Bool) : ∀ (l : List Node), attN l = attN (l.filter p) + attN (l.filter fun n => !p n)
  | [] => rfl
  | x :: l => by
    have := attN_part p l
    rw [List.filter_cons, List.filter_cons, attN_cons]
    cases h : p x <;> simp [attN_cons] <;> omega
theorem attN_mem : ∀ {l : List Node} {x : Node}, x ∈ l → x.attrs.length ≤ attN l
  | y :: l, x, h => by
    rw [attN_cons]
    rcases List.mem_cons.1 h with rfl | h
    · omega
    · have := attN_mem h; omega
theorem attN_sub : ∀ (c l : List Node), (c.map Node.id).Nodup → (∀ n ∈ c, n ∈ l) → attN c ≤ attN l
  | [], l, _, _ => Nat.zero_le _
  | x :: c, l, hn, hs => by
    rw [List.map_cons, List.nodup_cons] at hn
    have h1 := attN_part (fun n => n.id == x.id) l
    have h2 : x.attrs.length ≤ attN (l.filter fun n => n.id == x.id) := attN_mem (List.mem_filter.2 ⟨hs x List.mem_cons_self, by simp⟩)
    have h3 := attN_sub c (l.filter fun n => !(n.id == x.id)) hn.2 (fun n hn' => List.mem_filter.2 ⟨hs n (List.mem_cons_of_mem _ hn'), by
      rw [Bool.not_eq_true', beq_eq_false_iff_ne]
      intro e
      exact hn.1 (List.mem_map.2 ⟨n, hn', e⟩)⟩)
    rw [attN_cons]; omega
theorem attN_take (l : List Node) (k : Nat) : attN (l.take k) ≤ attN l := by
  have := attN_app (l.take k) (l.drop k)
  rw [List.take_append_drop] at this; omega
theorem attN_rev (l : List Node) : attN l.reverse = attN l := by
  induction l with
  | nil => rfl
  | cons x l ih => rw [List.reverse_cons, attN_app, ih, attN_cons, attN_cons]; show _ + (_ + 0) = _; omega
theorem givK_len (l : List Node) : ∀ (k : Nat), k ≤ l.length → (givK l k).length ≤ attN (l.reverse.take k)
  | 0, _ => by simp [givK]
  | k + 1, hk => by
    rw [givK_succ (by omega), takeD (by simp; omega), attN_app, rev_at (by omega), attN_cons]
    have h1 := fm_len rawG (givK l k) (pcutL (l.getD (l.length - 1 - k) default).attrs)
    have h2 := givK_len l k (by omega)
    have h3 := pcutL_len (l.getD (l.length - 1 - k) default).attrs
    omega
theorem givK_le (l : List Node) (k : Nat) (h : k ≤ l.length) : (givK l k).length ≤ attN l := by
  have h1 := givK_len l k h
  have h2 := attN_take l.reverse k
  rw [attN_rev] at h2; omega
theorem chainS_nd {l : List Node} {u : ByteArray} : ∀ (k : Nat) (nm : ByteArray) (out : List Node), (out.map Node.id).Nodup → ((chainS l u k nm out).map Node.id).Nodup
  | 0, _, out, h => h
  | k + 1, nm, out, h => by
    rw [chainS]
    split
    · exact h
    · rename_i n hf
      split
      · exact h
      · rename_i ha
        refine chainS_nd k _ _ ?_
        rw [List.map_append, List.nodup_append]
        refine ⟨h, by simp, fun a hA b hB => ?_⟩
        simp only [List.map_cons, List.map_nil, List.mem_singleton] at hB
        subst hB
        intro e; subst e
        exact ha (any_id.2 hA)
theorem chnS_att (l : List Node) (nm u : ByteArray) : attN (chnS l nm u) ≤ attN l := attN_sub _ _ (chainS_nd _ _ _ List.nodup_nil) chnS_mem
theorem chnS_len (l : List Node) (nm u : ByteArray) : (chnS l nm u).length ≤ l.length := by
  have := nodup_sub (l := (chnS l nm u).map Node.id) (m := l.map Node.id) (chainS_nd _ _ _ List.nodup_nil) (fun x hx => by
    obtain ⟨n, hn, rfl⟩ := List.mem_map.1 hx
    exact List.mem_map.2 ⟨n, chnS_mem n hn, rfl⟩)
  simpa using this
theorem givS_len (l : List Node) (nm u : ByteArray) : (givS l nm u).length ≤ attN l := Nat.le_trans (givK_le _ _ (Nat.le_refl _)) (chnS_att _ _ _)
/-- The places of a list, from its end. -/
def dnL (n : Nat) : List Nat := (List.range n).reverse
theorem dn_len (n : Nat) : (dnL n).length = n := by simp [dnL]
theorem dn_at {n k : Nat} (h : k < n) : (dnL n).getD k default = n - 1 - k := by
  unfold dnL
  rw [List.getD_eq_getElem?_getD, List.getElem?_reverse (by simpa using h), List.length_range, List.getElem?_range (by omega)]; rfl
theorem dn_take {n m : Nat} (h : m < n) : (dnL n).take (n - m) = (dnL n).take (n - 1 - m) ++ [m] := by
  rw [show n - m = (n - 1 - m) + 1 by omega, takeD (by rw [dn_len]; omega), dn_at (by omega), show n - 1 - (n - 1 - m) = m by omega]
def bwE (l : List V9) (i : Nat) : List Tree := [TI (i : Int), v9T (l.getD i default)]
def woS (l : List Attr) : List Attr := fm rawG l [⟨kSt, mt⟩]
def endSt (l : List Node) (e : List Attr) : List Attr := fm rawG (woS (givS l (getA e kSt 0) kPa)) (woS e)
def elmSt (l : List Node) (x e : List Attr) : List Attr := fm rawG (fm rawG (woS (givS l (getA e kSt 0) kPa)) (woS (givS l (getA x kSt 0) kTx))) (woS x)
def rsvE (d : Doc) (x : Elem) (e : List Attr) : Int := if docE d ≠ 0 then docE d else if elemE x ≠ 0 then elemE x else chkA false e 0
def rsvL (d : Doc) (x : Elem) (e : List Attr) : List Attr := if docE d = 0 ∧ elemE x = 0 ∧ chkA false e 0 = 0 then elmSt (stylesD d) x.attrs e else []
def rseE (d : Doc) (e : List Attr) : Int := if docE d ≠ 0 then docE d else chkA false e 0
def rseL (d : Doc) (e : List Attr) : List Attr := if docE d = 0 ∧ chkA false e 0 = 0 then endSt (stylesD d) e else []
def hasB (l : List Attr) (n : ByteArray) : Bool := l.any fun a => seq a.name n
theorem hasB_look (l : List Attr) (n : ByteArray) : hasB l n = (look l n).isSome := by
  unfold hasB
  induction l with
  | nil => rfl
  | cons a l ih =>
    rw [List.any_cons, look, ih]
    by_cases h : a.name = n
    · rw [if_pos h, seq_iff.2 h]; rfl
    · rw [if_neg h, seq_no.2 h]; rfl
theorem hasB_at {l : List Attr} {i : Nat} (h : i < l.length) (n : ByteArray) : hasB (l.drop i) n = (seq (l.getD i default).name n || hasB (l.drop (i + 1)) n) := by
  rw [drop_X h]; rfl

/-! ### Their law -/
theorem ext_list (s : ByteArray) (i j : Nat) : (s.extract i j).toList = (s.toList.drop i).take (j - i) := by
  rw [ByteArray.toList_eq, ByteArray.toList_eq]
  simp [ByteArray.data_extract, Array.toList_extract, List.extract]
theorem size_list (s : ByteArray) : s.toList.length = s.size := by rw [ByteArray.toList_eq]; rfl
theorem bl_tail : ∀ (p x y : List UInt8), Op.bytesLess (p ++ x) (p ++ y) = Op.bytesLess x y
  | [], _, _ => rfl
  | a :: p, x, y => by
    simp only [List.cons_append, Op.bytesLess, bl_tail p x y, beq_self_eq_true, Bool.true_and]
    rw [decide_eq_false (by rw [UInt8.lt_iff_toNat_lt]; omega)]; rfl
theorem pcut_name {a b : Attr} (h : pcut a = some b) : 2 < a.name.size ∧ a.name.toList = kPp.toList ++ b.name.toList ∧ b.val = a.val ∧ nameGo b.name = true := by
  unfold pcut at h
  split at h
  · rename_i hc
    cases h
    obtain ⟨h1, h2, h3⟩ := hc
    refine ⟨h1, ?_, rfl, h3⟩
    rw [seq_iff] at h2
    have e := congrArg ByteArray.toList h2
    rw [ext_list] at e
    rw [← e, ext_list]
    simp only [List.drop_zero, Nat.sub_zero]
    have := size_list a.name
    rw [List.take_of_length_le (l := a.name.toList.drop 2) (by rw [List.length_drop]; omega), List.take_append_drop]
  · cases h
theorem pcutL_V : ∀ {l : List Attr}, VG false l → VG true (pcutL l)
  | [], _ => ⟨trivial, (fun a h => by cases h)⟩
  | a :: l, h => by
    have hl : VG false l := ⟨h.1.2, fun b hb => h.2 b (List.mem_cons_of_mem _ hb)⟩
    obtain ⟨i1, i2⟩ := pcutL_V hl
    have e : pcutL (a :: l) = (pcut a).toList ++ pcutL l := by unfold pcutL; rw [List.filterMap_cons]; cases pcut a <;> rfl
    rw [e]
    cases hc : pcut a with
    | none => exact ⟨i1, i2⟩
    | some b =>
      obtain ⟨c1, c2, c3, c4⟩ := pcut_name hc
      refine ⟨⟨fun y hy => ?_, i1⟩, fun y hy => ?_⟩
      · obtain ⟨z, hz, hz2⟩ := List.mem_filterMap.1 hy
        obtain ⟨d1, d2, d3, d4⟩ := pcut_name hz2
        have := h.1.1 z hz
        unfold slt at this ⊢
        rw [c2, d2, bl_tail] at this
        exact this
      · rcases List.mem_append.1 hy with q | q
        · simp only [Option.toList_some, List.mem_singleton] at q
          subst q
          refine ⟨c4, .inl ?_⟩
          rw [c3]
          exact (h.2 a List.mem_cons_self).2.resolve_right (fun q => by cases q.1)
        · exact i2 y q
theorem nil_V : VG false [] := ⟨trivial, fun a h => by cases h⟩
theorem st_V : VG true [⟨kSt, mt⟩] := by
  refine ⟨⟨(fun a h => by cases h), trivial⟩, fun a h => ?_⟩
  rw [List.mem_singleton] at h
  subst h
  exact ⟨by show nameGo kSt = true; decide +kernel, .inr ⟨rfl, rfl⟩⟩
theorem givK_V {l : List Node} (h : ∀ n ∈ l, VG false n.attrs) : ∀ (k : Nat), k ≤ l.length → VG false (givK l k)
  | 0, _ => nil_V
  | k + 1, hk => by
    rw [givK_succ (by omega)]
    exact raw_V np_mt (givK_V h k (by omega)) (pcutL_V (h _ (getDX_mem (by omega))))
theorem givS_V {l : List Node} (h : ∀ n ∈ l, VG false n.attrs) (nm u : ByteArray) : VG false (givS l nm u) := givK_V (fun n hn => h n (chnS_mem n hn)) _ (Nat.le_refl _)
theorem wo_V {l : List Attr} (h : VG false l) : VG false (woS l) := raw_V np_mt h st_V
theorem wo_look {l : List Attr} (h : VG false l) (n : ByteArray) : look (woS l) n = if n = kSt then none else look l n := by
  unfold woS
  rw [fm_look np_mt fair_raw h st_V]
  have hk : kSt ≠ mt := by decide
  by_cases hn : n = kSt
  · subst hn
    rw [if_pos rfl, look, if_pos rfl]
    cases look l kSt <;> simp [at2, rawG, dflt]
  · rw [if_neg hn, look, if_neg (fun e => hn e.symm), look]
    cases look l n <;> simp [at2, rawG, dflt]
theorem toT {l : List Attr} (h : VG false l) : VG true l := ⟨h.1, fun a ha => ⟨(h.2 a ha).1, .inl ((h.2 a ha).2.resolve_right (fun q => by cases q.1))⟩⟩
theorem raw_look {a b : List Attr} (ha : VG false a) (hb : VG false b) (n : ByteArray) : look (fm rawG a b) n = (look b n).or (look a n) := by
  rw [fm_look np_mt fair_raw ha hb]
  cases h2 : look b n with
  | none => cases look a n <;> simp [at2, rawG, dflt]
  | some w =>
    have hn := q_ne np_mt (hb.look h2)
    have hw := q_val vp_mt (hb.look h2)
    cases look a n <;> simp [at2, rawG, dflt, hn, hw]
theorem raw_none {a b : List Attr} (ha : VG false a) (hb : VG false b) {n : ByteArray} (h1 : look a n = none) (h2 : look b n = none) : look (fm rawG a b) n = none := by rw [raw_look ha hb, h1, h2]; rfl
theorem hasB_no {l : List Attr} {n : ByteArray} (h : look l n = none) : hasB l n = false := by rw [hasB_look, h]; rfl
variable {l : List Node} {x e : List Attr}
theorem elm_no (hl : ∀ n ∈ l, VG false n.attrs) (hx : VG false x) : hasB (elmSt l x e) kSt = false := by
  refine hasB_no (raw_none (raw_V np_mt (wo_V (givS_V hl _ _)) (toT (wo_V (givS_V hl _ _)))) (wo_V hx) (raw_none (wo_V (givS_V hl _ _)) (wo_V (givS_V hl _ _)) ?_ ?_) ?_)
  · rw [wo_look (givS_V hl _ _), if_pos rfl]
  · rw [wo_look (givS_V hl _ _), if_pos rfl]
  · rw [wo_look hx, if_pos rfl]
theorem end_no (hl : ∀ n ∈ l, VG false n.attrs) (he : VG false e) : hasB (endSt l e) kSt = false := by
  refine hasB_no (raw_none (wo_V (givS_V hl _ _)) (wo_V he) ?_ ?_)
  · rw [wo_look (givS_V hl _ _), if_pos rfl]
  · rw [wo_look he, if_pos rfl]
theorem elm_own (hl : ∀ n ∈ l, VG false n.attrs) (hx : VG false x) {a : Attr} (ha : a ∈ x) (hn : a.name ≠ kSt) : getA (elmSt l x e) a.name 0 = a.val := by
  rw [getA_eq]
  unfold elmSt
  rw [raw_look (raw_V np_mt (wo_V (givS_V hl _ _)) (toT (wo_V (givS_V hl _ _)))) (wo_V hx), wo_look hx, if_neg hn, look_of_mem hx.1 ha]; rfl
theorem giv_mt (u : ByteArray) : givS l mt u = [] := by
  have : chnS l mt u = [] := by
    unfold chnS
    rw [chainS, show findS l mt u = none from ?_]
    unfold findS
    rw [List.find?_eq_none]
    intro n _
    unfold pS
    rw [show seq mt { data := #[] } = true from by rw [seq_iff]]
    simp
  unfold givS
  rw [this]; rfl
theorem wo_nil : woS [] = [] := by
  refine sorted_ext (wo_V nil_V).1 trivial (fun n => ?_)
  rw [wo_look nil_V]; split <;> rfl
theorem fm_nil : fm rawG [] [] = [] := by simp [fm, bothL]
theorem fm_nl {b : List Attr} (h : VG false b) : fm rawG [] b = b := by
  refine sorted_ext (raw_V np_mt nil_V (toT h)).1 h.1 (fun n => ?_)
  rw [raw_look nil_V h]; cases look b n <;> rfl
theorem wo_self {l : List Attr} (h : VG false l) (hh : hasB l kSt = false) : woS l = l := by
  refine sorted_ext (wo_V h).1 h.1 (fun n => ?_)
  rw [wo_look h]
  split
  · rename_i q; subst q
    rw [hasB_look] at hh
    cases q : look l kSt with
    | none => rfl
    | some v => rw [q] at hh; cases hh
  · rfl
theorem getA_no {l : List Attr} {n : ByteArray} (h : hasB l n = false) : getA l n 0 = mt := by
  rw [getA_eq]
  rw [hasB_look] at h
  cases q : look l n with
  | none => rfl
  | some v => rw [q] at h; cases h
theorem elm_self (hx : VG false x) (h1 : hasB x kSt = false) (h2 : hasB e kSt = false) : elmSt l x e = x := by
  unfold elmSt
  rw [getA_no h1, getA_no h2, giv_mt, giv_mt, wo_nil, fm_nil, wo_self hx h1, fm_nl hx]
theorem end_self (he : VG false e) (h2 : hasB e kSt = false) : endSt l e = e := by
  unfold endSt
  rw [getA_no h2, giv_mt, wo_nil, wo_self he h2, fm_nl he]
theorem styL_mem {d : Doc} (hV : DocV d) {k : Nat} {n : Node} (h : n ∈ styL d k) : n ∈ d.nodes := by
  unfold styL at h
  obtain ⟨v, hv, h⟩ := List.mem_filterMap.1 h
  unfold styO at h
  split at h
  · cases h
    exact getDX_mem (hasN_iff.1 (tree_has hV (List.mem_of_mem_take hv))).1
  · cases h
theorem attrs_V {n : Node} (h : nodeE n = 0) : VG false n.attrs := by
  refine chk_iff.1 ?_
  unfold nodeE at h
  (repeat' split at h) <;> first | omega | (rename_i q _ _; exact Classical.byContradiction q) | simp_all
theorem wo_len (l : List Attr) : (woS l).length ≤ l.length + 1 := fm_len _ _ _
theorem styL_id {d : Doc} (hV : DocV d) : ∀ {l : List Vis}, (∀ v ∈ l, v ∈ treeV d) → ((l.filterMap (styO d)).map Node.id).Sublist (l.map Vis.id)
  | [], _ => .slnil
  | v :: l, h => by
    have ih := styL_id hV (l := l) (fun w hw => h w (List.mem_cons_of_mem _ hw))
    rw [List.filterMap_cons, List.map_cons]
    unfold styO
    split
    · rename_i q
      exact .cons _ (by unfold styO at ih; exact ih)
    · rename_i n q
      split at q
      · cases q
        rw [List.map_cons]
        have : (ndV d v).id = v.id := (hasN_iff.1 (tree_has hV (h v List.mem_cons_self))).2
        rw [this]
        exact .cons_cons _ (by unfold styO at ih; exact ih)
      · cases q
theorem sty_att {d : Doc} (hV : DocV d) : attN (stylesD d) ≤ attN d.nodes := by
  refine attN_sub _ _ ?_ (fun n hn => styL_mem hV hn)
  unfold stylesD styL
  rw [List.take_of_length_le (Nat.le_refl _)]
  exact (tree_nd d).sublist (styL_id hV (fun v hv => hv))
theorem sty_len {d : Doc} (hV : DocV d) : (stylesD d).length ≤ 1048576 := by
  have h1 := styL_len d (treeV d).length
  have h2 := tree_len hV
  have h3 := hV.b.len
  unfold stylesD; omega
theorem sty_V {d : Doc} (hV : DocV d) : ∀ n ∈ stylesD d, VG false n.attrs := fun n hn => attrs_V (hV.node (styL_mem hV hn))
theorem partE_one (x : Elem) : partE [x] 0 = elemE x := by
  rw [partE, if_pos (by simp)]
  show (if elemE x = 0 then partE [x] (0 + 1) else elemE x) = _
  split
  · rename_i h; rw [partE, if_neg (by simp), h]
  · rfl
theorem elem_V {x : Elem} (h : elemE x = 0) : VG false x.attrs := by
  refine chk_iff.1 ?_
  unfold elemE at h
  (repeat' split at h) <;> first | omega | simp_all
theorem styled_p : ((true && (rsvE firstD { char := 97, ref := 0, attrs := [({ name := { data := #[98, 111, 108, 100] }, val := { data := #[111, 110] } } : Attr)] } [] == 0)) && sameL (rsvL firstD { char := 97, ref := 0, attrs := [({ name := { data := #[98, 111, 108, 100] }, val := { data := #[111, 110] } } : Attr)] } []) [({ name := { data := #[98, 111, 108, 100] }, val := { data := #[111, 110] } } : Attr)]) = true := by decide +kernel
theorem law34_no {d : Doc} {x : Elem} {e : List Attr} (h : docE d ≠ 0 ∨ elemE x ≠ 0 ∨ chkA false e 0 ≠ 0) : (rsvE d x e != 0) = true := by
  rw [bne_iff_ne]
  unfold rsvE
  (repeat' split) <;> omega
theorem law34_e {d : Doc} {x : Elem} {e : List Attr} (h1 : docE d = 0) (h2 : elemE x = 0) (h3 : chkA false e 0 = 0) : rsvE d x e = 0 ∧ rseE d e = 0 := by
  unfold rsvE rseE
  rw [if_neg (by omega), if_neg (by omega), if_neg (by omega)]
  exact ⟨h3, h3⟩
/-- The law. -/
theorem law34_l {d : Doc} (hb : DocB d) {x : Elem} {e : List Attr} (h1 : docE d = 0) (h2 : elemE x = 0) (h3 : chkA false e 0 = 0) : (hasB (rsvL d x e) kSt = false ∧ hasB (rseL d e) kSt = false) ∧
    (∀ a ∈ x.attrs, a.name ≠ kSt → getA (rsvL d x e) a.name 0 = a.val) ∧ (hasB x.attrs kSt = false → hasB e kSt = false → rsvL d x e = x.attrs) ∧ (hasB e kSt = false → rseL d e = e) := by
  have hV : DocV d := ⟨hb, h1⟩
  have hx := elem_V h2
  have he := chk_iff.1 h3
  have hS := sty_V hV
  unfold rsvL rseL
  rw [if_pos ⟨h1, h2, h3⟩, if_pos ⟨h1, h3⟩]
  exact ⟨⟨elm_no hS hx, end_no hS he⟩, fun a ha hn => elm_own hS hx ha hn, fun q1 q2 => elm_self hx q1 q2, fun q => end_self he q⟩
end Go.Ch
end
section
set_option linter.unusedVariables false
set_option linter.unusedSimpArgs false
set_option maxRecDepth 100000
set_option maxHeartbeats 4000000
open Go Go.Proofs Go.Ab
namespace Go.Ch
theorem fc_index (d : Doc) (k : Int) (hl : d.nodes.length ≤ 1048576) (hs : SortN d.nodes) : FC Tryz.prog 94 [.t (docT d), VI k] (app emp []) (VI (idxN d.nodes k)) (app emp []) := by
 refine .go Tryz.f94 ?_
 refine .bp [.r [], .r [(2, X (Xc0 (fc_findN d k (by assumption) (by assumption)) X0))], .r []] (hasN (d).nodes k) (fun h2 => ?_) (fun h2 => ?_)
 ·
  have e1 : ((idxN d.nodes k) : Int) = (lobN (d).nodes k : Int) := by
   unfold idxN; first | rw [if_pos (by assumption)] | rw [if_neg (by simp_all)]
  exact .finE [.r []] [] (fun z0 : Int => (VI z0, [])) _ _ e1
 ·
  have e2 : ((idxN d.nodes k) : Int) = -1 := by
   unfold idxN; first | rw [if_pos (by assumption)] | rw [if_neg (by simp_all)]
  exact .finE [.r []] [] (fun z0 : Int => (VI z0, [])) _ _ e2

theorem fc_indexY (d : Doc) (k : Int) (hl : d.nodes.length ≤ 1048576) (hs : SortN d.nodes) (h : hasN d.nodes k = true) : FC Tryz.prog 94 [.t (docT d), VI k] (app emp []) (VI (lobN d.nodes k : Int)) (app emp []) := by
  have := fc_index d k hl hs
  unfold idxN at this
  rw [if_pos h] at this
  exact this

theorem fc_open (d : Doc) (hV : DocV d) : FC Tryz.prog 51 [.t (docT d)] (app emp []) (.t (bookT ({ nodes := stylesD d } : Book))) (app emp []) := by
 refine .go Tryz.f51 ?_
 have hb := hV.b
 have hbl := hb.len
 have hs := hV.srt
 have hn := tree_len hV
 refine .rng [.r [], .r [], .r [(1, X (Xc1 32 (fc_tree d (by assumption)) X0))], .le (.nB 16 0 9)] encP default (treeV d) (fun k => [(0, .box [VL 9 nodeT d.nodes]), (8, .box [VN]), (16, .box [.row 40 ((styL d k).length)]), (40, OR 9 nodeT (styL d k))]) [(32, .box [VL 9 nodeT ((d).nodes)])] (fun _ => none) ((treeV d).length) 999 41 [(1, .ptr 0 0), (2, .ptr 8 0), (3, .ptr 16 0), (7, .fn 37 [.ptr 32 0])] [1, 2, 3] (fun k => ([(1, .ptr 0 0), (3, .ptr 16 0), (4, VI (((treeV d).getD k default).id))], [(0, .box [VL 9 nodeT d.nodes]), (8, .box [VN]), (16, .box [.row 40 ((styL d k).length)]), (40, OR 9 nodeT (styL d k))])) 49 (iter_of (d := d) (gf := 37) (caps := [.ptr 32 0]) (C := [(32, .box [VL 9 nodeT d.nodes])]) (e := 999) (res := .tup []) (J := (fun _ => none)) (m := (treeV d).length) (Nat.le_refl _) (fun _ _ _ => rfl) (.inl rfl) rfl (fun Y hY ha => (fc_treeB d Y hY hV [] ha).ren [(0, 999), (1, 32)] [(0, 999), (1, 32)] (by kernel_rfl) (by kernel_rfl) (by kernel_rfl) (by kernel_rfl) (by kernel_rfl) (by kernel_rfl))) (fun k hk hj => ⟨by kernel_rfl, ?_, ?_⟩) .normal ?_ (fun _ => by kernel_rfl)
 ·
  exact .rass [.r []] [(0, 0), (8, 8), (16, 16), (40, 40)]
 ·
  have hkl := styL_len d k
  have hht := tree_has hV (getDX_mem (l := treeV d) (i := k) hk)
  obtain ⟨hlt, hid⟩ := hasN_iff.1 hht
  refine .bp [.r [(4, X (Xc0 (fc_indexY d (((treeV d).getD k default).id) (by assumption) (by assumption) (by assumption)) X0)), (5, X (Xi nodeT d.nodes (lobN (d).nodes (((treeV d).getD k default).id) : Int)))], .r []] ((((d.nodes.getD (lobN (d).nodes (((treeV d).getD k default).id)) default)).kind) == 11) (fun h5 => ?_) (fun h5 => ?_)
  ·
   exact .rend [.r [(4, X (rowC nodeT [((d.nodes.getD (lobN (d).nodes (((treeV d).getD k default).id)) default))] (XapB 9 nodeT 40 (styL d k) [((d.nodes.getD (lobN (d).nodes (((treeV d).getD k default).id)) default))])))]] [(0, 0), (8, 8), (16, 16), (40, 40)] .normal [(0, .box [VL 9 nodeT d.nodes]), (8, .box [VN]), (16, .box [.row 40 (((styL d k) ++ [((d.nodes.getD (lobN (d).nodes (((treeV d).getD k default).id)) default))]).length)]), (40, OR 9 nodeT ((styL d k) ++ [((d.nodes.getD (lobN (d).nodes (((treeV d).getD k default).id)) default))]))] rfl (by rw [styL_succ hk]; unfold styO ndV; first | (rw [if_pos (by omega)]; rfl) | (rw [if_neg (by omega)]; simp))
  ·
   exact .rend [] [(0, 0), (8, 8), (16, 16), (40, 40)] .normal [(0, .box [VL 9 nodeT d.nodes]), (8, .box [VN]), (16, .box [.row 40 ((styL d k).length)]), (40, OR 9 nodeT (styL d k))] rfl (by rw [styL_succ hk]; unfold styO ndV; first | (rw [if_pos (by omega)]; rfl) | (rw [if_neg (by omega)]; simp))
 have e1 : (({ nodes := stylesD d } : Book) : Book) = ({ nodes := (styL d ((treeV d).length)) } : Book) := by
  rfl
 exact .finVE [.r []] [.fR 0 [(((styL d ((treeV d).length)).length) : Nat) = (List.map nodeT (styL d ((treeV d).length))).length] ⟨lm, trivial⟩] [] (fun z0 : Book => (.t (bookT z0), [])) _ _ e1

theorem fc_findB (b : Book) (nm u : ByteArray) (hl : b.nodes.length ≤ 1048576) : FC Tryz.prog 160 [.t (bookT b), VS nm, VS u] (app emp []) (.tup [.t (nodeT ((findS b.nodes nm u).getD default)), VB ((findS b.nodes nm u).isSome)]) (app emp []) := by
 refine .go Tryz.f160 ?_
 refine .loop (α := Nat) [.r [], .r [(2, X (Xl nodeT b.nodes))]] 56 (fun i => ([(1, VS nm), (2, VS u), (6, .ptr 8 0), (11, VL 9 nodeT b.nodes), (12, VI (b.nodes.length : Int)), (13, VI (i : Int))], [(8, .box [VI 0, VI 0, VN, VN, VI 0, VI 0, VN, VN, VN])])) (fun i => i ≤ b.nodes.length ∧ findS b.nodes nm u = findS (b.nodes.drop i) nm u) (fun i => b.nodes.length - i) (0 : Nat) ?_ ?_
 ·
  exact ⟨by omega, rfl⟩
 rintro i I2 ih2
 try dsimp only at I2
 refine .bp [.r []] (decide ((i : Int) < (b.nodes.length : Int))) (fun h2 => ?_) (fun h2 => ?_)
 ·
  refine .bp [.r [(0, X (Xi nodeT b.nodes (i : Int)))], .r [(4, Xv 1 (!(seq nm ({ data := #[] }))) X0), (5, Xv 1 (!(seq nm ({ data := #[] }))) (Xc0 (fc_get (((b.nodes.getD i default)).attrs) ({ data := #[110, 97, 109, 101] })) X0)), (7, Xv 2 (!(seq nm ({ data := #[] }))) X0), (8, X (Xk (!(seq nm ({ data := #[] }))))), (11, Xv 1 (!(seq nm ({ data := #[] })) && seq (getA (((b.nodes.getD i default)).attrs) ({ data := #[110, 97, 109, 101] }) 0) nm) X0), (12, Xv 1 (!(seq nm ({ data := #[] })) && seq (getA (((b.nodes.getD i default)).attrs) ({ data := #[110, 97, 109, 101] }) 0) nm) (Xc0 (fc_get (((b.nodes.getD i default)).attrs) ({ data := #[111, 102] })) X0)), (14, Xv 2 (!(seq nm ({ data := #[] })) && seq (getA (((b.nodes.getD i default)).attrs) ({ data := #[110, 97, 109, 101] }) 0) nm) X0), (15, X (Xk (!(seq nm ({ data := #[] })) && seq (getA (((b.nodes.getD i default)).attrs) ({ data := #[110, 97, 109, 101] }) 0) nm)))]] ((!(seq nm ({ data := #[] })) && seq (getA (((b.nodes.getD i default)).attrs) ({ data := #[110, 97, 109, 101] }) 0) nm) && seq (getA (((b.nodes.getD i default)).attrs) ({ data := #[111, 102] }) 0) u) (fun h4 => ?_) (fun h4 => ?_)
  ·
   have e1 : (((findS b.nodes nm u).getD default) : Node) = ((b.nodes.getD i default)) := by
    first | (rw [I2.2, findS_hit (by omega) (by unfold pS; rw [h4.1.1, h4.1.2, h4.2]; rfl)]; rfl) | (rw [I2.2, findS_end (by omega)]; rfl)
   have e2 : (((findS b.nodes nm u).isSome) : Bool) = true := by
    first | (rw [I2.2, findS_hit (by omega) (by unfold pS; rw [h4.1.1, h4.1.2, h4.2]; rfl)]; rfl) | (rw [I2.2, findS_end (by omega)]; rfl)
   exact .finVE [.r []] [] [] (fun ((z0, z1) : Node × Bool) => (.tup [.t (nodeT z0), VB z1], [])) _ _ (pr e1 e2)
  ·
   refine .back [.r [(0, X (Xn ((i : Int) + 1)))]] [(8, 8)] (ih2 ((i + 1) : Nat) ?_ ?_)
   ·
    refine ⟨by omega, I2.2.trans (findS_next (by omega) ?_)⟩
    unfold pS; rcases h4 with (q | q) | q <;> rw [q] <;> simp
   ·
    ((try dsimp only); omega)
 ·
  have e3 : (((findS b.nodes nm u).getD default) : Node) = ({ id := 0, kind := 0, attrs := [], flow := [], grid := ({ rows := 0, cols := 0, cells := [], merges := [] } : Grid), draw := [] } : Node) := by
   first | (rw [I2.2, findS_hit (by omega) (by unfold pS; rw [h4.1.1, h4.1.2, h4.2]; rfl)]; rfl) | (rw [I2.2, findS_end (by omega)]; rfl)
  have e4 : (((findS b.nodes nm u).isSome) : Bool) = false := by
   first | (rw [I2.2, findS_hit (by omega) (by unfold pS; rw [h4.1.1, h4.1.2, h4.2]; rfl)]; rfl) | (rw [I2.2, findS_end (by omega)]; rfl)
  exact .finVE [.r [(0, X (Xf [(2, 2), (3, 3), (6, 5), (7, 4), (8, 8)]))]] [] [] (fun ((z0, z1) : Node × Bool) => (.tup [.t (nodeT z0), VB z1], [])) _ _ (pr e3 e4)
end Go.Ch
end
section
set_option linter.unusedVariables false
set_option linter.unusedSimpArgs false
set_option maxRecDepth 100000
set_option maxHeartbeats 4000000
open Go Go.Proofs Go.Ab
namespace Go.Ch
theorem fc_chC (m n : Node) : FC Tryz.prog 162 [.t (nodeT m), .ptr 0 0] (app emp [(0, .box [VI n.id, VI n.kind, VL 2 attrT n.attrs, VL 3 elemT n.flow, VI n.grid.rows, VI n.grid.cols, VL 5 cellT n.grid.cells, VL 4 rectT n.grid.merges, VL 8 dopT n.draw])]) (VB (m.id == n.id)) (app emp [(0, .box [VI n.id, VI n.kind, VL 2 attrT n.attrs, VL 3 elemT n.flow, VI n.grid.rows, VI n.grid.cols, VL 5 cellT n.grid.cells, VL 4 rectT n.grid.merges, VL 8 dopT n.draw])]) := by
 refine .go Tryz.f162 ?_
 exact .fin [.r [], .r []] [(0, 0)]

theorem fc_idxC (l : List Node) (n : Node) (hn : l.length ≤ 100000000000) : FC Tryz.prog 80 [.row 0 l.length, .fn 162 [.ptr 1 0]] (app emp [(0, OR 9 nodeT l), (1, .box [VI n.id, VI n.kind, VL 2 attrT n.attrs, VL 3 elemT n.flow, VI n.grid.rows, VI n.grid.cols, VL 5 cellT n.grid.cells, VL 4 rectT n.grid.merges, VL 8 dopT n.draw])]) (VI (idxF (fun m : Node => m.id == n.id) l 0)) (app emp [(0, OR 9 nodeT l), (1, .box [VI n.id, VI n.kind, VL 2 attrT n.attrs, VL 3 elemT n.flow, VI n.grid.rows, VI n.grid.cols, VL 5 cellT n.grid.cells, VL 4 rectT n.grid.merges, VL 8 dopT n.draw])]) := by
 refine .go Tryz.f80 ?_
 refine .loop (α := Nat) [.r [], .r []] 34 (fun i => ([(0, .row 0 l.length), (1, .fn 162 [.ptr 1 0]), (7, VI (l.length : Int)), (8, VI (i : Int))], [(0, OR 9 nodeT l), (1, .box [VI n.id, VI n.kind, VL 2 attrT n.attrs, VL 3 elemT n.flow, VI n.grid.rows, VI n.grid.cols, VL 5 cellT n.grid.cells, VL 4 rectT n.grid.merges, VL 8 dopT n.draw])])) (fun i => i ≤ l.length ∧ idxF (fun m : Node => m.id == n.id) l 0 = idxF (fun m : Node => m.id == n.id) l i) (fun i => l.length - i) (0 : Nat) ?_ ?_
 ·
  exact ⟨by omega, rfl⟩
 rintro i I2 ih2
 try dsimp only at I2
 refine .bp [.r []] (decide ((i : Int) < (l.length : Int))) (fun h2 => ?_) (fun h2 => ?_)
 ·
  refine .bp [.r [], .r [(3, X (Xp nodeT l (i : Int))), (4, X (Xe nodeT l i)), (5, X (Xc4 [(0, 1)] (fc_chC ((l.getD i default)) ({ id := n.id, kind := n.kind, attrs := n.attrs, flow := n.flow, grid := ({ rows := n.grid.rows, cols := n.grid.cols, cells := n.grid.cells, merges := n.grid.merges } : Grid), draw := n.draw } : Node)) X0))]] ((((l.getD i default))).id == n.id) (fun h4 => ?_) (fun h4 => ?_)
  ·
   have e1 : ((idxF (fun m : Node => m.id == n.id) l 0) : Int) = (i : Int) := by
    rw [I2.2, idxF, if_pos (by omega), if_pos (by simpa using h4)]
   exact .finE [.r []] [(0, 0), (1, 1)] (fun z0 : Int => (VI z0, [(0, OR 9 nodeT l), (1, .box [VI n.id, VI n.kind, VL 2 attrT n.attrs, VL 3 elemT n.flow, VI n.grid.rows, VI n.grid.cols, VL 5 cellT n.grid.cells, VL 4 rectT n.grid.merges, VL 8 dopT n.draw])])) _ _ e1
  ·
   refine .back [.r [(0, X (Xn ((i : Int) + 1)))]] [(0, 0), (1, 1)] (ih2 ((i + 1) : Nat) ?_ ?_)
   ·
    refine ⟨by omega, ?_⟩
    rw [I2.2, idxF, if_pos (by omega), if_neg (by simpa using h4)]
   ·
    ((try dsimp only); omega)
 ·
  have e2 : ((idxF (fun m : Node => m.id == n.id) l 0) : Int) = -1 := by
   rw [I2.2, idxF, if_neg (by omega)]
  exact .finE [.r []] [(0, 0), (1, 1)] (fun z0 : Int => (VI z0, [(0, OR 9 nodeT l), (1, .box [VI n.id, VI n.kind, VL 2 attrT n.attrs, VL 3 elemT n.flow, VI n.grid.rows, VI n.grid.cols, VL 5 cellT n.grid.cells, VL 4 rectT n.grid.merges, VL 8 dopT n.draw])])) _ _ e2

theorem fc_ctF (l : List Node) (n : Node) (hn : l.length ≤ 100000000000) : FC Tryz.prog 161 [.row 0 l.length, .fn 162 [.ptr 1 0]] (app emp [(0, OR 9 nodeT l), (1, .box [VI n.id, VI n.kind, VL 2 attrT n.attrs, VL 3 elemT n.flow, VI n.grid.rows, VI n.grid.cols, VL 5 cellT n.grid.cells, VL 4 rectT n.grid.merges, VL 8 dopT n.draw])]) (VB (l.any (fun m : Node => m.id == n.id))) (app emp [(0, OR 9 nodeT l), (1, .box [VI n.id, VI n.kind, VL 2 attrT n.attrs, VL 3 elemT n.flow, VI n.grid.rows, VI n.grid.cols, VL 5 cellT n.grid.cells, VL 4 rectT n.grid.merges, VL 8 dopT n.draw])]) := by
 refine .go Tryz.f161 ?_
 have e1 : ((l.any (fun m : Node => m.id == n.id)) : Bool) = decide ((idxF (fun m : Node => m.id == n.id) l 0) ≥ 0) := by
  exact idx_any _
 exact .finE [.r [], .r [(2, X (Xc4 [(0, 0), (1, 1)] (fc_idxC l ({ id := n.id, kind := n.kind, attrs := n.attrs, flow := n.flow, grid := ({ rows := n.grid.rows, cols := n.grid.cols, cells := n.grid.cells, merges := n.grid.merges } : Grid), draw := n.draw } : Node) (by omega)) X0))]] [(0, 0), (1, 1)] (fun z0 : Bool => (VB z0, [(0, OR 9 nodeT l), (1, .box [VI n.id, VI n.kind, VL 2 attrT n.attrs, VL 3 elemT n.flow, VI n.grid.rows, VI n.grid.cols, VL 5 cellT n.grid.cells, VL 4 rectT n.grid.merges, VL 8 dopT n.draw])])) _ _ e1

theorem fc_chain (b : Book) (nm u : ByteArray) (hl : b.nodes.length ≤ 1048576) : FC Tryz.prog 131 [.t (bookT b), VS nm, VS u] (app emp []) (VL 9 nodeT (chnS b.nodes nm u)) (app emp []) := by
 refine .go Tryz.f131 ?_
 refine .loop (α := ByteArray × (List Node)) [.r [], .r [], .le (.nR 7 9)] 25 (fun (q, o) => ([(1, VS q), (2, VS u), (3, .ptr 0 0), (7, .row 24 o.length)], [(0, .box [VL 9 nodeT b.nodes]), (24, OR 9 nodeT o)])) (fun (q, o) => ChI b.nodes u nm q o) (fun (q, o) => b.nodes.length + 1 - o.length) (nm, []) ?_ ?_
 ·
  exact ChI.start _ _ _
 rintro ⟨q, o⟩ I2 ih2
 try dsimp only at I2
 have ol := I2.len
 refine .bp [.r [(3, X (Xc1 49 (fc_findB b q u (by assumption)) X0))], .r [(5, Xv 2 (!(!((findS (b).nodes q u).isSome))) (Xc4 [(0, 24), (1, 81)] (fc_ctF o ({ id := ((((findS (b).nodes q u).getD default)).id), kind := ((((findS (b).nodes q u).getD default)).kind), attrs := ((((findS (b).nodes q u).getD default)).attrs), flow := ((((findS (b).nodes q u).getD default)).flow), grid := ({ rows := (((((findS (b).nodes q u).getD default)).grid).rows), cols := (((((findS (b).nodes q u).getD default)).grid).cols), cells := (((((findS (b).nodes q u).getD default)).grid).cells), merges := (((((findS (b).nodes q u).getD default)).grid).merges) } : Grid), draw := ((((findS (b).nodes q u).getD default)).draw) } : Node) (by omega)) X0)), (6, X (Xk' (!((findS (b).nodes q u).isSome))))]] (!((findS (b).nodes q u).isSome) || ((o).any (fun m : Node => m.id == ((((findS (b).nodes q u).getD default)).id)))) (fun h3 => ?_) (fun h3 => ?_)
 ·
  have e1 : ((chnS b.nodes nm u) : List Node) = o := by
   rcases hf : (findS b.nodes q u) with _ | n
   · exact I2.none hf
   · rw [hf] at h3
     exact I2.stop hf (by simpa using h3)
  exact .finE [.r [], .le (.fr 6 [(o.length : Nat) = (List.map nodeT o).length] ⟨lm, trivial⟩)] [] (fun z0 : List Node => (VL 9 nodeT z0, [])) _ _ e1
 ·
  refine .back [.r [(3, X (rowC nodeT [(((findS (b).nodes q u).getD default))] (XapB 9 nodeT 24 o [(((findS (b).nodes q u).getD default))])))], .r [(2, X (Xc0 (fc_get ((((findS (b).nodes q u).getD default)).attrs) ({ data := #[98, 97, 115, 101] })) X0))]] [(0, 0), (24, 24)] (ih2 ((getA ((((findS (b).nodes q u).getD default)).attrs) ({ data := #[98, 97, 115, 101] }) 0), (o ++ [(((findS (b).nodes q u).getD default))])) ?_ ?_)
  ·
   rcases hf : (findS b.nodes q u) with _ | n
   · rw [hf] at h3; simp at h3
   · rw [hf] at h3
     exact I2.step hf (by simpa using h3)
  ·
   simp only [List.length_append, List.length_cons, List.length_nil]; omega
end Go.Ch
end
section
set_option linter.unusedVariables false
set_option linter.unusedSimpArgs false
set_option maxRecDepth 100000
set_option maxHeartbeats 4000000
open Go Go.Proofs Go.Ab
namespace Go.Ch
theorem fc_bwd0 (l : List Node) : FC Tryz.prog 132 [VL 9 nodeT l] (app emp []) (.fn 163 [.ptr 0 0]) (app emp [(0, .box [VL 9 nodeT l])]) := by
 refine .go Tryz.f132 ?_
 refine .len 0 (fun hl0 => ?_)
 exact .fin [.r [], .r []] [(0, 0)]

theorem fc_bwd (Y : YSpec) (hY : YCalls Tryz.prog Y) (l : List V9) (hl : l.length ≤ 1048576) (hg : ∀ p, Y.goes p = true) (ha : ∀ k, k < l.length → Y.adm (((dnL l.length).take k).map (bwE l)) (bwE l ((dnL l.length).getD k default))) : FC Tryz.prog 163 [.yl 0, .ptr 1 0] (app emp [(0, .ext Y []), (1, .box [VL 9 v9T l])]) (.tup []) (app emp [(0, .ext Y (((dnL l.length).take l.length).map (bwE l))), (1, .box [VL 9 v9T l])]) := by
 refine .go Tryz.f163 ?_
 refine .loop (α := Nat × List (List Tree)) [.r [(1, X (Xl v9T l)), (2, X (Xn ((l.length : Int) - 1)))]] 34 (fun (m, p) => ([(0, .yl 0), (1, .ptr 1 0), (3, VI ((m : Int) - 1))], [(0, .ext Y p), (1, .box [VL 9 v9T l])])) (fun (m, p) => m ≤ l.length ∧ p = (((dnL l.length).take (l.length - m)).map (bwE l))) (fun (m, p) => m) (l.length, []) ?_ ?_
 ·
  exact ⟨Nat.le_refl _, by rw [Nat.sub_self]; rfl⟩
 rintro ⟨m, p⟩ I1 ih1
 try dsimp only at I1
 refine .bp [.r []] (decide (((m : Int) - 1) ≥ 0)) (fun h1 => ?_) (fun h1 => ?_)
 ·
  have hadm : Y.adm p (bwE l (m - 1)) := by
    have := ha (l.length - m) (by omega)
    rw [dn_at (by omega), show l.length - 1 - (l.length - m) = m - 1 by omega] at this
    rw [I1.2]; exact this
  refine .bp [.le (.eq 3 (VI ((m : Int) - 1)) (VI ((m - 1 : Nat) : Int)) (.of_eq (by rw [show ((m : Int) - 1) = ((m - 1 : Nat) : Int) by omega]))), .r [(4, X (Xi v9T l ((m - 1 : Nat) : Int))), (6, X (Xy Tryz.prog Y p (bwE l (m - 1))) (⟨hY, hadm⟩))]] (!(Y.goes (p ++ [(bwE l (m - 1))]))) (fun h3 => ?_) (fun h3 => ?_)
  ·
   exfalso
   rw [hg] at h3; cases h3
  ·
   refine .back [.r [(1, X (Xn (((m - 1 : Nat) : Int) - 1)))]] [(0, 0), (1, 1)] (ih1 ((m - 1), (p ++ [(bwE l (m - 1))])) ?_ ?_)
   ·
    refine ⟨by omega, ?_⟩
    rw [I1.2, dn_take (n := l.length) (m := m - 1) (by omega), show l.length - 1 - (m - 1) = l.length - m by omega, List.map_append]; rfl
   ·
    ((try dsimp only); omega)
 ·
  have e1 : ((((dnL l.length).take l.length).map (bwE l)) : List (List Tree)) = p := by
   rw [I1.2, show l.length - m = l.length by omega]
  exact .finE [] [(0, 0), (1, 1)] (fun z0 : List (List Tree) => (.tup [], [(0, .ext Y z0), (1, .box [VL 9 v9T l])])) _ _ e1

theorem fc_given (b : Book) (nm u : ByteArray) (hl : b.nodes.length ≤ 1048576) (hat : attN b.nodes ≤ 1048576) : FC Tryz.prog 96 [.t (bookT b), VS nm, VS u] (app emp []) (VL 2 attrT (givS b.nodes nm u)) (app emp []) := by
 refine .go Tryz.f96 ?_
 have hcl := chnS_len b.nodes nm u
 have hca := chnS_att b.nodes nm u
 refine .mid [.r [], .r [], .r [(3, X (Xc1 48 (fc_chain b nm u (by assumption)) X0))], .r [(1, X (Xc1 72 (fc_bwd0 (chnS (b).nodes nm u)) X0))]] ?_
 refine .weak (Le.boxW (b := 16) (i := 0) (cs := [VN]) (v := VN) (v' := .t (.lst 2 [])) (by kernel_rfl) rfl (Weak.nilL (by decide))) ?_
 refine .shal nodeT (chnS (b).nodes nm u) 72 0 [VL 9 nodeT (chnS (b).nodes nm u)] (fun _ => ⟨_, rfl⟩) (fun l' Y hYd => ?_)
 have hl2 : l'.length = (chnS b.nodes nm u).length := hYd.len
 refine .rng [] (bwE l') default (dnL l'.length) (fun k => [(16, .box [VL 2 attrT (givK (chnS b.nodes nm u) k)]), (80, .ext Y [])]) [(72, .box [VL 9 v9T (l')])] (fun _ => none) (l'.length) 999 81 [(7, .ptr 16 0), (19, .fn 163 [.ptr 72 0])] [7] (fun k => ([(7, .ptr 16 0), (10, .ptr 81 0)], [(16, .box [VL 2 attrT (givK (chnS b.nodes nm u) k)]), (80, .ext Y []), (81, .box [VI ((((chnS (b).nodes nm u).getD ((dnL l'.length).getD k default) default)).id), VI ((((chnS (b).nodes nm u).getD ((dnL l'.length).getD k default) default)).kind), VL 2 attrT ((((chnS (b).nodes nm u).getD ((dnL l'.length).getD k default) default)).attrs), VL 3 elemT ((((chnS (b).nodes nm u).getD ((dnL l'.length).getD k default) default)).flow), VI (((((chnS (b).nodes nm u).getD ((dnL l'.length).getD k default) default)).grid).rows), VI (((((chnS (b).nodes nm u).getD ((dnL l'.length).getD k default) default)).grid).cols), VL 5 cellT (((((chnS (b).nodes nm u).getD ((dnL l'.length).getD k default) default)).grid).cells), VL 4 rectT (((((chnS (b).nodes nm u).getD ((dnL l'.length).getD k default) default)).grid).merges), VL 8 dopT ((((chnS (b).nodes nm u).getD ((dnL l'.length).getD k default) default)).draw)])])) 97 ((⟨fun Y h1 h2 hY => (fc_bwd Y hY l' (by omega) (fun p => by rw [h1]; rfl) (fun k hk => h2 k (by rw [dn_len]; exact hk) rfl)).ren [(0, 999), (1, 72)] [(0, 999), (1, 72)] (by kernel_rfl) (by kernel_rfl) (by kernel_rfl) (by kernel_rfl) (by kernel_rfl) (by kernel_rfl), by rw [dn_len]; exact Nat.le_refl _⟩ : Iter Tryz.prog 163 [.ptr 72 0] [(72, .box [VL 9 v9T l'])] 999 (bwE l') default (dnL l'.length) (fun _ => none) l'.length (.tup []))) (fun k hk hj => ⟨by kernel_rfl, ?_, ?_⟩) .normal ?_ (fun _ => by kernel_rfl)
 ·
  refine .weak (deep_le hYd (i := ((dnL l'.length).getD k default)) (by have := dn_len l'.length; have q := dn_at (n := l'.length) (k := k) (by omega); omega) 21 80 (pre := []) (by kernel_rfl) (by kernel_rfl)) ?_
  exact .rass [.r []] [(16, 16), (80, 80), (81, 81)]
 ·
  have hkn : k < l'.length := by rw [dn_len] at hk; exact hk
  have hdn := dn_at hkn
  have hgk := givK_le (chnS b.nodes nm u) k (by omega)
  have hga := attN_mem (getDX_mem (l := (chnS b.nodes nm u)) (i := (dnL l'.length).getD k default) (by omega))
  refine .loop (α := Nat × (List Attr)) [.r [], .r [(2, X (Xl attrT ((((chnS (b).nodes nm u).getD ((dnL l'.length).getD k default) default)).attrs)))], .le (.nR 11 2)] 138 (fun (i, c) => ([(7, .ptr 16 0), (11, .row 137 c.length), (23, VL 2 attrT ((((chnS (b).nodes nm u).getD ((dnL l'.length).getD k default) default)).attrs)), (24, VI (((((chnS (b).nodes nm u).getD ((dnL l'.length).getD k default) default)).attrs).length : Int)), (25, VI (i : Int))], [(16, .box [VL 2 attrT (givK (chnS b.nodes nm u) k)]), (80, .ext Y []), (137, OR 2 attrT c)])) (fun (i, c) => i ≤ ((chnS b.nodes nm u).getD ((dnL l'.length).getD k default) default).attrs.length ∧ c = pcutL (((chnS b.nodes nm u).getD ((dnL l'.length).getD k default) default).attrs.take i)) (fun (i, c) => ((chnS b.nodes nm u).getD ((dnL l'.length).getD k default) default).attrs.length - i) (0, []) ?_ ?_
  ·
   exact ⟨by omega, rfl⟩
  rintro ⟨i, c⟩ I7 ih7
  try dsimp only at I7
  have ol : c.length ≤ i := by rw [I7.2]; exact Nat.le_trans (pcutL_len _) (by rw [List.length_take]; omega)
  refine .bp [.r []] (decide ((i : Int) < (((((chnS (b).nodes nm u).getD ((dnL l'.length).getD k default) default)).attrs).length : Int))) (fun h7 => ?_) (fun h7 => ?_)
  ·
   refine .bp [.r [(0, X (Xi attrT ((((chnS (b).nodes nm u).getD ((dnL l'.length).getD k default) default)).attrs) (i : Int)))], .r [(6, Xv 1 (decide (((((((((chnS (b).nodes nm u).getD ((dnL l'.length).getD k default) default)).attrs).getD i default)).name).size : Int) > 2)) X0), (7, Xv 1 (decide (((((((((chnS (b).nodes nm u).getD ((dnL l'.length).getD k default) default)).attrs).getD i default)).name).size : Int) > 2)) (Xa (Xc ((0:Int) ≤ 0)) (Xa (Xc ((0 : Int) ≤ 2)) (Xc ((2 : Int) ≤ ((((((((chnS (b).nodes nm u).getD ((dnL l'.length).getD k default) default)).attrs).getD i default)).name).size : Int))))) (fun hg => by (try simp only [decide_eq_true_eq, decide_eq_false_iff_not, Int.not_lt, Int.not_le, gt_iff_lt] at hg); exact (by refine ⟨by decide, ?_, ?_⟩ <;> omega))), (8, Xv 1 (decide (((((((((chnS (b).nodes nm u).getD ((dnL l'.length).getD k default) default)).attrs).getD i default)).name).size : Int) > 2)) X0), (9, X (Xk (decide (((((((((chnS (b).nodes nm u).getD ((dnL l'.length).getD k default) default)).attrs).getD i default)).name).size : Int) > 2)))), (12, Xv 1 (decide (((((((((chnS (b).nodes nm u).getD ((dnL l'.length).getD k default) default)).attrs).getD i default)).name).size : Int) > 2) && seq ((((((((chnS (b).nodes nm u).getD ((dnL l'.length).getD k default) default)).attrs).getD i default)).name).extract ((0 : Int)).toNat ((2 : Int)).toNat) ({ data := #[112, 46] })) X0), (13, Xv 1 (decide (((((((((chnS (b).nodes nm u).getD ((dnL l'.length).getD k default) default)).attrs).getD i default)).name).size : Int) > 2) && seq ((((((((chnS (b).nodes nm u).getD ((dnL l'.length).getD k default) default)).attrs).getD i default)).name).extract ((0 : Int)).toNat ((2 : Int)).toNat) ({ data := #[112, 46] })) (Xa (Xc ((0:Int) ≤ 2)) (Xa (Xc ((2 : Int) ≤ ((((((((chnS (b).nodes nm u).getD ((dnL l'.length).getD k default) default)).attrs).getD i default)).name).size : Int))) (Xc ((((((((((chnS (b).nodes nm u).getD ((dnL l'.length).getD k default) default)).attrs).getD i default)).name).size : Int) : Int) ≤ ((((((((chnS (b).nodes nm u).getD ((dnL l'.length).getD k default) default)).attrs).getD i default)).name).size : Int))))) (fun hg => by (try simp only [decide_eq_true_eq, decide_eq_false_iff_not, Int.not_lt, Int.not_le, gt_iff_lt, Bool.and_eq_true, Bool.and_eq_false_iff, Bool.not_eq_true', Bool.not_eq_false'] at hg); exact (by refine ⟨by decide, ?_, ?_⟩ <;> omega))), (14, Xv 1 (decide (((((((((chnS (b).nodes nm u).getD ((dnL l'.length).getD k default) default)).attrs).getD i default)).name).size : Int) > 2) && seq ((((((((chnS (b).nodes nm u).getD ((dnL l'.length).getD k default) default)).attrs).getD i default)).name).extract ((0 : Int)).toNat ((2 : Int)).toNat) ({ data := #[112, 46] })) (Xc0 (fc_name ((((((((chnS (b).nodes nm u).getD ((dnL l'.length).getD k default) default)).attrs).getD i default)).name).extract ((2 : Int)).toNat ((((((((((chnS (b).nodes nm u).getD ((dnL l'.length).getD k default) default)).attrs).getD i default)).name).size : Int) : Int)).toNat)) X0)), (15, X (Xk (decide (((((((((chnS (b).nodes nm u).getD ((dnL l'.length).getD k default) default)).attrs).getD i default)).name).size : Int) > 2) && seq ((((((((chnS (b).nodes nm u).getD ((dnL l'.length).getD k default) default)).attrs).getD i default)).name).extract ((0 : Int)).toNat ((2 : Int)).toNat) ({ data := #[112, 46] }))))]] ((decide (((((((((chnS (b).nodes nm u).getD ((dnL l'.length).getD k default) default)).attrs).getD i default)).name).size : Int) > 2) && seq ((((((((chnS (b).nodes nm u).getD ((dnL l'.length).getD k default) default)).attrs).getD i default)).name).extract ((0 : Int)).toNat ((2 : Int)).toNat) ({ data := #[112, 46] })) && (nameGo ((((((((chnS (b).nodes nm u).getD ((dnL l'.length).getD k default) default)).attrs).getD i default)).name).extract ((2 : Int)).toNat ((((((((((chnS (b).nodes nm u).getD ((dnL l'.length).getD k default) default)).attrs).getD i default)).name).size : Int) : Int)).toNat))) (fun h9 => ?_) (fun h9 => ?_)
   ·
    refine .back [.r [(3, X (Xa (Xc ((0:Int) ≤ 2)) (Xa (Xc ((2 : Int) ≤ ((((((((chnS (b).nodes nm u).getD ((dnL l'.length).getD k default) default)).attrs).getD i default)).name).size : Int))) (Xc ((((((((((chnS (b).nodes nm u).getD ((dnL l'.length).getD k default) default)).attrs).getD i default)).name).size : Int) : Int) ≤ ((((((((chnS (b).nodes nm u).getD ((dnL l'.length).getD k default) default)).attrs).getD i default)).name).size : Int))))) (by refine ⟨by decide, ?_, ?_⟩ <;> omega)), (8, X (rowC attrT [({ name := ((((((((chnS (b).nodes nm u).getD ((dnL l'.length).getD k default) default)).attrs).getD i default)).name).extract ((2 : Int)).toNat ((((((((((chnS (b).nodes nm u).getD ((dnL l'.length).getD k default) default)).attrs).getD i default)).name).size : Int) : Int)).toNat), val := ((((((chnS (b).nodes nm u).getD ((dnL l'.length).getD k default) default)).attrs).getD i default)).val } : Attr)] (Xap 2 attrT 137 c [({ name := ((((((((chnS (b).nodes nm u).getD ((dnL l'.length).getD k default) default)).attrs).getD i default)).name).extract ((2 : Int)).toNat ((((((((((chnS (b).nodes nm u).getD ((dnL l'.length).getD k default) default)).attrs).getD i default)).name).size : Int) : Int)).toNat), val := ((((((chnS (b).nodes nm u).getD ((dnL l'.length).getD k default) default)).attrs).getD i default)).val } : Attr)])))], .r [(0, X (Xn ((i : Int) + 1)))]] [(16, 16), (80, 80), (137, 137)] (ih7 ((i + 1), (c ++ [({ name := ((((((((chnS (b).nodes nm u).getD ((dnL l'.length).getD k default) default)).attrs).getD i default)).name).extract ((2 : Int)).toNat ((((((((((chnS (b).nodes nm u).getD ((dnL l'.length).getD k default) default)).attrs).getD i default)).name).size : Int) : Int)).toNat), val := ((((((chnS (b).nodes nm u).getD ((dnL l'.length).getD k default) default)).attrs).getD i default)).val } : Attr)])) ?_ ?_)
    ·
     refine ⟨by omega, ?_⟩
     rw [I7.2, pcut_succ (by omega)]
     first | (rw [show pcut (((chnS b.nodes nm u).getD ((dnL l'.length).getD k default) default).attrs.getD i default) = _ from if_pos ⟨by omega, h9.1.2, h9.2⟩]; rfl) | (rw [show pcut (((chnS b.nodes nm u).getD ((dnL l'.length).getD k default) default).attrs.getD i default) = none from if_neg (by rintro ⟨q1, q2, q3⟩; rcases h9 with (q | q) | q; (omega); (exact Bool.noConfusion (q2.symm.trans q)); (exact Bool.noConfusion (q3.symm.trans q)))]; simp)
    ·
     ((try dsimp only); omega)
   ·
    refine .back [.r [(0, X (Xn ((i : Int) + 1)))]] [(16, 16), (80, 80), (137, 137)] (ih7 ((i + 1), c) ?_ ?_)
    ·
     refine ⟨by omega, ?_⟩
     rw [I7.2, pcut_succ (by omega)]
     first | (rw [show pcut (((chnS b.nodes nm u).getD ((dnL l'.length).getD k default) default).attrs.getD i default) = _ from if_pos ⟨by omega, h9.1.2, h9.2⟩]; rfl) | (rw [show pcut (((chnS b.nodes nm u).getD ((dnL l'.length).getD k default) default).attrs.getD i default) = none from if_neg (by rintro ⟨q1, q2, q3⟩; rcases h9 with (q | q) | q; (omega); (exact Bool.noConfusion (q2.symm.trans q)); (exact Bool.noConfusion (q3.symm.trans q)))]; simp)
    ·
     ((try dsimp only); omega)
  ·
   exact .rend [.r [(2, X (Xc1 162 (fc_raw (givK (chnS b.nodes nm u) k) c (by first | omega | (simp only [List.length_cons, List.length_nil]; omega))) (rowC attrT c X0)))]] [(16, 16), (80, 80)] .normal [(16, .box [VL 2 attrT (fm rawG (givK (chnS b.nodes nm u) k) c)]), (80, .ext Y [])] rfl (by rw [givK_succ (l := (chnS b.nodes nm u)) (k := k) (by omega), I7.2, List.take_of_length_le (by omega), hdn, hl2])
 have e1 : ((givS b.nodes nm u) : List Attr) = (givK (chnS b.nodes nm u) (l'.length)) := by
  rw [hl2]; rfl
 exact .finE [.r []] [] (fun z0 : List Attr => (VL 2 attrT z0, [])) _ _ e1
end Go.Ch
end
section
set_option linter.unusedVariables false
set_option linter.unusedSimpArgs false
set_option maxRecDepth 100000
set_option maxHeartbeats 4000000
open Go Go.Proofs Go.Ab
namespace Go.Ch
theorem fc_checkPart (l : List Elem) : FC Tryz.prog 49 [VL 3 elemT l] (app emp []) (VI (partE l 0)) (app emp []) := by
 refine .go Tryz.f49 ?_
 refine .len 0 (fun hl0 => ?_)
 refine .loop (α := Nat) [.r [], .r [(1, X (Xl elemT l))]] 32 (fun i => ([(6, VL 3 elemT l), (7, VI (l.length : Int)), (8, VI (i : Int))], [])) (fun i => i ≤ l.length ∧ partE l 0 = partE l i) (fun i => l.length - i) (0 : Nat) ?_ ?_
 ·
  exact ⟨by omega, rfl⟩
 rintro i I2 ih2
 try dsimp only at I2
 refine .bp [.r []] (decide ((i : Int) < (l.length : Int))) (fun h2 => ?_) (fun h2 => ?_)
 ·
  refine .bp [.r [(0, X (Xi elemT l (i : Int)))], .r [(1, X (Xc0 (fc_elem ((l.getD i default))) X0))], .r []] ((elemE ((l.getD i default))) != 0) (fun h5 => ?_) (fun h5 => ?_)
  ·
   have e1 : ((partE l 0) : Int) = (elemE ((l.getD i default))) := by
    rw [I2.2, partE]; ((repeat' split) <;> first | rfl | omega | (simp_all; done) | (simp_all; omega))
   exact .finE [.r []] [] (fun z0 : Int => (VI z0, [])) _ _ e1
  ·
   refine .back [.r [(0, X (Xn ((i : Int) + 1)))]] [] (ih2 ((i + 1) : Nat) ?_ ?_)
   ·
    refine ⟨by omega, ?_⟩; rw [I2.2, partE, if_pos (by omega), if_pos (by omega)]
   ·
    ((try dsimp only); omega)
 ·
  have e2 : ((partE l 0) : Int) = 0 := by
   rw [I2.2, partE]; ((repeat' split) <;> first | rfl | omega | (simp_all; done) | (simp_all; omega))
  exact .finE [.r []] [] (fun z0 : Int => (VI z0, [])) _ _ e2

theorem fc_on (s : ByteArray) : FC Tryz.prog 48 [VS s] (app emp []) (VL 2 attrT [({ name := s, val := { data := #[111, 110] } } : Attr)]) (app emp []) := by
 refine .go Tryz.f48 ?_
 exact .fin [.r [], .r [], .le (.fr 2 [(1 : Nat) = (List.map attrT [({ name := s, val := { data := #[111, 110] } } : Attr)]).length] ⟨lm, trivial⟩)] []

theorem fc_hasB (l : List Attr) (n : ByteArray) : FC Tryz.prog 21 [VL 2 attrT l, VS n] (app emp []) (VB (hasB l n)) (app emp []) := by
 refine .go Tryz.f21 ?_
 refine .len 0 (fun hl0 => ?_)
 refine .loop (α := Nat) [.r [], .r [(1, X (Xl attrT l))]] 32 (fun i => ([(0, VL 2 attrT l), (1, VS n), (7, VI (l.length : Int)), (8, VI (i : Int))], [])) (fun i => i ≤ l.length ∧ hasB l n = hasB (l.drop i) n) (fun i => l.length - i) (0 : Nat) ?_ ?_
 ·
  exact ⟨by omega, rfl⟩
 rintro i I2 ih2
 try dsimp only at I2
 refine .bp [.r []] (decide ((i : Int) < (l.length : Int))) (fun h2 => ?_) (fun h2 => ?_)
 ·
  have hs := hasB_at (l := l) (i := i) (by omega) n
  refine .bp [.r [], .r [(2, X (Xi attrT l (i : Int)))]] (seq (((l.getD i default)).name) n) (fun h4 => ?_) (fun h4 => ?_)
  ·
   have e1 : ((hasB l n) : Bool) = true := by
    first | (rw [I2.2, hs, h4, Bool.true_or]) | (rw [I2.2, List.drop_eq_nil_of_le (by omega)]; rfl)
   exact .finE [.r []] [] (fun z0 : Bool => (VB z0, [])) _ _ e1
  ·
   refine .back [.r [(0, X (Xn ((i : Int) + 1)))]] [] (ih2 ((i + 1) : Nat) ?_ ?_)
   ·
    refine ⟨by omega, ?_⟩
    rw [I2.2, hs, h4, Bool.false_or]
   ·
    ((try dsimp only); omega)
 ·
  have e2 : ((hasB l n) : Bool) = false := by
   first | (rw [I2.2, hs, h4, Bool.true_or]) | (rw [I2.2, List.drop_eq_nil_of_le (by omega)]; rfl)
  exact .finE [.r []] [] (fun z0 : Bool => (VB z0, [])) _ _ e2

theorem fc_getR (l : List Attr) (n : ByteArray) : FC Tryz.prog 22 [VL 2 attrT l, VS n] (app emp []) (VS (getA l n 0)) (app emp []) := by
 refine .go Tryz.f22 ?_
 refine .len 0 (fun hl0 => ?_)
 refine .loop (α := Nat) [.r [], .r [(1, X (Xl attrT l))]] 32 (fun i => ([(0, VL 2 attrT l), (1, VS n), (7, VI (l.length : Int)), (8, VI (i : Int))], [])) (fun i => i ≤ l.length ∧ getA l n 0 = getA l n i) (fun i => l.length - i) (0 : Nat) ?_ ?_
 ·
  exact ⟨by omega, rfl⟩
 rintro i I2 ih2
 try dsimp only at I2
 refine .bp [.r []] (decide ((i : Int) < (l.length : Int))) (fun h2 => ?_) (fun h2 => ?_)
 ·
  refine .bp [.r [], .r [(2, X (Xi attrT l (i : Int)))]] (seq (((l.getD i default)).name) n) (fun h4 => ?_) (fun h4 => ?_)
  ·
   have e1 : ((getA l n 0) : ByteArray) = ((l.getD i default)).val := by
    rw [I2.2, getA, if_pos (by omega), if_pos (seq_iff.1 h4)]
   exact .finE [.r [(2, X (Xi attrT l (i : Int)))]] [] (fun z0 : ByteArray => (VS z0, [])) _ _ e1
  ·
   refine .back [.r [(0, X (Xn ((i : Int) + 1)))]] [] (ih2 ((i + 1) : Nat) ?_ ?_)
   ·
    refine ⟨by omega, ?_⟩; rw [I2.2, getA, if_pos (by omega), if_neg (seq_no.1 h4)]
   ·
    ((try dsimp only); omega)
 ·
  have e2 : ((getA l n 0) : ByteArray) = { data := #[] } := by
   rw [I2.2, getA, if_neg (by omega)]
  exact .finE [.r []] [] (fun z0 : ByteArray => (VS z0, [])) _ _ e2

theorem fc_woS (l : List Attr) (hl : l.length ≤ 10485760) : FC Tryz.prog 95 [VL 2 attrT l] (app emp []) (VL 2 attrT (woS l)) (app emp []) := by
 refine .go Tryz.f95 ?_
 refine .len 0 (fun hl0 => ?_)
 have e1 : ((woS l) : List Attr) = (fm rawG l [({ name := { data := #[115, 116, 121, 108, 101] }, val := { data := #[] } } : Attr)]) := by
  rfl
 exact .finE [.r [], .r [(3, X (Xc1 32 (fc_raw l [({ name := { data := #[115, 116, 121, 108, 101] }, val := { data := #[] } } : Attr)] (by first | omega | (simp only [List.length_cons, List.length_nil]; omega))) (rowC attrT [({ name := { data := #[115, 116, 121, 108, 101] }, val := { data := #[] } } : Attr)] X0)))]] [] (fun z0 : List Attr => (VL 2 attrT z0, [])) _ _ e1

theorem fc_endS (b : Book) (e : List Attr) (hl : b.nodes.length ≤ 1048576) (hat : attN b.nodes ≤ 1048576) (he : e.length ≤ 1048576) : FC Tryz.prog 53 [.t (bookT b), VL 2 attrT e] (app emp []) (VL 2 attrT (endSt b.nodes e)) (app emp []) := by
 refine .go Tryz.f53 ?_
 refine .len 1 (fun hl1 => ?_)
 have g1 := givS_len b.nodes (getA e ({ data := #[115, 116, 121, 108, 101] } : ByteArray) 0) ({ data := #[112, 97, 114, 97, 103, 114, 97, 112, 104] } : ByteArray)
 have g2 := wo_len (givS b.nodes (getA e ({ data := #[115, 116, 121, 108, 101] } : ByteArray) 0) ({ data := #[112, 97, 114, 97, 103, 114, 97, 112, 104] } : ByteArray))
 have g3 := wo_len e
 have e1 : ((endSt b.nodes e) : List Attr) = (fm rawG (woS (givS (b).nodes (getA e ({ data := #[115, 116, 121, 108, 101] }) 0) ({ data := #[112, 97, 114, 97, 103, 114, 97, 112, 104] }))) (woS e)) := by
  rfl
 exact .finE [.r [], .r [(2, X (Xc0 (fc_get e ({ data := #[115, 116, 121, 108, 101] })) X0)), (3, X (Xc1 40 (fc_given b (getA e ({ data := #[115, 116, 121, 108, 101] }) 0) ({ data := #[112, 97, 114, 97, 103, 114, 97, 112, 104] }) (by assumption) (by assumption)) X0)), (4, X (Xc1 48 (fc_woS (givS (b).nodes (getA e ({ data := #[115, 116, 121, 108, 101] }) 0) ({ data := #[112, 97, 114, 97, 103, 114, 97, 112, 104] })) (by omega)) X0)), (6, X (Xc1 64 (fc_woS e (by omega)) X0)), (7, X (Xc1 72 (fc_raw (woS (givS (b).nodes (getA e ({ data := #[115, 116, 121, 108, 101] }) 0) ({ data := #[112, 97, 114, 97, 103, 114, 97, 112, 104] }))) (woS e) (by first | omega | (simp only [List.length_cons, List.length_nil]; omega))) X0))]] [] (fun z0 : List Attr => (VL 2 attrT z0, [])) _ _ e1

theorem fc_elmS (b : Book) (x e : List Attr) (hl : b.nodes.length ≤ 1048576) (hat : attN b.nodes ≤ 1048576) (hx : x.length ≤ 1048576) (he : e.length ≤ 1048576) : FC Tryz.prog 52 [.t (bookT b), VL 2 attrT x, VL 2 attrT e] (app emp []) (VL 2 attrT (elmSt b.nodes x e)) (app emp []) := by
 refine .go Tryz.f52 ?_
 refine .len 1 (fun hl1 => ?_)
 refine .len 2 (fun hl2 => ?_)
 have g1 := givS_len b.nodes (getA e ({ data := #[115, 116, 121, 108, 101] } : ByteArray) 0) ({ data := #[112, 97, 114, 97, 103, 114, 97, 112, 104] } : ByteArray)
 have g2 := wo_len (givS b.nodes (getA e ({ data := #[115, 116, 121, 108, 101] } : ByteArray) 0) ({ data := #[112, 97, 114, 97, 103, 114, 97, 112, 104] } : ByteArray))
 have g3 := givS_len b.nodes (getA x ({ data := #[115, 116, 121, 108, 101] } : ByteArray) 0) ({ data := #[116, 101, 120, 116] } : ByteArray)
 have g4 := wo_len (givS b.nodes (getA x ({ data := #[115, 116, 121, 108, 101] } : ByteArray) 0) ({ data := #[116, 101, 120, 116] } : ByteArray))
 have g5 := wo_len x
 have g6 := fm_len rawG (woS (givS b.nodes (getA e ({ data := #[115, 116, 121, 108, 101] } : ByteArray) 0) ({ data := #[112, 97, 114, 97, 103, 114, 97, 112, 104] } : ByteArray))) (woS (givS b.nodes (getA x ({ data := #[115, 116, 121, 108, 101] } : ByteArray) 0) ({ data := #[116, 101, 120, 116] } : ByteArray)))
 have e1 : ((elmSt b.nodes x e) : List Attr) = (fm rawG (fm rawG (woS (givS (b).nodes (getA e ({ data := #[115, 116, 121, 108, 101] }) 0) ({ data := #[112, 97, 114, 97, 103, 114, 97, 112, 104] }))) (woS (givS (b).nodes (getA x ({ data := #[115, 116, 121, 108, 101] }) 0) ({ data := #[116, 101, 120, 116] })))) (woS x)) := by
  rfl
 exact .finE [.r [], .r [(2, X (Xc0 (fc_get e ({ data := #[115, 116, 121, 108, 101] })) X0)), (3, X (Xc1 40 (fc_given b (getA e ({ data := #[115, 116, 121, 108, 101] }) 0) ({ data := #[112, 97, 114, 97, 103, 114, 97, 112, 104] }) (by assumption) (by assumption)) X0)), (4, X (Xc1 48 (fc_woS (givS (b).nodes (getA e ({ data := #[115, 116, 121, 108, 101] }) 0) ({ data := #[112, 97, 114, 97, 103, 114, 97, 112, 104] })) (by omega)) X0))], .r [(3, X (Xc0 (fc_get x ({ data := #[115, 116, 121, 108, 101] })) X0)), (4, X (Xc1 96 (fc_given b (getA x ({ data := #[115, 116, 121, 108, 101] }) 0) ({ data := #[116, 101, 120, 116] }) (by assumption) (by assumption)) X0)), (5, X (Xc1 104 (fc_woS (givS (b).nodes (getA x ({ data := #[115, 116, 121, 108, 101] }) 0) ({ data := #[116, 101, 120, 116] })) (by omega)) X0)), (6, X (Xc1 112 (fc_raw (woS (givS (b).nodes (getA e ({ data := #[115, 116, 121, 108, 101] }) 0) ({ data := #[112, 97, 114, 97, 103, 114, 97, 112, 104] }))) (woS (givS (b).nodes (getA x ({ data := #[115, 116, 121, 108, 101] }) 0) ({ data := #[116, 101, 120, 116] }))) (by first | omega | (simp only [List.length_cons, List.length_nil]; omega))) X0))], .r [(2, X (Xc1 144 (fc_woS x (by omega)) X0)), (3, X (Xc1 152 (fc_raw (fm rawG (woS (givS (b).nodes (getA e ({ data := #[115, 116, 121, 108, 101] }) 0) ({ data := #[112, 97, 114, 97, 103, 114, 97, 112, 104] }))) (woS (givS (b).nodes (getA x ({ data := #[115, 116, 121, 108, 101] }) 0) ({ data := #[116, 101, 120, 116] })))) (woS x) (by first | omega | (simp only [List.length_cons, List.length_nil]; omega))) X0))]] [] (fun z0 : List Attr => (VL 2 attrT z0, [])) _ _ e1

theorem fc_resolve (d : Doc) (x : Elem) (e : List Attr) (hb : DocB d) (hat : attN d.nodes ≤ 1048576) (hx : x.attrs.length ≤ 1048576) (he : e.length ≤ 1048576) : FC Tryz.prog 17 [.t (docT d), .t (elemT x), VL 2 attrT e] (app emp []) (.tup [VL 2 attrT (rsvL d x e), VI (rsvE d x e)]) (app emp []) := by
 refine .go Tryz.f17 ?_
 refine .len 2 (fun hl2 => ?_)
 have hq := partE_one x
 refine .bp [.r [], .r [(1, X (Xc0 (fc_docCk d (by assumption)) X0))], .r []] ((docE d) != 0) (fun h2 => ?_) (fun h2 => ?_)
 ·
  have e1 : ((rsvL d x e) : List Attr) = [] := by
   simp only [rsvL, rsvE]; first | (rw [if_neg (by omega)]; done) | (rw [if_pos (by omega)]; done) | (rw [if_neg (by omega), if_pos (by omega)]; omega) | (rw [if_neg (by omega), if_neg (by omega)]; done) | (rw [if_neg (by omega), if_neg (by omega)]; omega)
  have e2 : ((rsvE d x e) : Int) = (docE d) := by
   simp only [rsvL, rsvE]; first | (rw [if_neg (by omega)]; done) | (rw [if_pos (by omega)]; done) | (rw [if_neg (by omega), if_pos (by omega)]; omega) | (rw [if_neg (by omega), if_neg (by omega)]; done) | (rw [if_neg (by omega), if_neg (by omega)]; omega)
  exact .finE [.r [], .le (.nL 6 2)] [] (fun ((z0, z1) : (List Attr) × Int) => (.tup [VL 2 attrT z0, VI z1], [])) _ _ (pr e1 e2)
 ·
  refine .bp [.r [(2, X (Xc0 (fc_checkPart [x]) (rowC elemT [x] X0)))], .r []] ((partE [x] 0) != 0) (fun h5 => ?_) (fun h5 => ?_)
  ·
   have e3 : ((rsvL d x e) : List Attr) = [] := by
    simp only [rsvL, rsvE]; first | (rw [if_neg (by omega)]; done) | (rw [if_pos (by omega)]; done) | (rw [if_neg (by omega), if_pos (by omega)]; omega) | (rw [if_neg (by omega), if_neg (by omega)]; done) | (rw [if_neg (by omega), if_neg (by omega)]; omega)
   have e4 : ((rsvE d x e) : Int) = (partE [x] 0) := by
    simp only [rsvL, rsvE]; first | (rw [if_neg (by omega)]; done) | (rw [if_pos (by omega)]; done) | (rw [if_neg (by omega), if_pos (by omega)]; omega) | (rw [if_neg (by omega), if_neg (by omega)]; done) | (rw [if_neg (by omega), if_neg (by omega)]; omega)
   exact .finE [.r [], .le (.nL 6 2)] [] (fun ((z0, z1) : (List Attr) × Int) => (.tup [VL 2 attrT z0, VI z1], [])) _ _ (pr e3 e4)
  ·
   refine .bp [.r [(1, X (Xc0 (fc_acheck e) X0))], .r []] ((chkA false e 0) != 0) (fun h8 => ?_) (fun h8 => ?_)
   ·
    have e5 : ((rsvL d x e) : List Attr) = [] := by
     simp only [rsvL, rsvE]; first | (rw [if_neg (by omega)]; done) | (rw [if_pos (by omega)]; done) | (rw [if_neg (by omega), if_pos (by omega)]; omega) | (rw [if_neg (by omega), if_neg (by omega)]; done) | (rw [if_neg (by omega), if_neg (by omega)]; omega)
    have e6 : ((rsvE d x e) : Int) = (chkA false e 0) := by
     simp only [rsvL, rsvE]; first | (rw [if_neg (by omega)]; done) | (rw [if_pos (by omega)]; done) | (rw [if_neg (by omega), if_pos (by omega)]; omega) | (rw [if_neg (by omega), if_neg (by omega)]; done) | (rw [if_neg (by omega), if_neg (by omega)]; omega)
    exact .finE [.r [], .le (.nL 6 2)] [] (fun ((z0, z1) : (List Attr) × Int) => (.tup [VL 2 attrT z0, VI z1], [])) _ _ (pr e5 e6)
   ·
    have hV : DocV d := ⟨hb, by omega⟩
    have w1 := sty_len hV
    have w2 := Nat.le_trans (sty_att hV) hat
    have e7 : ((rsvL d x e) : List Attr) = (elmSt (({ nodes := stylesD d } : Book)).nodes x.attrs e) := by
     simp only [rsvL, rsvE]; first | (rw [if_neg (by omega)]; done) | (rw [if_pos (by omega)]; done) | (rw [if_neg (by omega), if_pos (by omega)]; omega) | (rw [if_neg (by omega), if_neg (by omega)]; done) | (rw [if_neg (by omega), if_neg (by omega)]; omega)
    have e8 : ((rsvE d x e) : Int) = 0 := by
     simp only [rsvL, rsvE]; first | (rw [if_neg (by omega)]; done) | (rw [if_pos (by omega)]; done) | (rw [if_neg (by omega), if_pos (by omega)]; omega) | (rw [if_neg (by omega), if_neg (by omega)]; done) | (rw [if_neg (by omega), if_neg (by omega)]; omega)
    exact .finE [.r [(1, X (Xc1 168 (fc_open d (by assumption)) X0)), (5, X (Xc1 200 (fc_elmS ({ nodes := stylesD d } : Book) x.attrs e (by assumption) (by assumption) (by assumption) (by assumption)) X0))]] [] (fun ((z0, z1) : (List Attr) × Int) => (.tup [VL 2 attrT z0, VI z1], [])) _ _ (pr e7 e8)

theorem fc_resEnd (d : Doc) (e : List Attr) (hb : DocB d) (hat : attN d.nodes ≤ 1048576) (he : e.length ≤ 1048576) : FC Tryz.prog 18 [.t (docT d), VL 2 attrT e] (app emp []) (.tup [VL 2 attrT (rseL d e), VI (rseE d e)]) (app emp []) := by
 refine .go Tryz.f18 ?_
 refine .len 1 (fun hl1 => ?_)
 refine .bp [.r [], .r [(1, X (Xc0 (fc_docCk d (by assumption)) X0))], .r []] ((docE d) != 0) (fun h2 => ?_) (fun h2 => ?_)
 ·
  have e1 : ((rseL d e) : List Attr) = [] := by
   simp only [rseL, rseE]; first | (rw [if_neg (by omega)]; done) | (rw [if_pos (by omega)]; done) | (rw [if_neg (by omega)]; omega)
  have e2 : ((rseE d e) : Int) = (docE d) := by
   simp only [rseL, rseE]; first | (rw [if_neg (by omega)]; done) | (rw [if_pos (by omega)]; done) | (rw [if_neg (by omega)]; omega)
  exact .finE [.r [], .le (.nL 4 2)] [] (fun ((z0, z1) : (List Attr) × Int) => (.tup [VL 2 attrT z0, VI z1], [])) _ _ (pr e1 e2)
 ·
  refine .bp [.r [(1, X (Xc0 (fc_acheck e) X0))], .r []] ((chkA false e 0) != 0) (fun h5 => ?_) (fun h5 => ?_)
  ·
   have e3 : ((rseL d e) : List Attr) = [] := by
    simp only [rseL, rseE]; first | (rw [if_neg (by omega)]; done) | (rw [if_pos (by omega)]; done) | (rw [if_neg (by omega)]; omega)
   have e4 : ((rseE d e) : Int) = (chkA false e 0) := by
    simp only [rseL, rseE]; first | (rw [if_neg (by omega)]; done) | (rw [if_pos (by omega)]; done) | (rw [if_neg (by omega)]; omega)
   exact .finE [.r [], .le (.nL 4 2)] [] (fun ((z0, z1) : (List Attr) × Int) => (.tup [VL 2 attrT z0, VI z1], [])) _ _ (pr e3 e4)
  ·
   have hV : DocV d := ⟨hb, by omega⟩
   have w1 := sty_len hV
   have w2 := Nat.le_trans (sty_att hV) hat
   have e5 : ((rseL d e) : List Attr) = (endSt (({ nodes := stylesD d } : Book)).nodes e) := by
    simp only [rseL, rseE]; first | (rw [if_neg (by omega)]; done) | (rw [if_pos (by omega)]; done) | (rw [if_neg (by omega)]; omega)
   have e6 : ((rseE d e) : Int) = 0 := by
    simp only [rseL, rseE]; first | (rw [if_neg (by omega)]; done) | (rw [if_pos (by omega)]; done) | (rw [if_neg (by omega)]; omega)
   exact .finE [.r [(1, X (Xc1 112 (fc_open d (by assumption)) X0)), (3, X (Xc1 128 (fc_endS ({ nodes := stylesD d } : Book) e (by assumption) (by assumption) (by assumption)) X0))]] [] (fun ((z0, z1) : (List Attr) × Int) => (.tup [VL 2 attrT z0, VI z1], [])) _ _ (pr e5 e6)

theorem fc_styled  : FC Tryz.prog 16 [] (app emp []) (VB true) (app emp []) := by
 refine .go Tryz.f16 ?_
 have q1 := first_b
 have q2 : attN firstD.nodes ≤ 1048576 := by decide
 have e1 : (((true && ((rsvE firstD ({ char := 97, ref := 0, attrs := [({ name := ({ data := #[98, 111, 108, 100] }), val := { data := #[111, 110] } } : Attr)] } : Elem) []) == 0)) && (sameL (rsvL firstD ({ char := 97, ref := 0, attrs := [({ name := ({ data := #[98, 111, 108, 100] }), val := { data := #[111, 110] } } : Attr)] } : Elem) []) [({ name := ({ data := #[98, 111, 108, 100] }), val := { data := #[111, 110] } } : Attr)])) : Bool) = true := by
  first | exact styled_p | exact styled_p.symm
 exact .finE [.r [], .r [(0, X (Xc1 8 fc_first X0)), (1, X (Xc1 16 (fc_on ({ data := #[98, 111, 108, 100] })) X0)), (3, X (Xc1 32 (.nil 2 2 (fc_resolve firstD ({ char := 97, ref := 0, attrs := [({ name := ({ data := #[98, 111, 108, 100] }), val := { data := #[111, 110] } } : Attr)] } : Elem) [] (by assumption) (by assumption) (by first | assumption | simp) (by first | assumption | simp))) X0))], .r [(0, X (Xc0 fc_docs X0)), (3, Xv 1 true X0), (4, X (Xk true)), (7, Xg (true && ((rsvE firstD ({ char := 97, ref := 0, attrs := [({ name := ({ data := #[98, 111, 108, 100] }), val := { data := #[111, 110] } } : Attr)] } : Elem) []) == 0)) (Xc1 136 (fc_on ({ data := #[98, 111, 108, 100] })) X0)), (8, Xv 2 (true && ((rsvE firstD ({ char := 97, ref := 0, attrs := [({ name := ({ data := #[98, 111, 108, 100] }), val := { data := #[111, 110] } } : Attr)] } : Elem) []) == 0)) (Xc0 (fc_sameAttrs (rsvL firstD ({ char := 97, ref := 0, attrs := [({ name := ({ data := #[98, 111, 108, 100] }), val := { data := #[111, 110] } } : Attr)] } : Elem) []) [({ name := ({ data := #[98, 111, 108, 100] }), val := { data := #[111, 110] } } : Attr)]) X0)), (9, X (Xk (true && ((rsvE firstD ({ char := 97, ref := 0, attrs := [({ name := ({ data := #[98, 111, 108, 100] }), val := { data := #[111, 110] } } : Attr)] } : Elem) []) == 0))))]] [] (fun z0 : Bool => (VB z0, [])) _ _ e1.symm
end Go.Ch
end
section
set_option linter.unusedVariables false
set_option linter.unusedSimpArgs false
set_option maxRecDepth 100000
set_option maxHeartbeats 4000000
open Go Go.Proofs Go.Ab
namespace Go.Ch
theorem fc_law34 (d : Doc) (x : Elem) (e : List Attr) (hb : DocB d) (hat : attN d.nodes ≤ 1048576) (hx1 : Szd x.attrs) (hx2 : x.attrs.length ≤ 1048576) (he1 : Szd e) (he2 : e.length ≤ 1048576) : FC Tryz.prog 5 [.t (docT d), .t (elemT x), VL 2 attrT e] (app emp []) (VB true) (app emp []) := by
 refine .go Tryz.f5 ?_
 refine .len 2 (fun hl2 => ?_)
 have hea := errA_eq false e _ 0 rfl
 refine .bp [.r [], .r [(0, X (Xc0 fc_styled X0))], .f, .r [(3, X (Xc1 64 (fc_resolve d x e (by assumption) (by assumption) (by first | assumption | simp) (by first | assumption | simp)) X0))], .r [(2, X (Xc1 128 (fc_resEnd d e (by assumption) (by assumption) (by assumption)) X0))], .r [(1, X (Xc0 (fc_docR d (by assumption)) X0)), (5, Xv 1 (!((docE d) != 0)) (Xc0 (fc_elemError x (by assumption)) X0)), (6, Xv 1 (!((docE d) != 0)) X0), (7, X (Xk' ((docE d) != 0))), (10, Xv 1 (!(((docE d) != 0) || ((elemE x) != 0))) (Xc0 (fc_attrsError e false (by assumption)) X0)), (11, Xv 1 (!(((docE d) != 0) || ((elemE x) != 0))) X0), (12, X (Xk' (((docE d) != 0) || ((elemE x) != 0))))]] ((((docE d) != 0) || ((elemE x) != 0)) || ((errA false e 0) != 0)) (fun h5 => ?_) (fun h5 => ?_)
 ·
  have e1 : (((rsvE d x e) != 0) : Bool) = true := by
   exact law34_no (by omega)
  exact .finE [.r []] [] (fun z0 : Bool => (VB z0, [])) _ _ e1.symm
 ·
  have l1 := law34_e (d := d) (x := x) (e := e) (by omega) (by omega) (by omega)
  obtain ⟨l2, l3, l4, l5⟩ := law34_l hb (x := x) (e := e) (by omega) (by omega) (by omega)
  refine .bp [.r [(4, Xv 1 (!((rsvE d x e) != 0)) X0), (5, X (Xk' ((rsvE d x e) != 0))), (8, Xv 1 (!(((rsvE d x e) != 0) || ((rseE d e) != 0))) (Xc0 (fc_hasB (rsvL d x e) ({ data := #[115, 116, 121, 108, 101] })) X0)), (9, X (Xk' (((rsvE d x e) != 0) || ((rseE d e) != 0)))), (12, Xv 1 (!((((rsvE d x e) != 0) || ((rseE d e) != 0)) || (hasB (rsvL d x e) ({ data := #[115, 116, 121, 108, 101] })))) (Xc0 (fc_hasB (rseL d e) ({ data := #[115, 116, 121, 108, 101] })) X0)), (13, X (Xk' ((((rsvE d x e) != 0) || ((rseE d e) != 0)) || (hasB (rsvL d x e) ({ data := #[115, 116, 121, 108, 101] })))))]] (((((rsvE d x e) != 0) || ((rseE d e) != 0)) || (hasB (rsvL d x e) ({ data := #[115, 116, 121, 108, 101] }))) || (hasB (rseL d e) ({ data := #[115, 116, 121, 108, 101] }))) (fun h7 => ?_) (fun h7 => ?_)
  ·
   exfalso
   rcases h7 with ((q | q) | q) | q
   · exact q l1.1
   · exact q l1.2
   · exact Bool.noConfusion (l2.1.symm.trans q)
   · exact Bool.noConfusion (l2.2.symm.trans q)
  ·
   refine .loop (α := Nat) [.r [(2, X (Xl attrT x.attrs))]] 424 (fun i => ([(2, VL 2 attrT e), (4, .ptr 8 0), (7, VL 2 attrT (rsvL d x e)), (9, VL 2 attrT (rseL d e)), (58, VL 2 attrT x.attrs), (59, VI (x.attrs.length : Int)), (60, VI (i : Int))], [(8, .box [VI x.char, VI x.ref, VL 2 attrT x.attrs])])) (fun i => i ≤ x.attrs.length) (fun i => x.attrs.length - i) (0 : Nat) ?_ ?_
   ·
    exact Nat.zero_le _
   rintro i I10 ih10
   try dsimp only at I10
   refine .bp [.r []] (decide ((i : Int) < (x.attrs.length : Int))) (fun h10 => ?_) (fun h10 => ?_)
   ·
    refine .bp [.r [(0, X (Xi attrT x.attrs (i : Int)))], .r [(6, Xv 1 (!(seq (((x.attrs.getD i default)).name) ({ data := #[115, 116, 121, 108, 101] }))) X0), (7, Xv 2 (!(seq (((x.attrs.getD i default)).name) ({ data := #[115, 116, 121, 108, 101] }))) (Xc0 (fc_getR (rsvL d x e) (((x.attrs.getD i default)).name)) X0)), (9, Xv 1 (!(seq (((x.attrs.getD i default)).name) ({ data := #[115, 116, 121, 108, 101] }))) X0), (10, Xv 2 (!(seq (((x.attrs.getD i default)).name) ({ data := #[115, 116, 121, 108, 101] }))) X0), (11, X (Xk (!(seq (((x.attrs.getD i default)).name) ({ data := #[115, 116, 121, 108, 101] })))))]] (!(seq (((x.attrs.getD i default)).name) ({ data := #[115, 116, 121, 108, 101] })) && !(seq (getA (rsvL d x e) (((x.attrs.getD i default)).name) 0) (((x.attrs.getD i default)).val))) (fun h12 => ?_) (fun h12 => ?_)
    ·
     exfalso
     exact seq_no.1 h12.2 (l3 _ (getDX_mem (by omega)) (seq_no.1 h12.1))
    ·
     refine .back [.r [(0, X (Xn ((i : Int) + 1)))]] [(8, 8)] (ih10 ((i + 1) : Nat) ?_ ?_)
     ·
      show _; (first | omega | with_reducible exact fun h => h | (intro hq; rw [hq]; done) | (intro hq; rw [hq]; rfl) | (simp only [List.length_map]; done) | (simp only [List.length_map]; omega) | (simp; omega) | (simp; done))
     ·
      ((try dsimp only); omega)
   ·
    refine .bp [.r [(2, X (Xc0 (fc_hasB x.attrs ({ data := #[115, 116, 121, 108, 101] })) X0)), (6, Xv 1 (!(hasB x.attrs ({ data := #[115, 116, 121, 108, 101] }))) (Xc0 (fc_hasB e ({ data := #[115, 116, 121, 108, 101] })) X0)), (7, Xv 1 (!(hasB x.attrs ({ data := #[115, 116, 121, 108, 101] }))) X0), (8, X (Xk (!(hasB x.attrs ({ data := #[115, 116, 121, 108, 101] })))))]] (!(hasB x.attrs ({ data := #[115, 116, 121, 108, 101] })) && !(hasB e ({ data := #[115, 116, 121, 108, 101] }))) (fun h15 => ?_) (fun h15 => ?_)
    ·
     have e2 : (((sameL (rsvL d x e) x.attrs) && (sameL (rseL d e) e)) : Bool) = true := by
      rw [l4 h15.1 h15.2, l5 h15.2, sameL_self, sameL_self]; rfl
     exact .finE [.r [(3, X (Xc0 (fc_sameAttrs (rsvL d x e) x.attrs) X0)), (7, Xv 2 (sameL (rsvL d x e) x.attrs) (Xc0 (fc_sameAttrs (rseL d e) e) X0)), (8, X (Xk (sameL (rsvL d x e) x.attrs)))]] [] (fun z0 : Bool => (VB z0, [])) _ _ e2.symm
    ·
     exact .fin [.r []] []
end Go.Ch
end
section
set_option linter.unusedVariables false
namespace Go.Ab
open Go Go.Proofs.YtfhidobmbgmjfaaGreatDoor
variable {P : Program} {W : World}

def RdM (P : Program) (t : TypeId) (k : Nat) {α : Type} (f : α → Tree) (μ : α → Nat) : Prop :=
  (∀ a, Elt k (f a)) ∧ P.cellsOf t = k ∧ ∀ (H : Type) (enc : TypeId × Value → H) (W : World) (fuel : Nat) (cs : List Value) (x : DataW H × List MemPlace),
    DataW.trod enc P W 0 (fun _ => true) true fuel t cs = some x → ∃ a : α, CellsR W (f a).cells cs ∧ μ a ≤ Rows.uptoBulk x.1

theorem bulk_pos {H : Type} (d : DataW H) : 1 ≤ Rows.uptoBulk d := by
  cases d with
  | lit l => cases l <;> simp [Rows.uptoBulk]
  | _ => simp [Rows.uptoBulk]

theorem RdM.int {t : TypeId} {k : IntKind} (ht : P.underlying t = some (.int k)) (hc : P.cellsOf t = 1) : RdM P t 1 (fun z : Int => .sc (.int k z)) (fun _ => 1) := by
  refine ⟨fun _ => elt1, hc, fun H enc W fuel cs x h => ?_⟩
  obtain ⟨n, rfl, _, _⟩ := DataW.trod_int ht h
  exact ⟨n, cells1 rfl (.sc _ rfl), bulk_pos _⟩
/-- An integer with its bounds. -/
theorem RdM.i64 {t : TypeId} (ht : P.underlying t = some (.int .i64)) (hc : P.cellsOf t = 1) : RdM P t 1 (fun z : { z : Int // -9223372036854775808 ≤ z ∧ z ≤ 9223372036854775807 } => .sc (.int .i64 z.1)) (fun _ => 1) := by
  refine ⟨fun _ => elt1, hc, fun H enc W fuel cs x h => ?_⟩
  obtain ⟨n, rfl, _, hw⟩ := DataW.trod_int ht h
  exact ⟨⟨n, by simpa [Lit.wf, IntKind.min, IntKind.max, IntKind.signed, IntKind.bits] using hw⟩, cells1 rfl (.sc _ rfl), bulk_pos _⟩
theorem RdM.bool {t : TypeId} (ht : P.underlying t = some .bool) (hc : P.cellsOf t = 1) : RdM P t 1 (fun b : Bool => .sc (.bool b)) (fun _ => 1) := by
  refine ⟨fun _ => elt1, hc, fun H enc W fuel cs x h => ?_⟩
  obtain ⟨n, rfl, _⟩ := DataW.trod_bool ht h
  exact ⟨n, cells1 rfl (.sc _ rfl), bulk_pos _⟩
theorem RdM.str {t : TypeId} (ht : P.underlying t = some .string) (hc : P.cellsOf t = 1) : RdM P t 1 (fun s : ByteArray => .sc (.string s)) (fun s => s.size + 1) := by
  refine ⟨fun _ => elt1, hc, fun H enc W fuel cs x h => ?_⟩
  obtain ⟨n, rfl, rfl, _⟩ := DataW.trod_string ht h
  exact ⟨n, cells1 rfl (.sc _ rfl), by simp [Rows.uptoBulk]⟩

theorem sum_le {α H : Type} {μ : α → Nat} : ∀ {l : List α} {es : List (DataW H)}, l.length = es.length → (∀ (i : Nat) (a : α) (d : DataW H), l[i]? = some a → es[i]? = some d → μ a ≤ Rows.uptoBulk d) → (l.map μ).sum ≤ Rows.uptoBulkAll es
  | [], es, _, _ => by simp
  | a :: l, [], h, _ => by simp at h
  | a :: l, d :: es, h, hi => by
    have h0 := hi 0 a d rfl rfl
    have ih := sum_le (l := l) (es := es) (by simpa using h) (fun i a' d' h1 h2 => hi (i + 1) a' d' (by simpa using h1) (by simpa using h2))
    simp only [List.map_cons, List.sum_cons, Rows.uptoBulkAll]
    omega

theorem RdM.slice {t e : TypeId} {k : Nat} {α : Type} {f : α → Tree} {μ : α → Nat} (ht : P.underlying t = some (.slice e)) (hk : 0 < k) (hc : P.cellsOf t = 1) (he : RdM P e k f μ) : RdM P t 1 (fun l : List α => .lst k (l.map f)) (fun l => (l.map μ).sum + 1) := by
  obtain ⟨h1, h2, h3⟩ := he
  refine ⟨fun l => ⟨rfl, fun T hT => by simp [Tree.cells] at hT; subst hT; rfl⟩, hc, fun H enc W fuel cs x h => ?_⟩
  have hx : ∀ l : List α, ∀ x ∈ l.map f, Elt k x := fun l x hx => by
    obtain ⟨a, _, rfl⟩ := List.mem_map.1 hx
    exact h1 a
  rcases DataW.trod_slice ht h with ⟨rfl, hx0⟩ | ⟨a, len, cap, elems, rest, n, _, rfl, hxe, hb, hl, hm, hlen, hel, _, _⟩
  · refine ⟨[], cells1 rfl (.lst k [] none 0 [] hk (fun x hx => by simp at hx) (Nat.le_refl _) (by simp [maxLen]) (fun h => absurd rfl h) (by simp) (fun j T u hT => by simp [flat] at hT)), ?_⟩
    exact bulk_pos _
  · have key : ∀ i, i < len → ∃ y : α, (∃ cs', cs'.length = k ∧ (∀ r, r < k → W.cell? (a.add (i * k + r)) = cs'[r]?) ∧ CellsR W (f y).cells cs') ∧ ∀ d, (elems.map (·.1))[i]? = some d → μ y ≤ Rows.uptoBulk d := by
      intro i hi
      have h4 := hel i hi
      have h5 : elems[i]? = some elems[i] := by rw [List.getElem?_eq_getElem (by omega)]
      rw [h5, h2] at h4
      obtain ⟨cs', h6, h7⟩ := Option.bind_eq_some_iff.1 h4
      obtain ⟨q1, q2, q3⟩ := World.cells?_some h6
      obtain ⟨y, hy, hμ⟩ := h3 H enc W n cs' _ h7
      refine ⟨y, ⟨cs', q2, fun r hr => ?_, hy⟩, fun d hd => ?_⟩
      · rw [← q3 r hr]
        rw [Addr.add_add]
      · rw [List.getElem?_map, h5] at hd
        simp only [Option.map_some, Option.some.injEq] at hd
        subst hd; exact hμ
    obtain ⟨l, hl1, hl2'⟩ := list_of len _ key
    have hl2 := fun i a h => (hl2' i a h).1
    have hspot : l ≠ [] → ∃ u, W.cell? a = some u := by
      intro hne
      have h0 : 0 < len := by rw [← hl1]; exact List.length_pos_iff.2 hne
      obtain ⟨cs', c1, c2, c3⟩ := hl2 0 l[0] (by rw [List.getElem?_eq_getElem (by omega)])
      have := c2 0 hk
      simp only [Nat.zero_mul, Nat.add_zero] at this
      rw [List.getElem?_eq_getElem (by omega)] at this
      have e : a.add 0 = a := by simp [Addr.add]
      rw [e] at this
      exact ⟨_, this⟩
    refine ⟨l, cells1 rfl ?_, ?_⟩
    rotate_left
    · rw [hxe]
      simp only [Rows.uptoBulk]
      have := sum_le (μ := μ) (l := l) (es := elems.map (·.1)) (by simp [hl1, hlen]) (fun i y d h1 h2 => (hl2' i y h1).2 d h2)
      omega
    have hget : ∀ j, j < len * k → ∃ u, W.cell? (a.add j) = some u ∧ ∀ T, (flat (l.map f))[j]? = some T → TRep W (fun b => b < W.heap.size) T u := by
      intro j hj
      have hi : j / k < len := Nat.div_lt_of_lt_mul (by rw [Nat.mul_comm]; exact hj)
      have hr : j % k < k := Nat.mod_lt _ hk
      have hji : j = j / k * k + j % k := by rw [Nat.mul_comm]; exact (Nat.div_add_mod j k).symm
      obtain ⟨cs', c1, c2, c3⟩ := hl2 (j / k) l[j / k] (by rw [List.getElem?_eq_getElem (by omega)])
      have c4 := c2 (j % k) hr
      rw [← hji, List.getElem?_eq_getElem (by omega)] at c4
      refine ⟨_, c4, fun T hT => ?_⟩
      rw [hji, flat_get (hx l) (i := j / k) (X := f l[j / k]) (by simp [List.getElem?_eq_getElem (show j / k < l.length by omega)]) hr] at hT
      exact c3.2 (j % k) T _ hT (by rw [List.getElem?_eq_getElem (by omega)])
    obtain ⟨us, hu1, hu2⟩ := list_of (len * k) _ hget
    have hlm : (l.map f).length = len := by simp [hl1]
    have := TRep.lst (w := W) (ok := fun b => b < W.heap.size) k (l.map f) (some a) cap us hk (hx l) (by omega) hm (fun hne => ?_) (by rw [hlm]; exact hu1) (fun j T u hT hu => (hu2 j u hu).2 T hT)
    · rw [hlm] at this; exact this
    · obtain ⟨u, hu⟩ := hspot (fun e => hne (by rw [e]; rfl))
      have hs := World.cell?_spot hu
      obtain ⟨b, o, sp⟩ := a
      simp only at hs
      subst hs
      refine ⟨b, o, rfl, ?_, fun j u hj => ?_⟩
      · simp only [World.cell?] at hu
        by_cases hb : b < W.heap.size
        · exact hb
        · rw [Array.getElem?_eq_none (by omega)] at hu; simp at hu
      · have := (hu2 j u hj).1
        rw [add_lit'] at this
        exact this

theorem RdM.map {t : TypeId} {k : Nat} {α β : Type} {f : α → Tree} {μ : α → Nat} {f' : β → Tree} {μ' : β → Nat} (h : RdM P t k f μ) (g : α → β) (hf : ∀ a, f' (g a) = f a) (hm : ∀ a, μ' (g a) ≤ μ a) (he : ∀ b, Elt k (f' b)) : RdM P t k f' μ' := by
  obtain ⟨h1, h2, h3⟩ := h
  refine ⟨he, h2, fun H enc W fuel cs x hx => ?_⟩
  obtain ⟨a, ha, hb⟩ := h3 H enc W fuel cs x hx
  exact ⟨g a, by rw [hf]; exact ha, Nat.le_trans (hm a) hb⟩

/-- The fields of a struct, from a cell on. -/
def RdFM (P : Program) (off : Nat) (fs : List Field) (k : Nat) {β : Type} (g : β → List Tree) (μ : β → Nat) : Prop :=
  (∀ b, (g b).length = k ∧ ∀ T ∈ g b, T.isCell = true) ∧ ∀ (H : Type) (enc : TypeId × Value → H) (W : World) (n : Nat) (cs : List Value) (ys : List (DataW H × List MemPlace)),
    ys.length = fs.length → (∀ (i : Nat) (f : Field), fs[i]? = some f → DataW.trod enc P W 0 (fun _ => true) true n f.type ((cs.drop f.offset).take (P.cellsOf f.type)) = ys[i]?) →
    ∃ b : β, (∀ (j : Nat) (T : Tree) (u : Value), (g b)[j]? = some T → cs[off + j]? = some u → TRep W (fun b => b < W.heap.size) T u) ∧ μ b ≤ Rows.uptoBulkAll (ys.map (·.1))
theorem RdFM.nil {off : Nat} : RdFM P off [] 0 (fun _ : Unit => []) (fun _ => 0) :=
  ⟨fun _ => ⟨rfl, fun T hT => by simp at hT⟩, fun H enc W n cs ys h1 h2 => ⟨(), fun j T u hT => by simp at hT, Nat.zero_le _⟩⟩
theorem RdFM.cons {off : Nat} {f : Field} {fs : List Field} {k1 k2 : Nat} {α β : Type} {f1 : α → Tree} {μ1 : α → Nat} {g2 : β → List Tree} {μ2 : β → Nat} (ho : f.offset = off) (h : RdM P f.type k1 f1 μ1) (hs : RdFM P (off + k1) fs k2 g2 μ2) : RdFM P off (f :: fs) (k1 + k2) (fun p : α × β => (f1 p.1).cells ++ g2 p.2) (fun p => μ1 p.1 + μ2 p.2) := by
  obtain ⟨h1, h2, h3⟩ := h
  obtain ⟨s1, s2⟩ := hs
  refine ⟨fun p => ⟨by rw [List.length_append, (h1 p.1).1, (s1 p.2).1], fun T hT => ?_⟩, fun H enc W n cs ys hl hy => ?_⟩
  · rcases List.mem_append.1 hT with hT | hT
    · exact (h1 p.1).2 T hT
    · exact (s1 p.2).2 T hT
  · cases ys with
    | nil => simp at hl
    | cons y ys =>
      have e0 := hy 0 f rfl
      simp only [List.getElem?_cons_zero, ho, h2] at e0
      obtain ⟨a, ⟨ha1, ha2⟩, ha3⟩ := h3 H enc W n _ _ e0
      obtain ⟨b, hb, hb3⟩ := s2 H enc W n cs ys (by simpa using hl) (fun i f' hf => by simpa using hy (i + 1) f' (by simpa using hf))
      refine ⟨(a, b), fun j T u hT hu => ?_, by simp only [List.map_cons, Rows.uptoBulkAll]; omega⟩
      by_cases hj : j < (f1 a).cells.length
      · rw [List.getElem?_append_left hj] at hT
        have hk : j < k1 := by rw [(h1 a).1] at hj; exact hj
        refine ha2 j T u hT ?_
        rw [List.getElem?_take, if_pos hk, List.getElem?_drop]
        exact hu
      · rw [List.getElem?_append_right (by show (f1 a).cells.length ≤ j; omega)] at hT
        rw [(h1 a).1] at hj hT
        refine hb (j - k1) T u hT ?_
        rw [← hu]; congr 1; omega
theorem RdM.struct {t : TypeId} {fs : Array Field} {k : Nat} {β : Type} {g : β → List Tree} {μ : β → Nat} (ht : P.underlying t = some (.struct fs)) (hc : P.cellsOf t = k) (h : RdFM P 0 fs.toList k g μ) : RdM P t k (fun b => .agg (g b)) (fun b => μ b + 1) := by
  obtain ⟨s1, s2⟩ := h
  refine ⟨fun b => s1 b, hc, fun H enc W fuel cs x hx => ?_⟩
  obtain ⟨xs, n, _, hxe, hl, hlen, hf⟩ := DataW.trod_struct ht hx
  obtain ⟨b, hb, hμ⟩ := s2 H enc W n cs xs (by simpa using hlen) (fun i f hi => hf i f (by simpa using hi))
  refine ⟨b, ⟨by rw [hl, hc]; exact (s1 b).1.symm, fun j T u hT hu => hb j T u hT (by simpa using hu)⟩, ?_⟩
  rw [hxe]; simp only [Rows.uptoBulk]; omega

/-- A one-cell argument. -/
theorem RdM.arg {t : TypeId} {α : Type} {f : α → Tree} {μ : α → Nat} (h : RdM P t 1 f μ) (h1 : ∀ a, (f a).isCell = true) {H : Type} {enc : TypeId × Value → H} {v : Value} {d : DataW H} {ps : List MemPlace} (hd : DataW.Trod enc P W 0 (fun _ => true) true t v d ps) (hv : v.cells.toList = [v]) :
    ∃ a, TRep W (fun b => b < W.heap.size) (f a) v ∧ μ a ≤ Rows.uptoBulk d := by
  obtain ⟨fuel, hf⟩ := hd
  obtain ⟨a, ⟨c1, c2⟩, c3⟩ := h.2.2 H enc W fuel _ _ hf
  refine ⟨a, c2 0 _ _ ?_ (by rw [hv]; rfl), c3⟩
  cases hfa : f a with
  | agg cs => have := h1 a; rw [hfa] at this; cases this
  | sc v => rfl
  | lst k xs => rfl
theorem bulk_bound {H : Type} {l : List (DataW H)} (hk : Rows.uptoSmall H l = true) : Rows.uptoBulkAll l ≤ 1048576 := of_decide_eq_true hk
theorem sum_mem {α : Type} {μ : α → Nat} {l : List α} {a : α} (h : a ∈ l) : μ a ≤ (l.map μ).sum := by
  induction l with
  | nil => cases h
  | cons b l ih =>
    simp only [List.map_cons, List.sum_cons]
    rcases List.mem_cons.1 h with rfl | h
    · omega
    · have := ih h; omega
theorem sum_len {α : Type} {μ : α → Nat} (hμ : ∀ a, 1 ≤ μ a) (l : List α) : l.length ≤ (l.map μ).sum := by
  induction l with
  | nil => simp
  | cons b l ih => have := hμ b; simp only [List.map_cons, List.sum_cons, List.length_cons]; omega
end Go.Ab
end
section
namespace Go.Proofs
open Go.Shelf
def Tryz.lays260_ren : Go.Shelf.Ren := ⟨fun | 260 => 205 | n => n, fun | 9 => 9 | 21 => 21 | 3 => 3 | 4 => 4 | 5 => 5 | 119 => 242 | 0 => 0 | 46 => 194 | 139 => 245 | 138 => 244 | n => n, fun | 3 => 0 | 4 => 1 | n => n⟩
theorem Tryz.lays260 : Go.Proofs.Lays.n260 Tryz.prog Tryz.lays260_ren := {
  mixed := by kernel_rfl
  f260 := Tryz.func205.trans (congrArg some (by kernel_rfl))
  t0 := Tryz.underlying0
  a0 := Tryz.isAgg0
  z0 := Tryz.sizeOf0
  v0 := Tryz.zeroValue0
  t3 := Tryz.underlying3
  a3 := Tryz.isAgg3
  z3 := Tryz.sizeOf3
  v3 := Tryz.zeroValue3
  t4 := Tryz.underlying4
  a4 := Tryz.isAgg4
  z4 := Tryz.sizeOf4
  v4 := Tryz.zeroValue4
  t5 := Tryz.underlying5
  a5 := Tryz.isAgg5
  z5 := Tryz.sizeOf5
  v5 := Tryz.zeroValue5
  t9 := Tryz.underlying9
  a9 := Tryz.isAgg9
  z9 := Tryz.sizeOf9
  v9 := Tryz.zeroValue9
  t21 := Tryz.underlying21
  a21 := Tryz.isAgg21
  z21 := Tryz.sizeOf21
  v21 := Tryz.zeroValue21
  t46 := Tryz.underlying194
  a46 := Tryz.isAgg194
  z46 := Tryz.sizeOf194
  v46 := Tryz.zeroValue194
  t119 := Tryz.underlying242
  a119 := Tryz.isAgg242
  z119 := Tryz.sizeOf242
  t138 := Tryz.underlying244
  a138 := Tryz.isAgg244
  z138 := Tryz.sizeOf244
  v138 := Tryz.zeroValue244
  t139 := Tryz.underlying245
  a139 := Tryz.isAgg245
  z139 := Tryz.sizeOf245
  v139 := Tryz.zeroValue245
  g3 := by kernel_rfl
  g4 := by kernel_rfl }
end Go.Proofs
end
