/- Parts of the proof: ChMerge2, ChMerge3, MergeOne, ChMerge4, ChMerge5, ChMerge6, Frame, AbBulk. -/
import Derived.Test.YtbdbibmbfmlobaaM1
import Derived.Test.YtbdbibmbfmlobaaM2
import Derived.Test.YtbdbibmbfmlobaaM3
import Derived.Test.YtbdbibmbfmlobaaM4
import Derived.Test.YtbdbibmbfmlobaaM5
import Derived.Test.YtbdbibmbfmlobaaM6
import Derived.Test.YtbdbibmbfmlobaaRows
import Derived.JoinedOf
import Derived.ProofKit
section
set_option linter.unusedVariables false
set_option linter.unusedSimpArgs false
set_option maxRecDepth 100000
set_option maxHeartbeats 4000000
open Go Go.Proofs Go.Ab
namespace Go.Ch
theorem fc_mread (n : Nat) (d : List DStep) (hn : n ≤ 100000000) (hv : DValid d) (hl : oldD d = n) (hd : DN 400000000000 d) : FC Try.prog 144 [VI (n : Int), VL 4 dstepT d] (app emp []) (.agg [.row 1 ((actOfL d).ins.length), .row 2 ((actOfL d).cut.length), .row 3 ((actOfL d).set.length)]) (app emp [(0, .box [.row 1 ((actOfL d).ins.length), .row 2 ((actOfL d).cut.length), .row 3 ((actOfL d).set.length)]), (1, OR 1 elemsT ((actOfL d).ins)), (2, OR 1 boolT ((actOfL d).cut)), (3, OR 1 attrsT ((actOfL d).set))]) := by
 refine .go Try.f144 ?_
 refine .len 1 (fun hl1 => ?_)
 have hv1 := hv.2.1
 have hv2 := hv.2.2
 refine .loop (α := Int × Nat × (List (List Elem)) × (List Bool) × (List (List Attr))) [.r [], .r [(1, X (Xn ((n : Int) + 1))), (2, X (Xmz 1 elemsT 24 ((n : Int) + 1) ((n : Int) + 1) ([] : (List Elem)) [TN] ⟨tw_nil (by decide), trivial⟩)), (4, X (Xmk 1 boolT 40 (n : Int) (n : Int) false)), (6, X (Xmz 1 attrsT 56 (n : Int) (n : Int) ([] : (List Attr)) [TN] ⟨tw_nil (by decide), trivial⟩))], .r [], .r [(1, X (Xl dstepT d))], .le (.eb 72 0 (.row 24 (n + 1)) (.row 24 ((List.replicate (n + 1) ([] : (List Elem))).length)) (by simp only [List.length_replicate])), .le (.eb 72 1 (.row 40 n) (.row 40 ((List.replicate n false).length)) (by simp only [List.length_replicate])), .le (.eb 72 2 (.row 56 n) (.row 56 ((List.replicate n ([] : (List Attr))).length)) (by simp only [List.length_replicate]))] 120 (fun (w, i, I, C, S) => ([(4, .ptr 0 0), (5, .ptr 72 0), (6, VI w), (19, VL 4 dstepT d), (20, VI (d.length : Int)), (21, VI (i : Int))], [(0, .box [VN, VN, VN]), (24, OR 1 elemsT I), (40, OR 1 boolT C), (56, OR 1 attrsT S), (72, .box [.row 24 I.length, .row 40 C.length, .row 56 S.length])])) (fun (w, i, I, C, S) => i ≤ d.length ∧ ∃ x, RI d n i I C S w x) (fun (w, i, I, C, S) => d.length - i) (0, 0, (List.replicate (n + 1) ([] : (List Elem))), (List.replicate n false), (List.replicate n ([] : (List Attr)))) ?_ ?_
 ·
  exact ⟨by omega, _, RI.start hl⟩
 rintro ⟨w, i, I, C, S⟩ I4 ih4
 try dsimp only at I4
 obtain ⟨x, hx⟩ := I4.2
 obtain ⟨l1, l2, l3, l4, l5⟩ := hx.lens hv
 refine .br [.r []] (decide ((i : Int) < (d.length : Int))) (fun h4 => ?_) (fun h4 => ?_)
 ·
  (try simp only [decide_eq_true_eq, decide_eq_false_iff_not, Int.not_lt, Int.not_le] at h4)
  obtain ⟨s1, s2, s3, s4, s5, s6, s7, s8⟩ := dlens_step (l := d) (i := i) (by omega) hv.1
  obtain ⟨hy, hy2, hy3⟩ := hd.at_ (k := i) (by omega)
  have ho := hx.old
  have hw := hx.at_
  have hdo := hv.1.all _ (getD_mem' (l := d) (k := i) (by omega))
  have hnn := sums_nn (l := d.drop (i + 1)) (fun s hs => hv.1.all s (List.mem_of_mem_drop hs))
  refine .br [.r [(0, X (Xi dstepT d (i : Int)))], .r [], .r []] ((((d.getD i default)).kind) == 1) (fun h12 => ?_) (fun h12 => ?_)
  ·
   (try simp only [beq_iff_eq, beq_eq_false_iff_ne, ne_eq] at h12)
   refine .back [.r [(5, X (Xp elemsT I w)), (6, X (Xs 1 elemsT 24 I (Int.toNat w) (((d.getD i default)).elems)))], .r [(0, X (Xn ((i : Int) + 1)))], .le (.eb 72 0 (.row 24 I.length) (.row 24 ((I.set (Int.toNat w) (((d.getD i default)).elems)).length)) (by simp only [List.length_set]))] [(0, 0), (24, 24), (40, 40), (56, 56), (72, 72)] (ih4 (w, (i + 1), (I.set (Int.toNat w) (((d.getD i default)).elems)), C, S) ?_ ?_)
   ·
    exact ⟨by omega, _, hx.add hv (by omega) h12⟩
   ·
    ((try dsimp only); omega)
  ·
   (try simp only [beq_iff_eq, beq_eq_false_iff_ne, ne_eq] at h12)
   rw [if_neg h12] at s1
   refine .br [.r []] ((((d.getD i default)).kind) == 2) (fun h14 => ?_) (fun h14 => ?_)
   ·
    (try simp only [beq_iff_eq, beq_eq_false_iff_ne, ne_eq] at h14)
    refine .loop (α := Nat × (List Bool)) [.r []] 232 (fun (k, C2) => ([(4, .ptr 0 0), (5, .ptr 72 0), (6, VI w), (8, .ptr 144 0), (19, VL 4 dstepT d), (20, VI (d.length : Int)), (21, VI (i : Int)), (52, VI (((d.getD i default)).n)), (53, VI (k : Int))], [(0, .box [VN, VN, VN]), (24, OR 1 elemsT I), (40, OR 1 boolT C2), (56, OR 1 attrsT S), (72, .box [.row 24 I.length, .row 40 C2.length, .row 56 S.length]), (144, .box [VI (((d.getD i default)).kind), VI (((d.getD i default)).n), VL 2 attrT (((d.getD i default)).attrs), VL 3 elemT (((d.getD i default)).elems)])])) (fun (k, C2) => (k : Int) ≤ (d.getD i default).n ∧ RC C n 0 k x C2) (fun (k, C2) => (d.getD i default).n.toNat - k) (0, C) ?_ ?_
    ·
     exact ⟨by omega, RC.start hx.cut⟩
    rintro ⟨k, C2⟩ I16 ih16
    try dsimp only at I16
    have m2 := I16.2.len (by omega) (by omega)
    refine .br [.r []] (decide ((k : Int) < (((d.getD i default)).n))) (fun h16 => ?_) (fun h16 => ?_)
    ·
     (try simp only [decide_eq_true_eq, decide_eq_false_iff_not, Int.not_lt, Int.not_le] at h16)
     refine .back [.r [], .r [(4, X (Xn (w + (k : Int)))), (5, X (Xp boolT C2 (w + (k : Int)))), (6, X (Xs 1 boolT 40 C2 (Int.toNat (w + (k : Int))) true))], .r [(0, X (Xn ((k : Int) + 1)))], .le (.eb 72 1 (.row 40 C2.length) (.row 40 ((C2.set (Int.toNat (w + (k : Int))) true).length)) (by simp only [List.length_set]))] [(0, 0), (24, 24), (40, 40), (56, 56), (72, 72), (144, 144)] (ih16 ((k + 1), (C2.set (Int.toNat (w + (k : Int))) true)) ?_ ?_)
     ·
      exact ⟨by omega, I16.2.next (by omega) (by omega)⟩
     ·
      ((try dsimp only); omega)
    ·
     (try simp only [decide_eq_true_eq, decide_eq_false_iff_not, Int.not_lt, Int.not_le] at h16)
     refine .back [.r [(3, X (Xn (w + (((d.getD i default)).n))))], .r [(0, X (Xn ((i : Int) + 1)))]] [(0, 0), (24, 24), (40, 40), (56, 56), (72, 72)] (ih4 ((w + (((d.getD i default)).n)), (i + 1), I, C2, S) ?_ ?_)
     ·
      have ek : k = (d.getD i default).n.toNat := by omega
      have ea : (d.getD i default).attrs = [] := by rcases hdo with ⟨q, _⟩ | ⟨q, e, b, n1, n2, v⟩; (omega); exact b h14
      refine ⟨by omega, _, hx.rest hv (by omega) h12 ?_ ?_⟩
      · rw [I16.2.eq, ek, h14]; rfl
      · rw [hx.set, ea, rep_same]; congr 2; omega
     ·
      ((try dsimp only); omega)
   ·
    (try simp only [beq_iff_eq, beq_eq_false_iff_ne, ne_eq] at h14)
    refine .loop (α := Nat × (List (List Attr))) [.r []] 232 (fun (k, S2) => ([(4, .ptr 0 0), (5, .ptr 72 0), (6, VI w), (8, .ptr 144 0), (19, VL 4 dstepT d), (20, VI (d.length : Int)), (21, VI (i : Int)), (28, VI (((d.getD i default)).n)), (29, VI (k : Int))], [(0, .box [VN, VN, VN]), (24, OR 1 elemsT I), (40, OR 1 boolT C), (56, OR 1 attrsT S2), (72, .box [.row 24 I.length, .row 40 C.length, .row 56 S2.length]), (144, .box [VI (((d.getD i default)).kind), VI (((d.getD i default)).n), VL 2 attrT (((d.getD i default)).attrs), VL 3 elemT (((d.getD i default)).elems)])])) (fun (k, S2) => (k : Int) ≤ (d.getD i default).n ∧ RS n k (d.getD i default).attrs x S2) (fun (k, S2) => (d.getD i default).n.toNat - k) (0, S) ?_ ?_
    ·
     exact ⟨by omega, RS.start hx.set⟩
    rintro ⟨k, S2⟩ I8 ih8
    try dsimp only at I8
    have m3 := I8.2.len hx.fit (by omega) (by omega)
    refine .br [.r []] (decide ((k : Int) < (((d.getD i default)).n))) (fun h8 => ?_) (fun h8 => ?_)
    ·
     (try simp only [decide_eq_true_eq, decide_eq_false_iff_not, Int.not_lt, Int.not_le] at h8)
     refine .back [.r [], .r [(4, X (Xn (w + (k : Int)))), (7, X (Xp attrsT S2 (w + (k : Int)))), (8, X (Xs 1 attrsT 56 S2 (Int.toNat (w + (k : Int))) (((d.getD i default)).attrs)))], .r [(0, X (Xn ((k : Int) + 1)))], .le (.eb 72 2 (.row 56 S2.length) (.row 56 ((S2.set (Int.toNat (w + (k : Int))) (((d.getD i default)).attrs)).length)) (by simp only [List.length_set]))] [(0, 0), (24, 24), (40, 40), (56, 56), (72, 72), (144, 144)] (ih8 ((k + 1), (S2.set (Int.toNat (w + (k : Int))) (((d.getD i default)).attrs))) ?_ ?_)
     ·
      exact ⟨by omega, I8.2.next hx.fit (by omega) (by omega)⟩
     ·
      ((try dsimp only); omega)
    ·
     (try simp only [decide_eq_true_eq, decide_eq_false_iff_not, Int.not_lt, Int.not_le] at h8)
     refine .back [.r [(3, X (Xn (w + (((d.getD i default)).n))))], .r [(0, X (Xn ((i : Int) + 1)))]] [(0, 0), (24, 24), (40, 40), (56, 56), (72, 72)] (ih4 ((w + (((d.getD i default)).n)), (i + 1), I, C, S2) ?_ ?_)
     ·
      have ek : k = (d.getD i default).n.toNat := by omega
      refine ⟨by omega, _, hx.rest hv (by omega) h12 ?_ ?_⟩
      · rw [hx.cut, show ((d.getD i default).kind == 2) = false by simpa using h14, rep_same]; congr 2; omega
      · rw [I8.2.eq, ek]
     ·
      ((try dsimp only); omega)
 ·
  (try simp only [decide_eq_true_eq, decide_eq_false_iff_not, Int.not_lt, Int.not_le] at h4)
  have hG := (hx.done (by omega))
  obtain ⟨g1, g2, g3⟩ := hG
  have e1 : ((actOfL d).ins.length : Nat) = I.length := by
   first | rw [g1] | rw [g2] | rw [g3]
  have e2 : ((actOfL d).cut.length : Nat) = C.length := by
   first | rw [g1] | rw [g2] | rw [g3]
  have e3 : ((actOfL d).set.length : Nat) = S.length := by
   first | rw [g1] | rw [g2] | rw [g3]
  have e4 : ((actOfL d).ins : List (List Elem)) = I := by
   first | rw [g1] | rw [g2] | rw [g3]
  have e5 : ((actOfL d).cut : List Bool) = C := by
   first | rw [g1] | rw [g2] | rw [g3]
  have e6 : ((actOfL d).set : List (List Attr)) = S := by
   first | rw [g1] | rw [g2] | rw [g3]
  exact .finE [.r []] [(0, 0), (24, 1), (40, 2), (56, 3)] (fun (z0, z1, z2, z3, z4, z5) => (.agg [.row 1 z0, .row 2 z1, .row 3 z2], [(0, .box [.row 1 z0, .row 2 z1, .row 3 z2]), (1, OR 1 elemsT z3), (2, OR 1 boolT z4), (3, OR 1 attrsT z5)])) ((I.length : Nat), (C.length : Nat), (S.length : Nat), (I : List (List Elem)), (C : List Bool), (S : List (List Attr))) (((actOfL d).ins.length : Nat), ((actOfL d).cut.length : Nat), ((actOfL d).set.length : Nat), ((actOfL d).ins : List (List Elem)), ((actOfL d).cut : List Bool), ((actOfL d).set : List (List Attr))) (pr e1 (pr e2 (pr e3 (pr e4 (pr e5 e6)))))
end Go.Ch
end
section
set_option linter.unusedVariables false
set_option linter.unusedSimpArgs false
set_option maxRecDepth 100000
set_option maxHeartbeats 4000000
open Go Go.Proofs Go.Ab
namespace Go.Ch
theorem fc_gap (node : Int) (o : List Elem) (c : List Conf) (a b : List Elem) (ho : o.length + a.length + b.length ≤ 100000000000) (hc : c.length ≤ 100000000000) : FC Try.prog 145 [.ptr 0 0, VL 3 elemT a, VL 3 elemT b] (app emp [(0, .box [VI node, .row 1 o.length, .row 2 c.length]), (1, OR 3 elemT o), (2, OR 5 confT c)]) (.tup []) (app emp [(0, .box [VI node, .row 1 ((gapO o a b).length), .row 2 ((gapC node o a b c).length)]), (1, OR 3 elemT (gapO o a b)), (2, OR 5 confT (gapC node o a b c))]) := by
 refine .go Try.f145 ?_
 refine .len 1 (fun hl1 => ?_)
 refine .len 2 (fun hl2 => ?_)
 refine .br [.r [], .r [(6, X (Xap 3 elemT 1 o a))], .r [(1, X (Xl elemT b)), (6, Xv 2 (!((b.length : Int) == 0)) (Xc0 (fc_fsame a b) X0)), (7, X (Xk' ((b.length : Int) == 0)))]] (((b.length : Int) == 0) || (sameF a b)) (fun h2 => ?_) (fun h2 => ?_)
 ·
  (try simp only [Bool.or_eq_true, Bool.or_eq_false_iff, beq_iff_eq, beq_eq_false_iff_ne, ne_eq] at h2)
  have e1 : ((gapO o a b).length : Nat) = (o ++ a).length := by
   (try unfold gapO); (try unfold gapC); ((repeat' split) <;> first | rfl | omega | (simp_all; done) | (simp_all; omega))
  have e2 : ((gapC node o a b c).length : Nat) = c.length := by
   (try unfold gapO); (try unfold gapC); ((repeat' split) <;> first | rfl | omega | (simp_all; done) | (simp_all; omega))
  have e3 : ((gapO o a b) : List Elem) = (o ++ a) := by
   (try unfold gapO); (try unfold gapC); ((repeat' split) <;> first | rfl | omega | (simp_all; done) | (simp_all; omega))
  have e4 : ((gapC node o a b c) : List Conf) = c := by
   (try unfold gapO); (try unfold gapC); ((repeat' split) <;> first | rfl | omega | (simp_all; done) | (simp_all; omega))
  exact .finE [] [(0, 0), (1, 1), (2, 2)] (fun (z0, z1, z2, z3) => (.tup [], [(0, .box [VI node, .row 1 z0, .row 2 z1]), (1, OR 3 elemT z2), (2, OR 5 confT z3)])) (((o ++ a).length : Nat), (c.length : Nat), ((o ++ a) : List Elem), (c : List Conf)) (((gapO o a b).length : Nat), ((gapC node o a b c).length : Nat), ((gapO o a b) : List Elem), ((gapC node o a b c) : List Conf)) (pr e1 (pr e2 (pr e3 e4)))
 ·
  (try simp only [Bool.or_eq_true, Bool.or_eq_false_iff, beq_iff_eq, beq_eq_false_iff_ne, ne_eq] at h2)
  refine .br [.r [(6, X (Xap 3 elemT 1 (o ++ a) b))], .r [(1, X (Xl elemT a))]] (decide ((a.length : Int) > 0)) (fun h4 => ?_) (fun h4 => ?_)
  ·
   (try simp only [decide_eq_true_eq, decide_eq_false_iff_not, Int.not_lt, Int.not_le, gt_iff_lt] at h4)
   have e5 : ((gapO o a b).length : Nat) = ((o ++ a) ++ b).length := by
    (try unfold gapO); (try unfold gapC); ((repeat' split) <;> first | rfl | omega | (simp_all; done) | (simp_all; omega))
   have e6 : ((gapC node o a b c).length : Nat) = (c ++ [({ kind := 0, node := node, fr := (o.length : Int), to := (((o ++ a) ++ b).length : Int), name := { data := #[] } } : Conf)]).length := by
    (try unfold gapO); (try unfold gapC); ((repeat' split) <;> first | rfl | omega | (simp_all; done) | (simp_all; omega))
   have e7 : ((gapO o a b) : List Elem) = ((o ++ a) ++ b) := by
    (try unfold gapO); (try unfold gapC); ((repeat' split) <;> first | rfl | omega | (simp_all; done) | (simp_all; omega))
   have e8 : ((gapC node o a b c) : List Conf) = (c ++ [({ kind := 0, node := node, fr := (o.length : Int), to := (((o ++ a) ++ b).length : Int), name := { data := #[] } } : Conf)]) := by
    (try unfold gapO); (try unfold gapC); ((repeat' split) <;> first | rfl | omega | (simp_all; done) | (simp_all; omega))
   exact .finE [.r [(17, X (rowC confT [({ kind := 0, node := node, fr := (o.length : Int), to := (((o ++ a) ++ b).length : Int), name := { data := #[] } } : Conf)] (Xap 5 confT 2 c [({ kind := 0, node := node, fr := (o.length : Int), to := (((o ++ a) ++ b).length : Int), name := { data := #[] } } : Conf)])))]] [(0, 0), (1, 1), (2, 2)] (fun (z0, z1, z2, z3) => (.tup [], [(0, .box [VI node, .row 1 z0, .row 2 z1]), (1, OR 3 elemT z2), (2, OR 5 confT z3)])) ((((o ++ a) ++ b).length : Nat), ((c ++ [({ kind := 0, node := node, fr := (o.length : Int), to := (((o ++ a) ++ b).length : Int), name := { data := #[] } } : Conf)]).length : Nat), (((o ++ a) ++ b) : List Elem), ((c ++ [({ kind := 0, node := node, fr := (o.length : Int), to := (((o ++ a) ++ b).length : Int), name := { data := #[] } } : Conf)]) : List Conf)) (((gapO o a b).length : Nat), ((gapC node o a b c).length : Nat), ((gapO o a b) : List Elem), ((gapC node o a b c) : List Conf)) (pr e5 (pr e6 (pr e7 e8)))
  ·
   (try simp only [decide_eq_true_eq, decide_eq_false_iff_not, Int.not_lt, Int.not_le, gt_iff_lt] at h4)
   have e9 : ((gapO o a b).length : Nat) = ((o ++ a) ++ b).length := by
    (try unfold gapO); (try unfold gapC); ((repeat' split) <;> first | rfl | omega | (simp_all; done) | (simp_all; omega))
   have e10 : ((gapC node o a b c).length : Nat) = c.length := by
    (try unfold gapO); (try unfold gapC); ((repeat' split) <;> first | rfl | omega | (simp_all; done) | (simp_all; omega))
   have e11 : ((gapO o a b) : List Elem) = ((o ++ a) ++ b) := by
    (try unfold gapO); (try unfold gapC); ((repeat' split) <;> first | rfl | omega | (simp_all; done) | (simp_all; omega))
   have e12 : ((gapC node o a b c) : List Conf) = c := by
    (try unfold gapO); (try unfold gapC); ((repeat' split) <;> first | rfl | omega | (simp_all; done) | (simp_all; omega))
   exact .finE [] [(0, 0), (1, 1), (2, 2)] (fun (z0, z1, z2, z3) => (.tup [], [(0, .box [VI node, .row 1 z0, .row 2 z1]), (1, OR 3 elemT z2), (2, OR 5 confT z3)])) ((((o ++ a) ++ b).length : Nat), (c.length : Nat), (((o ++ a) ++ b) : List Elem), (c : List Conf)) (((gapO o a b).length : Nat), ((gapC node o a b c).length : Nat), ((gapO o a b) : List Elem), ((gapC node o a b c) : List Conf)) (pr e9 (pr e10 (pr e11 e12)))

section
variable {node : Int} {o : List Elem} {x : Elem} {a b : List Attr} {ca cb : Bool} {c : List Conf}
theorem elmO_cut (h : ca = true ∨ cb = true) : elmO o x a b ca cb = o := by unfold elmO; rw [if_pos (by simpa using h)]
theorem elmO_keep (h : ca = false ∧ cb = false) : elmO o x a b ca cb = o ++ [keptE x a b] := by unfold elmO; rw [if_neg (by rw [h.1, h.2]; decide)]
theorem elmC_c1 (h : ca = true ∨ cb = true) (h3 : ca = false ∧ (0 : Int) < a.length ∨ cb = false ∧ (0 : Int) < b.length) : elmC node o a b ca cb c = c ++ [⟨1, node, o.length, o.length, { data := #[] }⟩] := by
  unfold elmC; rw [if_pos (by simpa using h), if_pos (by rcases h3 with ⟨p, q⟩ | ⟨p, q⟩; exact .inl ⟨p, by omega⟩; exact .inr ⟨p, by omega⟩)]
theorem elmC_c0 (h : ca = true ∨ cb = true) (h3 : (ca = true ∨ (a.length : Int) ≤ 0) ∧ (cb = true ∨ (b.length : Int) ≤ 0)) : elmC node o a b ca cb c = c := by
  unfold elmC; rw [if_pos (by simpa using h), if_neg (by
    rintro (⟨p, q⟩ | ⟨p, q⟩)
    · rcases h3.1 with r | r; (rw [p] at r; cases r); omega
    · rcases h3.2 with r | r; (rw [p] at r; cases r); omega)]
theorem elmC_keep (h : ca = false ∧ cb = false) : elmC node o a b ca cb c = c ++ attC node o.length b a := by unfold elmC; rw [if_neg (by rw [h.1, h.2]; decide)]
theorem clash_yes {x : Attr} (h : 0 ≤ idxF b x.name 0 ∧ seq (b.getD (idxF b x.name 0).toNat default).val x.val = false) : clashB b x = true := by
  unfold clashB; rw [decide_eq_true h.1, h.2]; rfl
theorem clash_no {x : Attr} (h : idxF b x.name 0 < 0 ∨ seq (b.getD (idxF b x.name 0).toNat default).val x.val = true) : clashB b x = false := by
  unfold clashB
  rcases h with h | h
  · rw [decide_eq_false (by omega)]; rfl
  · rw [h]; simp
end

theorem fc_elem2 (node : Int) (o : List Elem) (c : List Conf) (x : Elem) (a b : List Attr) (ca cb : Bool) (hx : x.attrs.length + a.length + b.length ≤ 1000000000000) (ho : o.length ≤ 100000000000) (hc : c.length + a.length ≤ 1000000000000) : FC Try.prog 146 [.ptr 0 0, .t (elemT x), VL 2 attrT a, VL 2 attrT b, VB ca, VB cb] (app emp [(0, .box [VI node, .row 1 o.length, .row 2 c.length]), (1, OR 3 elemT o), (2, OR 5 confT c)]) (.tup []) (app emp [(0, .box [VI node, .row 1 ((elmO o x a b ca cb).length), .row 2 ((elmC node o a b ca cb c).length)]), (1, OR 3 elemT (elmO o x a b ca cb)), (2, OR 5 confT (elmC node o a b ca cb c))]) := by
 refine .go Try.f146 ?_
 refine .len 2 (fun hl2 => ?_)
 refine .len 3 (fun hl3 => ?_)
 refine .br [.r [], .r [], .r [(3, X (Xk' ca))]] (ca || cb) (fun h2 => ?_) (fun h2 => ?_)
 ·
  (try simp only [Bool.or_eq_true, Bool.or_eq_false_iff] at h2)
  refine .br [.r [(4, Xv 1 (!ca) (Xl attrT a)), (5, Xv 1 (!ca) X0), (6, X (Xk (!ca))), (9, Xv 1 (!(!ca && decide ((a.length : Int) > 0))) X0), (10, Xv 1 (!(!ca && decide ((a.length : Int) > 0))) X0), (12, Xv 1 ((!(!ca && decide ((a.length : Int) > 0))) && (!cb)) (Xl attrT b)), (13, Xv 1 ((!(!ca && decide ((a.length : Int) > 0))) && (!cb)) X0), (14, Xka (!(!ca && decide ((a.length : Int) > 0))) (!cb)), (15, X (Xk' (!ca && decide ((a.length : Int) > 0))))]] ((!ca && decide ((a.length : Int) > 0)) || (!cb && decide ((b.length : Int) > 0))) (fun h3 => ?_) (fun h3 => ?_)
  ·
   (try simp only [decide_eq_true_eq, decide_eq_false_iff_not, Int.not_lt, Int.not_le, gt_iff_lt, Bool.not_eq_true', Bool.not_eq_false', Bool.and_eq_true, Bool.and_eq_false_iff, Bool.or_eq_true, Bool.or_eq_false_iff] at h3)
   have e1 : ((elmO o x a b ca cb).length : Nat) = o.length := by
    (first | rw [elmO_cut h2] | rw [elmO_keep h2] | rw [elmC_c1 h2 h3] | rw [elmC_c0 h2 h3] | rw [elmC_keep h2, hq]); (first | done | rfl | simp | skip)
   have e2 : ((elmC node o a b ca cb c).length : Nat) = (c ++ [({ kind := 1, node := node, fr := (o.length : Int), to := (o.length : Int), name := { data := #[] } } : Conf)]).length := by
    (first | rw [elmO_cut h2] | rw [elmO_keep h2] | rw [elmC_c1 h2 h3] | rw [elmC_c0 h2 h3] | rw [elmC_keep h2, hq]); (first | done | rfl | simp | skip)
   have e3 : ((elmO o x a b ca cb) : List Elem) = o := by
    (first | rw [elmO_cut h2] | rw [elmO_keep h2] | rw [elmC_c1 h2 h3] | rw [elmC_c0 h2 h3] | rw [elmC_keep h2, hq]); (first | done | rfl | simp | skip)
   have e4 : ((elmC node o a b ca cb c) : List Conf) = (c ++ [({ kind := 1, node := node, fr := (o.length : Int), to := (o.length : Int), name := { data := #[] } } : Conf)]) := by
    (first | rw [elmO_cut h2] | rw [elmO_keep h2] | rw [elmC_c1 h2 h3] | rw [elmC_c0 h2 h3] | rw [elmC_keep h2, hq]); (first | done | rfl | simp | skip)
   exact .finE [.r [(13, X (rowC confT [({ kind := 1, node := node, fr := (o.length : Int), to := (o.length : Int), name := { data := #[] } } : Conf)] (Xap 5 confT 2 c [({ kind := 1, node := node, fr := (o.length : Int), to := (o.length : Int), name := { data := #[] } } : Conf)])))]] [(0, 0), (1, 1), (2, 2)] (fun (z0, z1, z2, z3) => (.tup [], [(0, .box [VI node, .row 1 z0, .row 2 z1]), (1, OR 3 elemT z2), (2, OR 5 confT z3)])) ((o.length : Nat), ((c ++ [({ kind := 1, node := node, fr := (o.length : Int), to := (o.length : Int), name := { data := #[] } } : Conf)]).length : Nat), (o : List Elem), ((c ++ [({ kind := 1, node := node, fr := (o.length : Int), to := (o.length : Int), name := { data := #[] } } : Conf)]) : List Conf)) (((elmO o x a b ca cb).length : Nat), ((elmC node o a b ca cb c).length : Nat), ((elmO o x a b ca cb) : List Elem), ((elmC node o a b ca cb c) : List Conf)) (pr e1 (pr e2 (pr e3 e4)))
  ·
   (try simp only [decide_eq_true_eq, decide_eq_false_iff_not, Int.not_lt, Int.not_le, gt_iff_lt, Bool.not_eq_true', Bool.not_eq_false', Bool.and_eq_true, Bool.and_eq_false_iff, Bool.or_eq_true, Bool.or_eq_false_iff] at h3)
   have e5 : ((elmO o x a b ca cb).length : Nat) = o.length := by
    (first | rw [elmO_cut h2] | rw [elmO_keep h2] | rw [elmC_c1 h2 h3] | rw [elmC_c0 h2 h3] | rw [elmC_keep h2, hq]); (first | done | rfl | simp | skip)
   have e6 : ((elmC node o a b ca cb c).length : Nat) = c.length := by
    (first | rw [elmO_cut h2] | rw [elmO_keep h2] | rw [elmC_c1 h2 h3] | rw [elmC_c0 h2 h3] | rw [elmC_keep h2, hq]); (first | done | rfl | simp | skip)
   have e7 : ((elmO o x a b ca cb) : List Elem) = o := by
    (first | rw [elmO_cut h2] | rw [elmO_keep h2] | rw [elmC_c1 h2 h3] | rw [elmC_c0 h2 h3] | rw [elmC_keep h2, hq]); (first | done | rfl | simp | skip)
   have e8 : ((elmC node o a b ca cb c) : List Conf) = c := by
    (first | rw [elmO_cut h2] | rw [elmO_keep h2] | rw [elmC_c1 h2 h3] | rw [elmC_c0 h2 h3] | rw [elmC_keep h2, hq]); (first | done | rfl | simp | skip)
   exact .finE [] [(0, 0), (1, 1), (2, 2)] (fun (z0, z1, z2, z3) => (.tup [], [(0, .box [VI node, .row 1 z0, .row 2 z1]), (1, OR 3 elemT z2), (2, OR 5 confT z3)])) ((o.length : Nat), (c.length : Nat), (o : List Elem), (c : List Conf)) (((elmO o x a b ca cb).length : Nat), ((elmC node o a b ca cb c).length : Nat), ((elmO o x a b ca cb) : List Elem), ((elmC node o a b ca cb c) : List Conf)) (pr e5 (pr e6 (pr e7 e8)))
 ·
  (try simp only [Bool.or_eq_true, Bool.or_eq_false_iff] at h2)
  refine .loop (α := Nat × (List Conf)) [.r [(1, X (Xl attrT a))]] 115 (fun (i, q) => ([(0, .ptr 0 0), (2, VL 2 attrT a), (3, VL 2 attrT b), (7, .ptr 3 0), (12, VI (o.length : Int)), (57, VL 2 attrT a), (58, VI (a.length : Int)), (59, VI (i : Int))], [(0, .box [VI node, .row 1 o.length, .row 2 q.length]), (1, OR 3 elemT o), (2, OR 5 confT q), (3, .box [VI x.char, VI x.ref, VL 2 attrT x.attrs])])) (fun (i, q) => i ≤ a.length ∧ q = c ++ attC node o.length b (a.take i)) (fun (i, q) => a.length - i) (0, c) ?_ ?_
  ·
   exact ⟨by omega, by simp [attC]⟩
  rintro ⟨i, q⟩ I6 ih6
  try dsimp only at I6
  have ql := attC_len node o.length b (a.take i)
  have qq : q.length ≤ c.length + i := by rw [I6.2, List.length_append]; rw [List.length_take] at ql; omega
  refine .br [.r []] (decide ((i : Int) < (a.length : Int))) (fun h6 => ?_) (fun h6 => ?_)
  ·
   (try simp only [decide_eq_true_eq, decide_eq_false_iff_not, Int.not_lt, Int.not_le] at h6)
   have hb := idxF_bd b (a.getD i default).name _ 0 rfl
   refine .br [.r [(0, X (Xi attrT a (i : Int)))], .r [(2, X (Xc4 [(0, 139)] (fc_index b ⟨(((a.getD i default)).name), (((a.getD i default)).val)⟩) X0))], .r [(5, Xv 2 (decide ((idxF b (((a.getD i default)).name) 0) ≥ 0)) (Xi attrT b (idxF b (((a.getD i default)).name) 0)) (fun hg => by (try simp only [decide_eq_true_eq, decide_eq_false_iff_not, Int.not_lt, Int.not_le, ge_iff_le] at hg); exact ⟨(by omega), (by omega)⟩)), (6, Xv 1 (decide ((idxF b (((a.getD i default)).name) 0) ≥ 0)) X0), (7, Xv 1 (decide ((idxF b (((a.getD i default)).name) 0) ≥ 0)) X0), (9, Xv 1 (decide ((idxF b (((a.getD i default)).name) 0) ≥ 0)) X0), (10, Xv 2 (decide ((idxF b (((a.getD i default)).name) 0) ≥ 0)) X0), (11, X (Xk (decide ((idxF b (((a.getD i default)).name) 0) ≥ 0))))]] (decide ((idxF b (((a.getD i default)).name) 0) ≥ 0) && !(seq (((b.getD (Int.toNat (idxF b (((a.getD i default)).name) 0)) default)).val) (((a.getD i default)).val))) (fun h9 => ?_) (fun h9 => ?_)
   ·
    (try simp only [decide_eq_true_eq, decide_eq_false_iff_not, Int.not_lt, Int.not_le, ge_iff_le, Bool.not_eq_true', Bool.not_eq_false', Bool.and_eq_true, Bool.and_eq_false_iff] at h9)
    refine .back [.r [(11, X (Xn ((o.length : Int) + 1))), (16, X (rowC confT [({ kind := 2, node := node, fr := (o.length : Int), to := ((o.length : Int) + 1), name := ((a.getD i default)).name } : Conf)] (Xap 5 confT 2 q [({ kind := 2, node := node, fr := (o.length : Int), to := ((o.length : Int) + 1), name := ((a.getD i default)).name } : Conf)])))], .r [(0, X (Xn ((i : Int) + 1)))]] [(0, 0), (1, 1), (2, 2), (3, 3)] (ih6 ((i + 1), (q ++ [({ kind := 2, node := node, fr := (o.length : Int), to := ((o.length : Int) + 1), name := ((a.getD i default)).name } : Conf)])) ?_ ?_)
    ·
     refine ⟨by omega, ?_⟩
     rw [takeA (by omega), attC_snoc, if_pos (clash_yes h9), I6.2, List.append_assoc]
    ·
     ((try dsimp only); omega)
   ·
    (try simp only [decide_eq_true_eq, decide_eq_false_iff_not, Int.not_lt, Int.not_le, ge_iff_le, Bool.not_eq_true', Bool.not_eq_false', Bool.and_eq_true, Bool.and_eq_false_iff] at h9)
    refine .back [.r [(0, X (Xn ((i : Int) + 1)))]] [(0, 0), (1, 1), (2, 2), (3, 3)] (ih6 ((i + 1), q) ?_ ?_)
    ·
     refine ⟨by omega, ?_⟩
     rw [takeA (by omega), attC_snoc, if_neg (by rw [clash_no h9]; decide), I6.2, List.append_nil]
    ·
     ((try dsimp only); omega)
  ·
   (try simp only [decide_eq_true_eq, decide_eq_false_iff_not, Int.not_lt, Int.not_le] at h6)
   have hq : q = c ++ attC node o.length b a := by rw [I6.2, List.take_of_length_le (by omega)]
   have hfl := fm_len' rawG x.attrs b
   have e9 : ((elmO o x a b ca cb).length : Nat) = (o ++ [({ char := x.char, ref := x.ref, attrs := (fm rawG (fm rawG x.attrs b) a) } : Elem)]).length := by
    (first | rw [elmO_cut h2] | rw [elmO_keep h2] | rw [elmC_c1 h2 h3] | rw [elmC_c0 h2 h3] | rw [elmC_keep h2, hq]); (first | done | rfl | simp | skip)
   have e10 : ((elmC node o a b ca cb c).length : Nat) = q.length := by
    (first | rw [elmO_cut h2] | rw [elmO_keep h2] | rw [elmC_c1 h2 h3] | rw [elmC_c0 h2 h3] | rw [elmC_keep h2, hq]); (first | done | rfl | simp | skip)
   have e11 : ((elmO o x a b ca cb) : List Elem) = (o ++ [({ char := x.char, ref := x.ref, attrs := (fm rawG (fm rawG x.attrs b) a) } : Elem)]) := by
    (first | rw [elmO_cut h2] | rw [elmO_keep h2] | rw [elmC_c1 h2 h3] | rw [elmC_c0 h2 h3] | rw [elmC_keep h2, hq]); (first | done | rfl | simp | skip)
   have e12 : ((elmC node o a b ca cb c) : List Conf) = q := by
    (first | rw [elmO_cut h2] | rw [elmO_keep h2] | rw [elmC_c1 h2 h3] | rw [elmC_c0 h2 h3] | rw [elmC_keep h2, hq]); (first | done | rfl | simp | skip)
   exact .finE [.r [(3, X (Xc1 147 (fc_raw x.attrs b (by omega)) X0)), (5, X (Xc1 163 (fc_raw (fm rawG x.attrs b) a (by omega)) X0))], .r [(7, X (rowC elemT [({ char := x.char, ref := x.ref, attrs := (fm rawG (fm rawG x.attrs b) a) } : Elem)] (Xap 3 elemT 1 o [({ char := x.char, ref := x.ref, attrs := (fm rawG (fm rawG x.attrs b) a) } : Elem)])))]] [(0, 0), (1, 1), (2, 2)] (fun (z0, z1, z2, z3) => (.tup [], [(0, .box [VI node, .row 1 z0, .row 2 z1]), (1, OR 3 elemT z2), (2, OR 5 confT z3)])) (((o ++ [({ char := x.char, ref := x.ref, attrs := (fm rawG (fm rawG x.attrs b) a) } : Elem)]).length : Nat), (q.length : Nat), ((o ++ [({ char := x.char, ref := x.ref, attrs := (fm rawG (fm rawG x.attrs b) a) } : Elem)]) : List Elem), (q : List Conf)) (((elmO o x a b ca cb).length : Nat), ((elmC node o a b ca cb c).length : Nat), ((elmO o x a b ca cb) : List Elem), ((elmC node o a b ca cb c) : List Conf)) (pr e9 (pr e10 (pr e11 e12)))
end Go.Ch
end
section
set_option linter.unusedVariables false
set_option linter.unusedSimpArgs false
namespace Go.Ch
open Go Go.Ab

theorem diff_all {a b : List Elem} {Q : DU → Prop} (hK : ∀ x ∈ a, ∀ y ∈ b, Q (.K (chgU x y))) (hA : ∀ x ∈ b, Q (.A x)) (hC : Q .C) : ∀ u ∈ diffU a b, Q u := by
  unfold diffU
  intro u hu
  split at hu
  · rename_i ht
    rcases List.mem_append.1 hu with hu | hu
    · exact path_all (Q := Q) (fun i k h1 h2 => hK _ (ini_mem (getD_mem' h1)) _ (ini_mem (getD_mem' h2))) (fun k h => hA _ (ini_mem (getD_mem' h))) hC _ 0 0 rfl (Nat.zero_le _) (Nat.zero_le _) u hu
    · rw [List.mem_singleton] at hu; subst hu
      exact hK _ (getD_mem' (by have := ht.1.1.1; omega)) _ (getD_mem' (by have := ht.1.1.2; omega))
  · exact path_all (Q := Q) (fun i k h1 h2 => hK _ (getD_mem' h1) _ (getD_mem' h2)) (fun k h => hA _ (getD_mem' h)) hC _ 0 0 rfl (Nat.zero_le _) (Nat.zero_le _) u hu
theorem part_av {a : List Elem} (pa : partE a 0 = 0) : AV a := fun x hx => elem_ok (part_iff.1 pa x hx)
theorem diff_ok {a b : List Elem} (pa : partE a 0 = 0) (pb : partE b 0 = 0) (na : AN 1000000000 a) (nb : AN 1000000000 b) : ∀ u ∈ diffU a b, UnitOk u := by
  refine diff_all (fun x hx y hy => ?_) (fun x hx => ?_) trivial
  · have h1 := fm_len' chgG x.attrs y.attrs
    have h2 := na x hx
    have h3 := nb y hy
    exact ⟨chg_V np_mt (part_av pa x hx) (part_av pb y hy), by unfold chgU; omega⟩
  · exact ⟨part_iff.1 pb x hx, by have := nb x hx; omega⟩
theorem diff_len {a b : List Elem} (la : a.length ≤ 2000) (lb : b.length ≤ 2000) : (diffU a b).length ≤ 4001 := by
  unfold diffU
  split
  · have := path_len (a := ini a) (b := ini b) _ 0 0 rfl (Nat.zero_le _) (Nat.zero_le _)
    rw [ini_len, ini_len] at this
    rw [List.length_append]; simp only [List.length_singleton]; omega
  · have := path_len (a := a) (b := b) _ 0 0 rfl (Nat.zero_le _) (Nat.zero_le _); omega
theorem un_len : ∀ us : List DU, oldN us ≤ us.length ∧ newN us ≤ us.length
  | [] => ⟨Nat.le_refl _, Nat.le_refl _⟩
  | u :: us => by
    have := un_len us
    cases u <;> simp only [oldN, newN, List.length_cons] <;> omega
/-- The units of a delta between two flows. -/
theorem diff_mem {a b : List Elem} (pa : partE a 0 = 0) (pb : partE b 0 = 0) (na : AN 1000000000 a) (nb : AN 1000000000 b) (la : a.length ≤ 2000) (lb : b.length ≤ 2000) (u : DU) : u ∈ exD (doneD (diffU a b)) ↔ u ∈ diffU a b := by
  have h1 := diff_len la lb
  have h2 := un_len (diffU a b)
  obtain ⟨_, d2, _⟩ := doneD_ok (diff_ok pa pb na nb) (by omega) (by omega)
  exact dsw_mem d2 u
theorem actR_ins {x : Act} (h : ActFit x) : ∀ (m i : Nat), x.cut.length - i = m → i ≤ x.cut.length → ∀ k, i ≤ k → k ≤ x.cut.length → ∀ y ∈ x.ins.getD k default, DU.A y ∈ actR x i
  | 0, i, hm, hi => fun k h1 h2 y hy => by
    rw [actR_end' (by omega), show i = k by omega]
    exact List.mem_map.2 ⟨y, hy, rfl⟩
  | m + 1, i, hm, hi => fun k h1 h2 y hy => by
    have ih := actR_ins h m (i + 1) (by omega) (by omega)
    rw [actR, if_pos (by omega)]
    by_cases e : k = i
    · subst e; exact List.mem_append_left _ (List.mem_map.2 ⟨y, hy, rfl⟩)
    · have := ih k (by omega) h2 y hy
      split <;> exact List.mem_append_right _ (List.mem_cons_of_mem _ this)
theorem actR_cutm {x : Act} : ∀ (m i : Nat), x.cut.length - i = m → i ≤ x.cut.length → ∀ k, i ≤ k → k < x.cut.length → x.cut.getD k default = true → DU.C ∈ actR x i
  | 0, i, hm, hi => fun k h1 h2 _ => by omega
  | m + 1, i, hm, hi => fun k h1 h2 hb => by
    rw [actR, if_pos (by omega)]
    by_cases e : k = i
    · subst e; rw [if_pos hb]; exact List.mem_append_right _ (List.mem_cons_self ..)
    · have := actR_cutm m (i + 1) (by omega) (by omega) k (by omega) h2 hb
      split <;> exact List.mem_append_right _ (List.mem_cons_of_mem _ this)
theorem actR_set {x : Act} : ∀ (m i : Nat), x.cut.length - i = m → i ≤ x.cut.length → ∀ k, i ≤ k → k < x.cut.length → x.cut.getD k default = false → DU.K (x.set.getD k default) ∈ actR x i
  | 0, i, hm, hi => fun k h1 h2 _ => by omega
  | m + 1, i, hm, hi => fun k h1 h2 hb => by
    rw [actR, if_pos (by omega)]
    by_cases e : k = i
    · subst e; rw [if_neg (by rw [hb]; decide)]; exact List.mem_append_right _ (List.mem_cons_self ..)
    · have := actR_set m (i + 1) (by omega) (by omega) k (by omega) h2 hb
      split <;> exact List.mem_append_right _ (List.mem_cons_of_mem _ this)
theorem act_ins_len {d : List DStep} (hv : DValid d) : ∀ e ∈ (actOfL d).ins, (e.length : Int) ≤ newD d := by
  have key : ∀ i, i ≤ d.length → ∃ x, AIv d i x := by
    intro i
    induction i with
    | zero => intro _; exact ⟨_, AIv.start⟩
    | succ i ih => intro hi; obtain ⟨x, hx⟩ := ih (by omega); exact ⟨_, hx.next hv (by omega)⟩
  obtain ⟨x, hx⟩ := key d.length (Nat.le_refl _)
  have e := hx.done (Nat.le_refl _)
  subst e
  intro e he
  have := hx.el e he
  rw [List.drop_length] at this
  simp only [newD] at this
  omega
theorem act_bd {o a : List Elem} (po : partE o 0 = 0) (pa : partE a 0 = 0) (no : AN 10000000 o) (na : AN 10000000 a) (lo : o.length ≤ 2000) (la : a.length ≤ 2000) : ActBd (actOfL (doneD (diffU o a))) o.length := by
  have no' := an_up no (k := 1000000000) (by decide)
  have na' := an_up na (k := 1000000000) (by decide)
  obtain ⟨_, _, _, _, _, v1, w1, o1, r1, _⟩ := diff_law po pa no' na' (by omega) (by omega)
  obtain ⟨f1, f2⟩ := actOf_ok v1
  obtain ⟨_, l1, _⟩ := after_eq v1 o1 (part_av po)
  have hm := diff_mem po pa no' na' lo la
  have hal := after_len v1 o1
  rw [r1] at hal
  refine ⟨f1, l1, fun e he => ⟨by have := act_ins_len v1 e he; omega, fun y hy => ?_⟩, ?_⟩
  · obtain ⟨k, hk, rfl⟩ := List.mem_iff_getElem.1 he
    have hk2 := f1.1
    have := actR_ins f1 _ 0 rfl (Nat.zero_le _) k (Nat.zero_le _) (by omega) y (by simpa [List.getD, List.getElem?_eq_getElem hk] using hy)
    rw [f2, hm] at this
    exact diff_all (Q := fun u => ∀ y, u = .A y → y.attrs.length ≤ 10000000) (fun _ _ _ _ y h => by cases h) (fun x hx y h => by injection h with h; subst h; exact na x hx) (fun y h => by cases h) _ this y rfl
  · refine actF_set (Q := fun c => c.length ≤ 20000000) (fun s hs => ?_) (fun c hc => by cases hc)
    rcases v1.1.all s hs with ⟨_, _, q, _⟩ | ⟨q, _, z, n1, _, _⟩
    · rw [q]; simp
    · by_cases k2 : s.kind = 2
      · rw [z k2]; simp
      · have hu : DU.K s.attrs ∈ exS s := by
          unfold exS
          rw [if_neg (by omega), if_neg k2]
          exact List.mem_replicate.2 ⟨by omega, rfl⟩
        have := (hm _).1 (exD_mem hs hu)
        refine diff_all (Q := fun u => ∀ c, u = .K c → c.length ≤ 20000000) (fun x hx y hy c h => ?_) (fun x hx y h => by cases h) (fun y h => by cases h) _ this _ rfl
        injection h with h; subst h
        have h1 := fm_len' chgG x.attrs y.attrs
        have h2 := no x hx
        have h3 := na y hy
        unfold chgU; omega
/-! ### A flow and itself -/
theorem tab_self (a : List Elem) : ∀ (n i : Nat), a.length - i = n → i ≤ a.length → tabR a a i i = 0
  | 0, i, hn, hi => by rw [tabR, if_neg (by omega)]; omega
  | n + 1, i, hn, hi => by
    have ih := tab_self a n (i + 1) (by omega) (by omega)
    have hb := tab_bd' (a := a) (b := a) (i := i) (k := i) hi hi
    have hp : priceI (a.getD i default) (a.getD i default) = 0 := by unfold priceI; rw [if_pos (sameL_self _)]
    have ha : alikeB (a.getD i default) (a.getD i default) = true := by unfold alikeB; simp
    have e : tabR a a i i = min (1 + min (tabR a a (i + 1) i) (tabR a a i (i + 1))) (tabR a a (i + 1) (i + 1) + priceI (a.getD i default) (a.getD i default)) := by
      conv => lhs; rw [tabR]
      rw [if_pos (by omega), if_pos (by omega), if_pos ha]
    omega
theorem chg_self {x : Elem} (h : VG false x.attrs) : chgU x x = [] := by
  have := chg_nil h h
  rw [sameL_self] at this
  exact len0.1 (fun q => absurd (this.1 q) (by decide))
theorem path_self {a : List Elem} (ha : AV a) : ∀ (n i : Nat), a.length - i = n → i ≤ a.length → ∀ u ∈ pathU a a i i, u = .K []
  | 0, i, hn, hi => fun u hu => by rw [path_end (by omega) (by omega)] at hu; cases hu
  | n + 1, i, hn, hi => fun u hu => by
    have hp : priceI (a.getD i default) (a.getD i default) = 0 := by unfold priceI; rw [if_pos (sameL_self _)]
    have hk : KeepP a a i i := ⟨⟨by omega, by omega⟩, by unfold alikeB; simp, by rw [tab_self a _ i rfl hi, tab_self a _ (i + 1) rfl (by omega), hp]; rfl⟩
    rw [path_keep hk] at hu
    rcases List.mem_cons.1 hu with rfl | hu
    · rw [chg_self (ha _ (getD_mem' (by omega)))]
    · exact path_self ha n (i + 1) (by omega) (by omega) u hu
theorem diff_self {a : List Elem} (ha : AV a) : ∀ u ∈ diffU a a, u = .K [] := by
  unfold diffU
  intro u hu
  split at hu
  · rename_i ht
    rcases List.mem_append.1 hu with hu | hu
    · exact path_self ha.ini _ 0 rfl (Nat.zero_le _) u hu
    · rw [List.mem_singleton] at hu; subst hu
      rw [chg_self (ha.lst ht.1.1.1)]
  · exact path_self ha _ 0 rfl (Nat.zero_le _) u hu
/-- An act that does nothing. -/
structure NoAct (A : Act) (n : Nat) : Prop where
  ins : ∀ i, i ≤ n → A.ins.getD i default = []
  cut : ∀ i, i < n → A.cut.getD i default = false
  set : ∀ i, i < n → A.set.getD i default = []
theorem act_self {o : List Elem} (po : partE o 0 = 0) (no : AN 10000000 o) (lo : o.length ≤ 2000) : NoAct (actOfL (doneD (diffU o o))) o.length := by
  have no' := an_up no (k := 1000000000) (by decide)
  have hb := act_bd po po no no lo lo
  obtain ⟨_, _, _, _, _, v1, w1, o1, r1, _⟩ := diff_law po po no' no' (by omega) (by omega)
  obtain ⟨f1, f2⟩ := actOf_ok v1
  have hm := diff_mem po po no' no' lo lo
  have hl := hb.len
  have all : ∀ u ∈ actR (actOfL (doneD (diffU o o))) 0, u = .K [] := fun u hu => by
    rw [f2, hm] at hu; exact diff_self (part_av po) u hu
  have hc : ∀ i, i < o.length → (actOfL (doneD (diffU o o))).cut.getD i default = false := fun i hi => by
    cases h : (actOfL (doneD (diffU o o))).cut.getD i default with
    | false => rfl
    | true => have := all _ (actR_cutm _ 0 rfl (Nat.zero_le _) i (Nat.zero_le _) (by omega) h); cases this
  refine ⟨fun i hi => ?_, hc, fun i hi => ?_⟩
  · cases h : (actOfL (doneD (diffU o o))).ins.getD i default with
    | nil => rfl
    | cons y l => have := all _ (actR_ins f1 _ 0 rfl (Nat.zero_le _) i (Nat.zero_le _) (by omega) y (by rw [h]; simp)); cases this
  · have := all _ (actR_set _ 0 rfl (Nat.zero_le _) i (Nat.zero_le _) (by omega) (hc i hi))
    injection this
/-! ### The merge does what one act does -/
theorem mrg_as {node : Int} {f : List Elem} {A B T : Act} (hT : T.cut.length = f.length)
    (hg : ∀ i, i ≤ f.length → ∀ p c, gapO p (A.ins.getD i default) (B.ins.getD i default) = p ++ T.ins.getD i default ∧ gapC node p (A.ins.getD i default) (B.ins.getD i default) c = c)
    (he : ∀ i, i < f.length → ∀ p c, elmO p (f.getD i default) (A.set.getD i default) (B.set.getD i default) (A.cut.getD i default) (B.cut.getD i default) = p ++ (if T.cut.getD i default = true then [] else [chgE (T.set.getD i default) (f.getD i default)]) ∧
      elmC node p (A.set.getD i default) (B.set.getD i default) (A.cut.getD i default) (B.cut.getD i default) c = c) :
    mrgO node f A B = applyU (actR T 0) f ∧ mrgC node f A B = [] := by
  have key : ∀ i, i ≤ f.length → (mrgS node f A B i).1 ++ applyU (actR T i) (f.drop i) = applyU (actR T 0) f ∧ (mrgS node f A B i).2 = [] := by
    intro i
    induction i with
    | zero => intro _; exact ⟨by simp [mrgS], rfl⟩
    | succ i ih =>
      intro hi
      obtain ⟨h1, h2⟩ := ih (by omega)
      obtain ⟨g1, g2⟩ := hg i (by omega) (mrgS node f A B i).1 (mrgS node f A B i).2
      obtain ⟨e1, e2⟩ := he i (by omega) (gapO (mrgS node f A B i).1 (A.ins.getD i default) (B.ins.getD i default)) (gapC node (mrgS node f A B i).1 (A.ins.getD i default) (B.ins.getD i default) (mrgS node f A B i).2)
      refine ⟨?_, ?_⟩
      · rw [mrgS]; simp only
        rw [e1, g1, ← h1, dropD (show i < f.length by omega)]
        cases hb : T.cut.getD i default with
        | true => rw [actR_C' (x := T) (by omega) hb, applyU_As]; simp [applyU]
        | false => rw [actR_K' (x := T) (by omega) hb, applyU_As]; simp [applyU]
      · rw [mrgS]; simp only
        rw [e2, g2, h2]
  obtain ⟨h1, h2⟩ := key f.length (Nat.le_refl _)
  obtain ⟨g1, g2⟩ := hg f.length (Nat.le_refl _) (mrgS node f A B f.length).1 (mrgS node f A B f.length).2
  unfold mrgO mrgC
  rw [g1, g2, h2]
  refine ⟨?_, rfl⟩
  rw [actR_end' (by omega), List.drop_length] at h1
  have := applyU_As (T.ins.getD f.length default) [] []
  rw [List.append_nil] at this
  rw [this] at h1
  rw [← h1]; simp [applyU]
/-! ### Attributes -/
theorem look_at {l : List Attr} {i : Nat} (h : i < l.length) (n : ByteArray) : look (l.drop i) n = if (l.getD i default).name = n then some (l.getD i default).val else look (l.drop (i + 1)) n := by
  rw [dropD h, look]
theorem idx_look (l : List Attr) (n : ByteArray) : ∀ (m i : Nat), l.length - i = m → (idxF l n i = -1 ∧ look (l.drop i) n = none) ∨ (0 ≤ idxF l n i ∧ look (l.drop i) n = some (l.getD (idxF l n i).toNat default).val)
  | 0, i, h => by rw [idxF, if_neg (by omega), List.drop_eq_nil_of_le (by omega)]; exact .inl ⟨rfl, rfl⟩
  | m + 1, i, h => by
    rw [idxF, if_pos (by omega), look_at (by omega)]
    by_cases q : (l.getD i default).name = n
    · rw [if_pos (seq_iff.2 q), if_pos q]
      exact .inr ⟨by omega, by rw [Int.toNat_natCast]⟩
    · rw [if_neg (by rw [seq_iff]; exact q), if_neg q]
      exact idx_look l n m (i + 1) (by omega)
theorem clash_iff {b : List Attr} {x : Attr} : clashB b x = true ↔ ∃ w, look b x.name = some w ∧ w ≠ x.val := by
  unfold clashB
  rcases idx_look b x.name _ 0 rfl with ⟨h1, h2⟩ | ⟨h1, h2⟩
  · rw [List.drop_zero] at h2
    rw [h1, h2]
    simp
  · rw [List.drop_zero] at h2
    rw [decide_eq_true h1, h2, Bool.true_and]
    simp only [Option.some.injEq, exists_eq_left']
    rw [Bool.not_eq_true', seq_no]
theorem attC_no {node : Int} {k : Nat} {a b : List Attr} (h : ∀ x ∈ a, clashB b x = false) : attC node k b a = [] := by
  unfold attC
  rw [List.filter_eq_nil_iff.2 (fun x hx => by rw [h x hx]; decide)]; rfl
theorem clash_nil (x : Attr) : clashB [] x = false := by
  cases h : clashB [] x with
  | false => rfl
  | true => obtain ⟨w, h, _⟩ := clash_iff.1 h; cases h
theorem clash_self {a : List Attr} (ha : VG true a) {x : Attr} (hx : x ∈ a) : clashB a x = false := by
  cases h : clashB a x with
  | false => rfl
  | true =>
    obtain ⟨w, h1, h2⟩ := clash_iff.1 h
    rw [look_of_mem ha.1 hx] at h1
    injection h1 with h1
    exact absurd h1.symm h2
theorem raw_same {l a : List Attr} (hl : VG false l) (ha : VG true a) : fm rawG (fm rawG l a) a = fm rawG l a := by
  have h1 := raw_V np_mt hl ha
  refine sorted_ext (raw_V np_mt h1 ha).1 h1.1 (fun n => ?_)
  rw [fm_look np_mt fair_raw h1 ha, fm_look np_mt fair_raw hl ha]
  cases k2 : look a n with
  | none => cases look l n <;> simp [at2, rawG, dflt]
  | some v =>
    have hn := q_ne np_mt (ha.look k2)
    by_cases hv : v = mt <;> cases look l n <;> simp [at2, rawG, dflt, hn, hv]
/-! ### One side alone, and both alike -/
theorem act_vg {d : List DStep} (hv : DValid d) : ∀ c ∈ (actOfL d).set, VG true c := actF_set (vg_steps hv) (fun c hc => by cases hc)
section
variable {o a : List Elem} (po : partE o 0 = 0) (pa : partE a 0 = 0) (no : AN 10000000 o) (na : AN 10000000 a) (lo : o.length ≤ 2000) (la : a.length ≤ 2000)
include po pa no na lo la
theorem act_gives : applyU (actR (actOfL (doneD (diffU o a))) 0) o = a := by
  have no' := an_up no (k := 1000000000) (by decide)
  have na' := an_up na (k := 1000000000) (by decide)
  obtain ⟨_, _, _, _, _, v1, w1, o1, r1, _⟩ := diff_law po pa no' na' (by omega) (by omega)
  rw [(actOf_ok v1).2]; exact r1
theorem one_first (node : Int) : mrgO node o (actOfL (doneD (diffU o a))) (actOfL (doneD (diffU o o))) = a ∧ mrgC node o (actOfL (doneD (diffU o a))) (actOfL (doneD (diffU o o))) = [] := by
  have hn := act_self po no lo
  have hA := act_bd po pa no na lo la
  have := mrg_as (node := node) (A := actOfL (doneD (diffU o a))) (B := actOfL (doneD (diffU o o))) (T := actOfL (doneD (diffU o a))) hA.len (fun i hi p c => ?_) (fun i hi p c => ?_)
  · rwa [act_gives po pa no na lo la] at this
  · rw [hn.ins i hi]
    unfold gapO gapC
    rw [if_pos (.inl rfl), if_pos (.inl rfl)]
    exact ⟨rfl, rfl⟩
  · rw [hn.cut i hi, hn.set i hi]
    unfold elmO elmC
    rw [attC_no (fun x _ => clash_nil x)]
    cases (actOfL (doneD (diffU o a))).cut.getD i default with
    | true => simp
    | false => simp [keptE, raw_nil, chgE]
theorem one_second (node : Int) : mrgO node o (actOfL (doneD (diffU o o))) (actOfL (doneD (diffU o a))) = a ∧ mrgC node o (actOfL (doneD (diffU o o))) (actOfL (doneD (diffU o a))) = [] := by
  have hn := act_self po no lo
  have hA := act_bd po pa no na lo la
  have := mrg_as (node := node) (A := actOfL (doneD (diffU o o))) (B := actOfL (doneD (diffU o a))) (T := actOfL (doneD (diffU o a))) hA.len (fun i hi p c => ?_) (fun i hi p c => ?_)
  · rwa [act_gives po pa no na lo la] at this
  · rw [hn.ins i hi]
    unfold gapO gapC
    split
    · rename_i h
      have : (actOfL (doneD (diffU o a))).ins.getD i default = [] := by
        rcases h with h | h
        · exact List.length_eq_zero_iff.1 h
        · unfold sameF at h
          simp only [Bool.and_eq_true, decide_eq_true_eq] at h
          exact List.length_eq_zero_iff.1 (by have := h.1; simp only [List.length_nil] at this; omega)
      rw [this]; exact ⟨rfl, rfl⟩
    · rw [if_neg (by simp), List.append_nil]; exact ⟨rfl, rfl⟩
  · rw [hn.cut i hi, hn.set i hi]
    unfold elmO elmC
    rw [attC_no (fun x hx => by cases hx)]
    cases (actOfL (doneD (diffU o a))).cut.getD i default with
    | true => simp
    | false => simp [keptE, raw_nil, chgE]
theorem one_both (node : Int) : mrgO node o (actOfL (doneD (diffU o a))) (actOfL (doneD (diffU o a))) = a ∧ mrgC node o (actOfL (doneD (diffU o a))) (actOfL (doneD (diffU o a))) = [] := by
  have no' := an_up no (k := 1000000000) (by decide)
  have na' := an_up na (k := 1000000000) (by decide)
  obtain ⟨_, _, _, _, _, v1, _⟩ := diff_law po pa no' na' (by omega) (by omega)
  have hA := act_bd po pa no na lo la
  have := mrg_as (node := node) (A := actOfL (doneD (diffU o a))) (B := actOfL (doneD (diffU o a))) (T := actOfL (doneD (diffU o a))) hA.len (fun i hi p c => ?_) (fun i hi p c => ?_)
  · rwa [act_gives po pa no na lo la] at this
  · unfold gapO gapC
    rw [if_pos (.inr (sameF_self _)), if_pos (.inr (sameF_self _))]
    exact ⟨rfl, rfl⟩
  · have hf := hA.fit
    have hl := hA.len
    have hv := act_vg v1 _ (getD_mem' (l := (actOfL (doneD (diffU o a))).set) (k := i) (by have := hf.2; omega))
    have hx := part_av po _ (getD_mem' (l := o) (k := i) hi)
    unfold elmO elmC
    rw [attC_no (fun x hx => clash_self hv hx)]
    cases (actOfL (doneD (diffU o a))).cut.getD i default with
    | true => simp
    | false =>
      unfold keptE
      rw [raw_same hx hv]
      simp [chgE]
end
end Go.Ch
end
section
set_option linter.unusedVariables false
set_option linter.unusedSimpArgs false
set_option maxRecDepth 100000
set_option maxHeartbeats 4000000
open Go Go.Proofs Go.Ab
namespace Go.Ch
theorem fc_flows (node : Int) (o a b : List Elem) (po : partE o 0 = 0) (pa : partE a 0 = 0) (pb : partE b 0 = 0) (no : AN 10000000 o) (na : AN 10000000 a) (nb : AN 10000000 b) (lo : o.length ≤ 2000) (la : a.length ≤ 2000) (lb : b.length ≤ 2000) : FC Try.prog 122 [VI node, VL 3 elemT o, VL 3 elemT a, VL 3 elemT b] (app emp []) (.tup [VL 3 elemT (mrgO node o (actOfL (doneD (diffU o a))) (actOfL (doneD (diffU o b)))), VL 5 confT (mrgC node o (actOfL (doneD (diffU o a))) (actOfL (doneD (diffU o b))))]) (app emp []) := by
 refine .go Try.f122 ?_
 refine .len 1 (fun hl1 => ?_)
 refine .len 2 (fun hl2 => ?_)
 refine .len 3 (fun hl3 => ?_)
 have no' := an_up no (k := 1000000000) (by decide)
 have na' := an_up na (k := 1000000000) (by decide)
 have nb' := an_up nb (k := 1000000000) (by decide)
 obtain ⟨_, _, _, _, _, v1, w1, o1, r1, _⟩ := diff_law po pa no' na' (by omega) (by omega)
 obtain ⟨_, _, _, _, _, v2, w2, o2, r2, _⟩ := diff_law po pb no' nb' (by omega) (by omega)
 have A1 := act_bd po pa no na lo la
 have A2 := act_bd po pb no nb lo lb
 refine .loop (α := Nat × (List Elem) × (List Conf)) [.r [], .r [(1, X (Xl elemT o)), (4, X (Xc1 48 (fc_diffRaw o a (by assumption) (by assumption) (by assumption) (by assumption) (by omega) (by omega)) X0)), (5, X (Xc1 56 (fc_mread o.length (doneD (diffU o a)) (by omega) (by assumption) (by assumption) (by assumption)) X0)), (7, X (Xl elemT o)), (10, X (Xc1 96 (fc_diffRaw o b (by assumption) (by assumption) (by assumption) (by assumption) (by omega) (by omega)) X0)), (11, X (Xc1 104 (fc_mread o.length (doneD (diffU o b)) (by omega) (by assumption) (by assumption) (by assumption)) X0))], .r [], .le (.nB 160 1 3), .le (.nB 160 2 5), .r [(1, X (Xl elemT o))]] 202 (fun (i, p, q) => ([(1, VL 3 elemT o), (10, .ptr 112 0), (11, .ptr 120 0), (12, .ptr 160 0), (30, VL 3 elemT o), (31, VI (o.length : Int)), (32, VI (i : Int))], [(57, OR 1 elemsT ((actOfL (doneD (diffU o a))).ins)), (58, OR 1 boolT ((actOfL (doneD (diffU o a))).cut)), (59, OR 1 attrsT ((actOfL (doneD (diffU o a))).set)), (105, OR 1 elemsT ((actOfL (doneD (diffU o b))).ins)), (106, OR 1 boolT ((actOfL (doneD (diffU o b))).cut)), (107, OR 1 attrsT ((actOfL (doneD (diffU o b))).set)), (112, .box [.row 57 ((actOfL (doneD (diffU o a))).ins.length), .row 58 ((actOfL (doneD (diffU o a))).cut.length), .row 59 ((actOfL (doneD (diffU o a))).set.length)]), (120, .box [.row 105 ((actOfL (doneD (diffU o b))).ins.length), .row 106 ((actOfL (doneD (diffU o b))).cut.length), .row 107 ((actOfL (doneD (diffU o b))).set.length)]), (160, .box [VI node, .row 176 p.length, .row 177 q.length]), (176, OR 3 elemT p), (177, OR 5 confT q)])) (fun (i, p, q) => i ≤ o.length ∧ p = (mrgS node o (actOfL (doneD (diffU o a))) (actOfL (doneD (diffU o b))) i).1 ∧ q = (mrgS node o (actOfL (doneD (diffU o a))) (actOfL (doneD (diffU o b))) i).2) (fun (i, p, q) => o.length - i) (0, [], []) ?_ ?_
 ·
  exact ⟨by omega, rfl, rfl⟩
 rintro ⟨i, p, q⟩ I4 ih4
 try dsimp only at I4
 have hb := mrg_bd (node := node) A1 A2 no i I4.1
 rw [← I4.2.1, ← I4.2.2] at hb
 have b1 := hb.len
 have b2 := hb.an
 have b3 := hb.conf
 have f1 := A1.fit.1
 have f2 := A1.fit.2
 have f3 := A1.len
 have k1 := A2.fit.1
 have k2 := A2.fit.2
 have k3 := A2.len
 refine .br [.r []] (decide ((i : Int) < (o.length : Int))) (fun h4 => ?_) (fun h4 => ?_)
 ·
  (try simp only [decide_eq_true_eq, decide_eq_false_iff_not, Int.not_lt, Int.not_le] at h4)
  have g1 := A1.at_ (i := i) (by omega)
  have g2 := A2.at_ (i := i) (by omega)
  have s1 := A1.set_ (i := i) (by omega)
  have s2 := A2.set_ (i := i) (by omega)
  have nx := no _ (getD_mem' (l := o) (k := i) (by omega))
  have hg := gap_bd (node := node) hb g1 g2
  have hg1 := hg.1
  have hg3 := hg.2.2
  refine .back [.r [(1, X (Xi elemT o (i : Int)))], .r [(4, X (Xpn ((actOfL (doneD (diffU o a))).ins.length) elemsT ((actOfL (doneD (diffU o a))).ins) (i : Int))), (5, X (Xen ((actOfL (doneD (diffU o a))).ins.length) elemsT ((actOfL (doneD (diffU o a))).ins) i)), (9, X (Xpn ((actOfL (doneD (diffU o b))).ins.length) elemsT ((actOfL (doneD (diffU o b))).ins) (i : Int))), (10, X (Xen ((actOfL (doneD (diffU o b))).ins.length) elemsT ((actOfL (doneD (diffU o b))).ins) i)), (11, X (Xc3 346 [(0, 160), (1, 176), (2, 177)] (fc_gap node p q (((actOfL (doneD (diffU o a))).ins).getD i default) (((actOfL (doneD (diffU o b))).ins).getD i default) (by omega) (by omega)) X0))], .r [(5, X (Xpn ((actOfL (doneD (diffU o a))).set.length) attrsT ((actOfL (doneD (diffU o a))).set) (i : Int))), (6, X (Xen ((actOfL (doneD (diffU o a))).set.length) attrsT ((actOfL (doneD (diffU o a))).set) i)), (10, X (Xpn ((actOfL (doneD (diffU o b))).set.length) attrsT ((actOfL (doneD (diffU o b))).set) (i : Int))), (11, X (Xen ((actOfL (doneD (diffU o b))).set.length) attrsT ((actOfL (doneD (diffU o b))).set) i)), (15, X (Xpn ((actOfL (doneD (diffU o a))).cut.length) boolT ((actOfL (doneD (diffU o a))).cut) (i : Int))), (16, X (Xen ((actOfL (doneD (diffU o a))).cut.length) boolT ((actOfL (doneD (diffU o a))).cut) i)), (20, X (Xpn ((actOfL (doneD (diffU o b))).cut.length) boolT ((actOfL (doneD (diffU o b))).cut) (i : Int))), (21, X (Xen ((actOfL (doneD (diffU o b))).cut.length) boolT ((actOfL (doneD (diffU o b))).cut) i)), (22, X (Xc3 530 [(0, 160), (1, 176), (2, 177)] (fc_elem2 node (gapO p (((actOfL (doneD (diffU o a))).ins).getD i default) (((actOfL (doneD (diffU o b))).ins).getD i default)) (gapC node p (((actOfL (doneD (diffU o a))).ins).getD i default) (((actOfL (doneD (diffU o b))).ins).getD i default) q) ((o.getD i default)) (((actOfL (doneD (diffU o a))).set).getD i default) (((actOfL (doneD (diffU o b))).set).getD i default) (((actOfL (doneD (diffU o a))).cut).getD i default) (((actOfL (doneD (diffU o b))).cut).getD i default) (by omega) (by omega) (by omega)) X0))], .r [(0, X (Xn ((i : Int) + 1)))]] [(57, 57), (58, 58), (59, 59), (105, 105), (106, 106), (107, 107), (112, 112), (120, 120), (160, 160), (176, 176), (177, 177)] (ih4 ((i + 1), (elmO (gapO p (((actOfL (doneD (diffU o a))).ins).getD i default) (((actOfL (doneD (diffU o b))).ins).getD i default)) ((o.getD i default)) (((actOfL (doneD (diffU o a))).set).getD i default) (((actOfL (doneD (diffU o b))).set).getD i default) (((actOfL (doneD (diffU o a))).cut).getD i default) (((actOfL (doneD (diffU o b))).cut).getD i default)), (elmC node (gapO p (((actOfL (doneD (diffU o a))).ins).getD i default) (((actOfL (doneD (diffU o b))).ins).getD i default)) (((actOfL (doneD (diffU o a))).set).getD i default) (((actOfL (doneD (diffU o b))).set).getD i default) (((actOfL (doneD (diffU o a))).cut).getD i default) (((actOfL (doneD (diffU o b))).cut).getD i default) (gapC node p (((actOfL (doneD (diffU o a))).ins).getD i default) (((actOfL (doneD (diffU o b))).ins).getD i default) q))) ?_ ?_)
  ·
   refine ⟨by omega, ?_, ?_⟩
   · rw [mrgS, I4.2.1]
   · rw [mrgS, I4.2.1, I4.2.2]
  ·
   ((try dsimp only); omega)
 ·
  (try simp only [decide_eq_true_eq, decide_eq_false_iff_not, Int.not_lt, Int.not_le] at h4)
  have g1 := A1.at_ (i := o.length) (by omega)
  have g2 := A2.at_ (i := o.length) (by omega)
  have hg := gap_bd (node := node) hb g1 g2
  have hg1 := hg.1
  have hg3 := hg.2.2
  have an2 := an_up hg.2.1 (k := 400000000000) (by decide)
  have he : i = o.length := by omega
  have e1 : ((mrgO node o (actOfL (doneD (diffU o a))) (actOfL (doneD (diffU o b)))) : List Elem) = (gapO p (((actOfL (doneD (diffU o a))).ins).getD o.length default) (((actOfL (doneD (diffU o b))).ins).getD o.length default)) := by
   first | (unfold mrgO; rw [I4.2.1, he]) | (unfold mrgC; rw [I4.2.1, I4.2.2, he])
  have e2 : ((mrgC node o (actOfL (doneD (diffU o a))) (actOfL (doneD (diffU o b)))) : List Conf) = (gapC node p (((actOfL (doneD (diffU o a))).ins).getD o.length default) (((actOfL (doneD (diffU o b))).ins).getD o.length default) q) := by
   first | (unfold mrgO; rw [I4.2.1, he]) | (unfold mrgC; rw [I4.2.1, I4.2.2, he])
  exact .finE [.r [(4, X (Xl elemT o)), (5, X (Xpn ((actOfL (doneD (diffU o a))).ins.length) elemsT ((actOfL (doneD (diffU o a))).ins) (o.length : Int))), (6, X (Xen ((actOfL (doneD (diffU o a))).ins.length) elemsT ((actOfL (doneD (diffU o a))).ins) o.length)), (10, X (Xl elemT o)), (11, X (Xpn ((actOfL (doneD (diffU o b))).ins.length) elemsT ((actOfL (doneD (diffU o b))).ins) (o.length : Int))), (12, X (Xen ((actOfL (doneD (diffU o b))).ins.length) elemsT ((actOfL (doneD (diffU o b))).ins) o.length)), (13, X (Xc3 314 [(0, 160), (1, 176), (2, 177)] (fc_gap node p q (((actOfL (doneD (diffU o a))).ins).getD o.length default) (((actOfL (doneD (diffU o b))).ins).getD o.length default) (by omega) (by omega)) X0))], .r [(4, X (Xc1 354 (fc_copy (gapO p (((actOfL (doneD (diffU o a))).ins).getD o.length default) (((actOfL (doneD (diffU o b))).ins).getD o.length default)) (by omega) (by assumption)) (rowC elemT (gapO p (((actOfL (doneD (diffU o a))).ins).getD o.length default) (((actOfL (doneD (diffU o b))).ins).getD o.length default)) X0)))], .le (.fr 9 [(((gapC node p (((actOfL (doneD (diffU o a))).ins).getD o.length default) (((actOfL (doneD (diffU o b))).ins).getD o.length default) q).length) : Nat) = (List.map confT (gapC node p (((actOfL (doneD (diffU o a))).ins).getD o.length default) (((actOfL (doneD (diffU o b))).ins).getD o.length default) q)).length] ⟨lm, trivial⟩)] [] (fun (z0, z1) => (.tup [VL 3 elemT z0, VL 5 confT z1], [])) (((gapO p (((actOfL (doneD (diffU o a))).ins).getD o.length default) (((actOfL (doneD (diffU o b))).ins).getD o.length default)) : List Elem), ((gapC node p (((actOfL (doneD (diffU o a))).ins).getD o.length default) (((actOfL (doneD (diffU o b))).ins).getD o.length default) q) : List Conf)) (((mrgO node o (actOfL (doneD (diffU o a))) (actOfL (doneD (diffU o b)))) : List Elem), ((mrgC node o (actOfL (doneD (diffU o a))) (actOfL (doneD (diffU o b)))) : List Conf)) (pr e1 e2)
end Go.Ch
end
section
set_option linter.unusedVariables false
set_option linter.unusedSimpArgs false
set_option maxRecDepth 100000
set_option maxHeartbeats 4000000
open Go Go.Proofs Go.Ab
namespace Go.Ch
theorem fc_mergeFlows (o a b : List Elem) (po : partE o 0 = 0) (pa : partE a 0 = 0) (pb : partE b 0 = 0) (no : AN 10000000 o) (na : AN 10000000 a) (nb : AN 10000000 b) (lo : o.length ≤ 2000) (la : a.length ≤ 2000) (lb : b.length ≤ 2000) : FC Try.prog 71 [VL 3 elemT o, VL 3 elemT a, VL 3 elemT b] (app emp []) (.tup [VL 3 elemT (mrgO 0 o (actOfL (doneD (diffU o a))) (actOfL (doneD (diffU o b)))), VL 5 confT (mrgC 0 o (actOfL (doneD (diffU o a))) (actOfL (doneD (diffU o b)))), VI 0]) (app emp []) := by
 refine .go Try.f71 ?_
 refine .len 0 (fun hl0 => ?_)
 refine .len 1 (fun hl1 => ?_)
 refine .len 2 (fun hl2 => ?_)
 refine .br [.r [], .r [], .u, .r [], .t, .r [(0, X (Xa (Xc ((0:Int) ≤ 0)) (Xc ((0 : Int) < ((3 : Nat) : Int)))) ⟨by decide, by decide⟩)], .r [(1, X (Xc0 (fc_checkPart o) X0))], .r []] ((partE o 0) != 0) (fun h5 => ?_) (fun h5 => ?_)
 ·
  (try simp only [bne_iff_ne, bne_eq_false_iff_eq, ne_eq] at h5)
  exfalso
  omega
 ·
  (try simp only [bne_iff_ne, bne_eq_false_iff_eq, ne_eq] at h5)
  refine .br [.r [], .u, .r [], .t, .r [(0, X (Xa (Xc ((0:Int) ≤ 1)) (Xc ((1 : Int) < ((3 : Nat) : Int)))) ⟨by decide, by decide⟩)], .r [(1, X (Xc0 (fc_checkPart a) X0))], .r []] ((partE a 0) != 0) (fun h5 => ?_) (fun h5 => ?_)
  ·
   (try simp only [bne_iff_ne, bne_eq_false_iff_eq, ne_eq] at h5)
   exfalso
   omega
  ·
   (try simp only [bne_iff_ne, bne_eq_false_iff_eq, ne_eq] at h5)
   refine .br [.r [], .u, .r [], .t, .r [(0, X (Xa (Xc ((0:Int) ≤ 2)) (Xc ((2 : Int) < ((3 : Nat) : Int)))) ⟨by decide, by decide⟩)], .r [(1, X (Xc0 (fc_checkPart b) X0))], .r []] ((partE b 0) != 0) (fun h5 => ?_) (fun h5 => ?_)
   ·
    (try simp only [bne_iff_ne, bne_eq_false_iff_eq, ne_eq] at h5)
    exfalso
    omega
   ·
    (try simp only [bne_iff_ne, bne_eq_false_iff_eq, ne_eq] at h5)
    refine .br [.r [], .u, .r [], .f, .r [], .u, .r [], .t, .r [(0, X (Xa (Xc ((0:Int) ≤ 0)) (Xc ((0 : Int) < ((3 : Nat) : Int)))) ⟨by decide, by decide⟩)], .r [(1, X (Xl elemT o))]] (decide ((o.length : Int) > 2000)) (fun h11 => ?_) (fun h11 => ?_)
    ·
     (try simp only [decide_eq_true_eq, decide_eq_false_iff_not, Int.not_lt, Int.not_le, gt_iff_lt] at h11)
     exfalso
     omega
    ·
     (try simp only [decide_eq_true_eq, decide_eq_false_iff_not, Int.not_lt, Int.not_le, gt_iff_lt] at h11)
     refine .br [.r [], .u, .r [], .t, .r [(0, X (Xa (Xc ((0:Int) ≤ 1)) (Xc ((1 : Int) < ((3 : Nat) : Int)))) ⟨by decide, by decide⟩)], .r [(1, X (Xl elemT a))]] (decide ((a.length : Int) > 2000)) (fun h11 => ?_) (fun h11 => ?_)
     ·
      (try simp only [decide_eq_true_eq, decide_eq_false_iff_not, Int.not_lt, Int.not_le, gt_iff_lt] at h11)
      exfalso
      omega
     ·
      (try simp only [decide_eq_true_eq, decide_eq_false_iff_not, Int.not_lt, Int.not_le, gt_iff_lt] at h11)
      refine .br [.r [], .u, .r [], .t, .r [(0, X (Xa (Xc ((0:Int) ≤ 2)) (Xc ((2 : Int) < ((3 : Nat) : Int)))) ⟨by decide, by decide⟩)], .r [(1, X (Xl elemT b))]] (decide ((b.length : Int) > 2000)) (fun h11 => ?_) (fun h11 => ?_)
      ·
       (try simp only [decide_eq_true_eq, decide_eq_false_iff_not, Int.not_lt, Int.not_le, gt_iff_lt] at h11)
       exfalso
       omega
      ·
       (try simp only [decide_eq_true_eq, decide_eq_false_iff_not, Int.not_lt, Int.not_le, gt_iff_lt] at h11)
       refine .at 528 [] ([(0, VL 3 elemT o), (1, VL 3 elemT a), (2, VL 3 elemT b), (32, .t (.agg [TL 3 elemT o, TL 3 elemT a, TL 3 elemT b])), (33, VI 2), (38, VB (decide ((b.length : Int) > 2000)))], []) ?_
       exact .fin [.r [], .u, .r [], .f, .r [(3, X (Xc1 576 (fc_flows 0 o a b (by assumption) (by assumption) (by assumption) (by assumption) (by assumption) (by assumption) (by omega) (by omega) (by omega)) X0))], .r []] []

theorem mrg_facts : partE (lettersL { data := #[97, 98] }) 0 = 0 ∧ partE (lettersL { data := #[97, 120, 98] }) 0 = 0 ∧ ((lettersL { data := #[97, 98] })).length = 2 ∧ ((lettersL { data := #[97, 120, 98] })).length = 3 := by decide +kernel

theorem fc_merges  : FC Try.prog 70 [] (app emp []) (VB true) (app emp []) := by
 refine .go Try.f70 ?_
 obtain ⟨p1, p2, l1, l2⟩ := mrg_facts
 have n1 := ltr_an { data := #[97, 98] } 10000000
 have n2 := ltr_an { data := #[97, 120, 98] } 10000000
 obtain ⟨u1, u2⟩ := one_first p1 p2 n1 n2 (by omega) (by omega) 0
 have e1 : (((true && (sameF (lettersL { data := #[97, 120, 98] }) (lettersL ({ data := #[97, 120, 98] })))) && ((([] : List Conf).length : Int) == 0)) : Bool) = true := by
  rw [sameF_self]; rfl
 exact .finE [.r [], .r [(0, X (Xc1 8 (fc_letters ({ data := #[97, 98] }) (by decide)) X0)), (1, X (Xc1 16 (fc_letters ({ data := #[97, 120, 98] }) (by decide)) X0)), (2, X (Xc1 24 (fc_letters ({ data := #[97, 98] }) (by decide)) X0)), (3, X (Xc1 32 (fc_mergeFlows (lettersL ({ data := #[97, 98] })) (lettersL ({ data := #[97, 120, 98] })) (lettersL ({ data := #[97, 98] })) (by assumption) (by assumption) (by assumption) (by assumption) (by assumption) (by assumption) (by omega) (by omega) (by omega)) X0))], .le (.eq 1 (VL 3 elemT (mrgO 0 (lettersL ({ data := #[97, 98] })) (actOfL (doneD (diffU (lettersL ({ data := #[97, 98] })) (lettersL ({ data := #[97, 120, 98] }))))) (actOfL (doneD (diffU (lettersL ({ data := #[97, 98] })) (lettersL ({ data := #[97, 98] }))))))) (VL 3 elemT (lettersL { data := #[97, 120, 98] })) (.of_eq (by rw [u1]))), .le (.eq 2 (VL 5 confT (mrgC 0 (lettersL ({ data := #[97, 98] })) (actOfL (doneD (diffU (lettersL ({ data := #[97, 98] })) (lettersL ({ data := #[97, 120, 98] }))))) (actOfL (doneD (diffU (lettersL ({ data := #[97, 98] })) (lettersL ({ data := #[97, 98] }))))))) (VL 5 confT ([] : List Conf)) (.of_eq (by rw [u2]))), .r [(4, Xg true (Xc1 128 (fc_letters ({ data := #[97, 120, 98] }) (by decide)) X0)), (5, Xv 2 true (Xc0 (fc_sameFlow (lettersL { data := #[97, 120, 98] }) (lettersL ({ data := #[97, 120, 98] }))) X0)), (6, X (Xk true)), (9, Xv 1 (true && (sameF (lettersL { data := #[97, 120, 98] }) (lettersL ({ data := #[97, 120, 98] })))) (Xl confT ([] : List Conf))), (10, Xv 1 (true && (sameF (lettersL { data := #[97, 120, 98] }) (lettersL ({ data := #[97, 120, 98] })))) X0), (11, X (Xk (true && (sameF (lettersL { data := #[97, 120, 98] }) (lettersL ({ data := #[97, 120, 98] }))))))]] [] (fun z0 => (VB z0, [])) (((true && (sameF (lettersL { data := #[97, 120, 98] }) (lettersL ({ data := #[97, 120, 98] })))) && ((([] : List Conf).length : Int) == 0)) : Bool) (true : Bool) e1.symm
end Go.Ch
end
section
set_option linter.unusedVariables false
set_option linter.unusedSimpArgs false
set_option maxRecDepth 100000
set_option maxHeartbeats 4000000
open Go Go.Proofs Go.Ab
namespace Go.Ch
theorem fc_lawOne (o a : List Elem) (sd : Bool) (ho : SzE o) (ha : SzE a) (no : AN 10000000 o) (na : AN 10000000 a) : FC Try.prog 17 [VL 3 elemT o, VL 3 elemT a, VB sd] (app emp []) (VB true) (app emp []) := by
 refine .go Try.f17 ?_
 refine .len 0 (fun hl0 => ?_)
 refine .len 1 (fun hl1 => ?_)
 refine .br [.r [], .r [(0, X (Xc0 fc_merges X0))], .f, .r [(1, X (Xl elemT o))]] (decide ((o.length : Int) > 60)) (fun h3 => ?_) (fun h3 => ?_)
 ·
  (try simp only [decide_eq_true_eq, decide_eq_false_iff_not, Int.not_lt, Int.not_le, gt_iff_lt] at h3)
  refine .br [.r [(1, X (Xst elemT 3 o 60))], .r [(1, X (Xl elemT a))]] (decide ((a.length : Int) > 60)) (fun h5 => ?_) (fun h5 => ?_)
  ·
   (try simp only [decide_eq_true_eq, decide_eq_false_iff_not, Int.not_lt, Int.not_le, gt_iff_lt] at h5)
   have hz0 : SzE (o.take 60) := by first | exact ho | exact fun x hx => ho x (List.mem_of_mem_take hx)
   have hz1 : SzE (a.take 60) := by first | exact ha | exact fun x hx => ha x (List.mem_of_mem_take hx)
   refine .br [.r [(1, X (Xst elemT 3 a 60))], .r [(1, X (Xc0 (fc_partError (o.take 60) (by assumption)) X0)), (5, Xv 1 (!((partE (o.take 60) 0) != 0)) (Xc0 (fc_partError (a.take 60) (by assumption)) X0)), (6, Xv 1 (!((partE (o.take 60) 0) != 0)) X0), (7, X (Xk' ((partE (o.take 60) 0) != 0)))]] (((partE (o.take 60) 0) != 0) || ((partE (a.take 60) 0) != 0)) (fun h7 => ?_) (fun h7 => ?_)
   ·
    (try simp only [Bool.or_eq_true, Bool.or_eq_false_iff, bne_iff_ne, bne_eq_false_iff_eq, ne_eq] at h7)
    exact .fin [.r []] []
   ·
    (try simp only [Bool.or_eq_true, Bool.or_eq_false_iff, bne_iff_ne, bne_eq_false_iff_eq, ne_eq] at h7)
    have n0 : AN 10000000 (o.take 60) := by first | exact no | exact an_take no _
    have n1 : AN 10000000 (a.take 60) := by first | exact na | exact an_take na _
    have l0 : ((o.take 60)).length ≤ 60 := by first | omega | (simp only [List.length_take]; omega)
    have l1 : ((a.take 60)).length ≤ 60 := by first | omega | (simp only [List.length_take]; omega)
    obtain ⟨p0, p1⟩ := h7
    obtain ⟨u1, u2⟩ := one_first p0 p1 n0 n1 (by omega) (by omega) 0
    obtain ⟨w1, w2⟩ := one_second p0 p1 n0 n1 (by omega) (by omega) 0
    obtain ⟨z1, z2⟩ := one_both p0 p1 n0 n1 (by omega) (by omega) 0
    obtain ⟨g, hg⟩ : ∃ z, (a.take 60) = z := ⟨_, rfl⟩
    refine .br [.r [(3, X (Xc1 208 (fc_mergeFlows (o.take 60) (a.take 60) (o.take 60) (by assumption) (by assumption) (by assumption) (by assumption) (by assumption) (by assumption) (by omega) (by omega) (by omega)) X0))], .le (.eq 7 (VL 3 elemT (mrgO 0 (o.take 60) (actOfL (doneD (diffU (o.take 60) (a.take 60)))) (actOfL (doneD (diffU (o.take 60) (o.take 60)))))) (VL 3 elemT g) (.of_eq (by rw [u1, hg]))), .le (.eq 8 (VL 5 confT (mrgC 0 (o.take 60) (actOfL (doneD (diffU (o.take 60) (a.take 60)))) (actOfL (doneD (diffU (o.take 60) (o.take 60)))))) (VL 5 confT ([] : List Conf)) (.of_eq (by rw [u2]))), .r []] sd (fun h10 => ?_) (fun h10 => ?_)
    ·
     have e1 : ((((((true && ((([] : List Conf).length : Int) == 0)) && (sameF g (a.take 60))) || false) && ((([] : List Conf).length : Int) == 0)) && (sameF g (a.take 60))) : Bool) = true := by
      rw [hg, sameF_self]; rfl
     exact .finE [.r [(3, X (Xc1 304 (fc_mergeFlows (o.take 60) (o.take 60) (a.take 60) (by assumption) (by assumption) (by assumption) (by assumption) (by assumption) (by assumption) (by omega) (by omega) (by omega)) X0))], .le (.eq 7 (VL 3 elemT (mrgO 0 (o.take 60) (actOfL (doneD (diffU (o.take 60) (o.take 60)))) (actOfL (doneD (diffU (o.take 60) (a.take 60)))))) (VL 3 elemT g) (.of_eq (by rw [w1, hg]))), .le (.eq 8 (VL 5 confT (mrgC 0 (o.take 60) (actOfL (doneD (diffU (o.take 60) (o.take 60)))) (actOfL (doneD (diffU (o.take 60) (a.take 60)))))) (VL 5 confT ([] : List Conf)) (.of_eq (by rw [w2]))), .r [(3, X (Xc1 392 (fc_mergeFlows (o.take 60) (a.take 60) (a.take 60) (by assumption) (by assumption) (by assumption) (by assumption) (by assumption) (by assumption) (by omega) (by omega) (by omega)) X0))], .le (.eq 10 (VL 3 elemT (mrgO 0 (o.take 60) (actOfL (doneD (diffU (o.take 60) (a.take 60)))) (actOfL (doneD (diffU (o.take 60) (a.take 60)))))) (VL 3 elemT g) (.of_eq (by rw [z1, hg]))), .le (.eq 11 (VL 5 confT (mrgC 0 (o.take 60) (actOfL (doneD (diffU (o.take 60) (a.take 60)))) (actOfL (doneD (diffU (o.take 60) (a.take 60)))))) (VL 5 confT ([] : List Conf)) (.of_eq (by rw [z2]))), .r [(4, Xv 1 true (Xl confT ([] : List Conf))), (5, Xv 1 true X0), (6, X (Xk true)), (10, Xv 2 (true && ((([] : List Conf).length : Int) == 0)) (Xc0 (fc_sameFlow g (a.take 60)) X0)), (11, X (Xk (true && ((([] : List Conf).length : Int) == 0)))), (14, Xv 1 ((true && ((([] : List Conf).length : Int) == 0)) && (sameF g (a.take 60))) X0), (15, X (Xk ((true && ((([] : List Conf).length : Int) == 0)) && (sameF g (a.take 60))))), (18, Xv 1 (((true && ((([] : List Conf).length : Int) == 0)) && (sameF g (a.take 60))) || false) (Xl confT ([] : List Conf))), (19, Xv 1 (((true && ((([] : List Conf).length : Int) == 0)) && (sameF g (a.take 60))) || false) X0), (20, X (Xk (((true && ((([] : List Conf).length : Int) == 0)) && (sameF g (a.take 60))) || false))), (24, Xv 2 ((((true && ((([] : List Conf).length : Int) == 0)) && (sameF g (a.take 60))) || false) && ((([] : List Conf).length : Int) == 0)) (Xc0 (fc_sameFlow g (a.take 60)) X0)), (25, X (Xk ((((true && ((([] : List Conf).length : Int) == 0)) && (sameF g (a.take 60))) || false) && ((([] : List Conf).length : Int) == 0))))]] [] (fun z0 => (VB z0, [])) ((((((true && ((([] : List Conf).length : Int) == 0)) && (sameF g (a.take 60))) || false) && ((([] : List Conf).length : Int) == 0)) && (sameF g (a.take 60))) : Bool) (true : Bool) e1.symm
    ·
     have e2 : ((((((true && ((([] : List Conf).length : Int) == 0)) && (sameF g (a.take 60))) || false) && ((([] : List Conf).length : Int) == 0)) && (sameF g (a.take 60))) : Bool) = true := by
      rw [hg, sameF_self]; rfl
     exact .finE [.r [(3, X (Xc1 304 (fc_mergeFlows (o.take 60) (a.take 60) (a.take 60) (by assumption) (by assumption) (by assumption) (by assumption) (by assumption) (by assumption) (by omega) (by omega) (by omega)) X0))], .le (.eq 10 (VL 3 elemT (mrgO 0 (o.take 60) (actOfL (doneD (diffU (o.take 60) (a.take 60)))) (actOfL (doneD (diffU (o.take 60) (a.take 60)))))) (VL 3 elemT g) (.of_eq (by rw [z1, hg]))), .le (.eq 11 (VL 5 confT (mrgC 0 (o.take 60) (actOfL (doneD (diffU (o.take 60) (a.take 60)))) (actOfL (doneD (diffU (o.take 60) (a.take 60)))))) (VL 5 confT ([] : List Conf)) (.of_eq (by rw [z2]))), .r [(4, Xv 1 true (Xl confT ([] : List Conf))), (5, Xv 1 true X0), (6, X (Xk true)), (10, Xv 2 (true && ((([] : List Conf).length : Int) == 0)) (Xc0 (fc_sameFlow g (a.take 60)) X0)), (11, X (Xk (true && ((([] : List Conf).length : Int) == 0)))), (14, Xv 1 ((true && ((([] : List Conf).length : Int) == 0)) && (sameF g (a.take 60))) X0), (15, X (Xk ((true && ((([] : List Conf).length : Int) == 0)) && (sameF g (a.take 60))))), (18, Xv 1 (((true && ((([] : List Conf).length : Int) == 0)) && (sameF g (a.take 60))) || false) (Xl confT ([] : List Conf))), (19, Xv 1 (((true && ((([] : List Conf).length : Int) == 0)) && (sameF g (a.take 60))) || false) X0), (20, X (Xk (((true && ((([] : List Conf).length : Int) == 0)) && (sameF g (a.take 60))) || false))), (24, Xv 2 ((((true && ((([] : List Conf).length : Int) == 0)) && (sameF g (a.take 60))) || false) && ((([] : List Conf).length : Int) == 0)) (Xc0 (fc_sameFlow g (a.take 60)) X0)), (25, X (Xk ((((true && ((([] : List Conf).length : Int) == 0)) && (sameF g (a.take 60))) || false) && ((([] : List Conf).length : Int) == 0))))]] [] (fun z0 => (VB z0, [])) ((((((true && ((([] : List Conf).length : Int) == 0)) && (sameF g (a.take 60))) || false) && ((([] : List Conf).length : Int) == 0)) && (sameF g (a.take 60))) : Bool) (true : Bool) e2.symm
  ·
   (try simp only [decide_eq_true_eq, decide_eq_false_iff_not, Int.not_lt, Int.not_le, gt_iff_lt] at h5)
   have hz0 : SzE (o.take 60) := by first | exact ho | exact fun x hx => ho x (List.mem_of_mem_take hx)
   have hz1 : SzE a := by first | exact ha | exact fun x hx => ha x (List.mem_of_mem_take hx)
   refine .br [.r [(1, X (Xc0 (fc_partError (o.take 60) (by assumption)) X0)), (5, Xv 1 (!((partE (o.take 60) 0) != 0)) (Xc0 (fc_partError a (by assumption)) X0)), (6, Xv 1 (!((partE (o.take 60) 0) != 0)) X0), (7, X (Xk' ((partE (o.take 60) 0) != 0)))]] (((partE (o.take 60) 0) != 0) || ((partE a 0) != 0)) (fun h7 => ?_) (fun h7 => ?_)
   ·
    (try simp only [Bool.or_eq_true, Bool.or_eq_false_iff, bne_iff_ne, bne_eq_false_iff_eq, ne_eq] at h7)
    exact .fin [.r []] []
   ·
    (try simp only [Bool.or_eq_true, Bool.or_eq_false_iff, bne_iff_ne, bne_eq_false_iff_eq, ne_eq] at h7)
    have n0 : AN 10000000 (o.take 60) := by first | exact no | exact an_take no _
    have n1 : AN 10000000 a := by first | exact na | exact an_take na _
    have l0 : ((o.take 60)).length ≤ 60 := by first | omega | (simp only [List.length_take]; omega)
    have l1 : (a).length ≤ 60 := by first | omega | (simp only [List.length_take]; omega)
    obtain ⟨p0, p1⟩ := h7
    obtain ⟨u1, u2⟩ := one_first p0 p1 n0 n1 (by omega) (by omega) 0
    obtain ⟨w1, w2⟩ := one_second p0 p1 n0 n1 (by omega) (by omega) 0
    obtain ⟨z1, z2⟩ := one_both p0 p1 n0 n1 (by omega) (by omega) 0
    obtain ⟨g, hg⟩ : ∃ z, a = z := ⟨_, rfl⟩
    refine .br [.r [(3, X (Xc1 184 (fc_mergeFlows (o.take 60) a (o.take 60) (by assumption) (by assumption) (by assumption) (by assumption) (by assumption) (by assumption) (by omega) (by omega) (by omega)) X0))], .le (.eq 7 (VL 3 elemT (mrgO 0 (o.take 60) (actOfL (doneD (diffU (o.take 60) a))) (actOfL (doneD (diffU (o.take 60) (o.take 60)))))) (VL 3 elemT g) (.of_eq (by rw [u1, hg]))), .le (.eq 8 (VL 5 confT (mrgC 0 (o.take 60) (actOfL (doneD (diffU (o.take 60) a))) (actOfL (doneD (diffU (o.take 60) (o.take 60)))))) (VL 5 confT ([] : List Conf)) (.of_eq (by rw [u2]))), .r []] sd (fun h10 => ?_) (fun h10 => ?_)
    ·
     have e3 : ((((((true && ((([] : List Conf).length : Int) == 0)) && (sameF g a)) || false) && ((([] : List Conf).length : Int) == 0)) && (sameF g a)) : Bool) = true := by
      rw [hg, sameF_self]; rfl
     exact .finE [.r [(3, X (Xc1 280 (fc_mergeFlows (o.take 60) (o.take 60) a (by assumption) (by assumption) (by assumption) (by assumption) (by assumption) (by assumption) (by omega) (by omega) (by omega)) X0))], .le (.eq 7 (VL 3 elemT (mrgO 0 (o.take 60) (actOfL (doneD (diffU (o.take 60) (o.take 60)))) (actOfL (doneD (diffU (o.take 60) a))))) (VL 3 elemT g) (.of_eq (by rw [w1, hg]))), .le (.eq 8 (VL 5 confT (mrgC 0 (o.take 60) (actOfL (doneD (diffU (o.take 60) (o.take 60)))) (actOfL (doneD (diffU (o.take 60) a))))) (VL 5 confT ([] : List Conf)) (.of_eq (by rw [w2]))), .r [(3, X (Xc1 368 (fc_mergeFlows (o.take 60) a a (by assumption) (by assumption) (by assumption) (by assumption) (by assumption) (by assumption) (by omega) (by omega) (by omega)) X0))], .le (.eq 10 (VL 3 elemT (mrgO 0 (o.take 60) (actOfL (doneD (diffU (o.take 60) a))) (actOfL (doneD (diffU (o.take 60) a))))) (VL 3 elemT g) (.of_eq (by rw [z1, hg]))), .le (.eq 11 (VL 5 confT (mrgC 0 (o.take 60) (actOfL (doneD (diffU (o.take 60) a))) (actOfL (doneD (diffU (o.take 60) a))))) (VL 5 confT ([] : List Conf)) (.of_eq (by rw [z2]))), .r [(4, Xv 1 true (Xl confT ([] : List Conf))), (5, Xv 1 true X0), (6, X (Xk true)), (10, Xv 2 (true && ((([] : List Conf).length : Int) == 0)) (Xc0 (fc_sameFlow g a) X0)), (11, X (Xk (true && ((([] : List Conf).length : Int) == 0)))), (14, Xv 1 ((true && ((([] : List Conf).length : Int) == 0)) && (sameF g a)) X0), (15, X (Xk ((true && ((([] : List Conf).length : Int) == 0)) && (sameF g a)))), (18, Xv 1 (((true && ((([] : List Conf).length : Int) == 0)) && (sameF g a)) || false) (Xl confT ([] : List Conf))), (19, Xv 1 (((true && ((([] : List Conf).length : Int) == 0)) && (sameF g a)) || false) X0), (20, X (Xk (((true && ((([] : List Conf).length : Int) == 0)) && (sameF g a)) || false))), (24, Xv 2 ((((true && ((([] : List Conf).length : Int) == 0)) && (sameF g a)) || false) && ((([] : List Conf).length : Int) == 0)) (Xc0 (fc_sameFlow g a) X0)), (25, X (Xk ((((true && ((([] : List Conf).length : Int) == 0)) && (sameF g a)) || false) && ((([] : List Conf).length : Int) == 0))))]] [] (fun z0 => (VB z0, [])) ((((((true && ((([] : List Conf).length : Int) == 0)) && (sameF g a)) || false) && ((([] : List Conf).length : Int) == 0)) && (sameF g a)) : Bool) (true : Bool) e3.symm
    ·
     have e4 : ((((((true && ((([] : List Conf).length : Int) == 0)) && (sameF g a)) || false) && ((([] : List Conf).length : Int) == 0)) && (sameF g a)) : Bool) = true := by
      rw [hg, sameF_self]; rfl
     exact .finE [.r [(3, X (Xc1 280 (fc_mergeFlows (o.take 60) a a (by assumption) (by assumption) (by assumption) (by assumption) (by assumption) (by assumption) (by omega) (by omega) (by omega)) X0))], .le (.eq 10 (VL 3 elemT (mrgO 0 (o.take 60) (actOfL (doneD (diffU (o.take 60) a))) (actOfL (doneD (diffU (o.take 60) a))))) (VL 3 elemT g) (.of_eq (by rw [z1, hg]))), .le (.eq 11 (VL 5 confT (mrgC 0 (o.take 60) (actOfL (doneD (diffU (o.take 60) a))) (actOfL (doneD (diffU (o.take 60) a))))) (VL 5 confT ([] : List Conf)) (.of_eq (by rw [z2]))), .r [(4, Xv 1 true (Xl confT ([] : List Conf))), (5, Xv 1 true X0), (6, X (Xk true)), (10, Xv 2 (true && ((([] : List Conf).length : Int) == 0)) (Xc0 (fc_sameFlow g a) X0)), (11, X (Xk (true && ((([] : List Conf).length : Int) == 0)))), (14, Xv 1 ((true && ((([] : List Conf).length : Int) == 0)) && (sameF g a)) X0), (15, X (Xk ((true && ((([] : List Conf).length : Int) == 0)) && (sameF g a)))), (18, Xv 1 (((true && ((([] : List Conf).length : Int) == 0)) && (sameF g a)) || false) (Xl confT ([] : List Conf))), (19, Xv 1 (((true && ((([] : List Conf).length : Int) == 0)) && (sameF g a)) || false) X0), (20, X (Xk (((true && ((([] : List Conf).length : Int) == 0)) && (sameF g a)) || false))), (24, Xv 2 ((((true && ((([] : List Conf).length : Int) == 0)) && (sameF g a)) || false) && ((([] : List Conf).length : Int) == 0)) (Xc0 (fc_sameFlow g a) X0)), (25, X (Xk ((((true && ((([] : List Conf).length : Int) == 0)) && (sameF g a)) || false) && ((([] : List Conf).length : Int) == 0))))]] [] (fun z0 => (VB z0, [])) ((((((true && ((([] : List Conf).length : Int) == 0)) && (sameF g a)) || false) && ((([] : List Conf).length : Int) == 0)) && (sameF g a)) : Bool) (true : Bool) e4.symm
 ·
  (try simp only [decide_eq_true_eq, decide_eq_false_iff_not, Int.not_lt, Int.not_le, gt_iff_lt] at h3)
  refine .br [.r [(1, X (Xl elemT a))]] (decide ((a.length : Int) > 60)) (fun h5 => ?_) (fun h5 => ?_)
  ·
   (try simp only [decide_eq_true_eq, decide_eq_false_iff_not, Int.not_lt, Int.not_le, gt_iff_lt] at h5)
   have hz0 : SzE o := by first | exact ho | exact fun x hx => ho x (List.mem_of_mem_take hx)
   have hz1 : SzE (a.take 60) := by first | exact ha | exact fun x hx => ha x (List.mem_of_mem_take hx)
   refine .br [.r [(1, X (Xst elemT 3 a 60))], .r [(1, X (Xc0 (fc_partError o (by assumption)) X0)), (5, Xv 1 (!((partE o 0) != 0)) (Xc0 (fc_partError (a.take 60) (by assumption)) X0)), (6, Xv 1 (!((partE o 0) != 0)) X0), (7, X (Xk' ((partE o 0) != 0)))]] (((partE o 0) != 0) || ((partE (a.take 60) 0) != 0)) (fun h7 => ?_) (fun h7 => ?_)
   ·
    (try simp only [Bool.or_eq_true, Bool.or_eq_false_iff, bne_iff_ne, bne_eq_false_iff_eq, ne_eq] at h7)
    exact .fin [.r []] []
   ·
    (try simp only [Bool.or_eq_true, Bool.or_eq_false_iff, bne_iff_ne, bne_eq_false_iff_eq, ne_eq] at h7)
    have n0 : AN 10000000 o := by first | exact no | exact an_take no _
    have n1 : AN 10000000 (a.take 60) := by first | exact na | exact an_take na _
    have l0 : (o).length ≤ 60 := by first | omega | (simp only [List.length_take]; omega)
    have l1 : ((a.take 60)).length ≤ 60 := by first | omega | (simp only [List.length_take]; omega)
    obtain ⟨p0, p1⟩ := h7
    obtain ⟨u1, u2⟩ := one_first p0 p1 n0 n1 (by omega) (by omega) 0
    obtain ⟨w1, w2⟩ := one_second p0 p1 n0 n1 (by omega) (by omega) 0
    obtain ⟨z1, z2⟩ := one_both p0 p1 n0 n1 (by omega) (by omega) 0
    obtain ⟨g, hg⟩ : ∃ z, (a.take 60) = z := ⟨_, rfl⟩
    refine .br [.r [(3, X (Xc1 184 (fc_mergeFlows o (a.take 60) o (by assumption) (by assumption) (by assumption) (by assumption) (by assumption) (by assumption) (by omega) (by omega) (by omega)) X0))], .le (.eq 7 (VL 3 elemT (mrgO 0 o (actOfL (doneD (diffU o (a.take 60)))) (actOfL (doneD (diffU o o))))) (VL 3 elemT g) (.of_eq (by rw [u1, hg]))), .le (.eq 8 (VL 5 confT (mrgC 0 o (actOfL (doneD (diffU o (a.take 60)))) (actOfL (doneD (diffU o o))))) (VL 5 confT ([] : List Conf)) (.of_eq (by rw [u2]))), .r []] sd (fun h10 => ?_) (fun h10 => ?_)
    ·
     have e5 : ((((((true && ((([] : List Conf).length : Int) == 0)) && (sameF g (a.take 60))) || false) && ((([] : List Conf).length : Int) == 0)) && (sameF g (a.take 60))) : Bool) = true := by
      rw [hg, sameF_self]; rfl
     exact .finE [.r [(3, X (Xc1 280 (fc_mergeFlows o o (a.take 60) (by assumption) (by assumption) (by assumption) (by assumption) (by assumption) (by assumption) (by omega) (by omega) (by omega)) X0))], .le (.eq 7 (VL 3 elemT (mrgO 0 o (actOfL (doneD (diffU o o))) (actOfL (doneD (diffU o (a.take 60)))))) (VL 3 elemT g) (.of_eq (by rw [w1, hg]))), .le (.eq 8 (VL 5 confT (mrgC 0 o (actOfL (doneD (diffU o o))) (actOfL (doneD (diffU o (a.take 60)))))) (VL 5 confT ([] : List Conf)) (.of_eq (by rw [w2]))), .r [(3, X (Xc1 368 (fc_mergeFlows o (a.take 60) (a.take 60) (by assumption) (by assumption) (by assumption) (by assumption) (by assumption) (by assumption) (by omega) (by omega) (by omega)) X0))], .le (.eq 10 (VL 3 elemT (mrgO 0 o (actOfL (doneD (diffU o (a.take 60)))) (actOfL (doneD (diffU o (a.take 60)))))) (VL 3 elemT g) (.of_eq (by rw [z1, hg]))), .le (.eq 11 (VL 5 confT (mrgC 0 o (actOfL (doneD (diffU o (a.take 60)))) (actOfL (doneD (diffU o (a.take 60)))))) (VL 5 confT ([] : List Conf)) (.of_eq (by rw [z2]))), .r [(4, Xv 1 true (Xl confT ([] : List Conf))), (5, Xv 1 true X0), (6, X (Xk true)), (10, Xv 2 (true && ((([] : List Conf).length : Int) == 0)) (Xc0 (fc_sameFlow g (a.take 60)) X0)), (11, X (Xk (true && ((([] : List Conf).length : Int) == 0)))), (14, Xv 1 ((true && ((([] : List Conf).length : Int) == 0)) && (sameF g (a.take 60))) X0), (15, X (Xk ((true && ((([] : List Conf).length : Int) == 0)) && (sameF g (a.take 60))))), (18, Xv 1 (((true && ((([] : List Conf).length : Int) == 0)) && (sameF g (a.take 60))) || false) (Xl confT ([] : List Conf))), (19, Xv 1 (((true && ((([] : List Conf).length : Int) == 0)) && (sameF g (a.take 60))) || false) X0), (20, X (Xk (((true && ((([] : List Conf).length : Int) == 0)) && (sameF g (a.take 60))) || false))), (24, Xv 2 ((((true && ((([] : List Conf).length : Int) == 0)) && (sameF g (a.take 60))) || false) && ((([] : List Conf).length : Int) == 0)) (Xc0 (fc_sameFlow g (a.take 60)) X0)), (25, X (Xk ((((true && ((([] : List Conf).length : Int) == 0)) && (sameF g (a.take 60))) || false) && ((([] : List Conf).length : Int) == 0))))]] [] (fun z0 => (VB z0, [])) ((((((true && ((([] : List Conf).length : Int) == 0)) && (sameF g (a.take 60))) || false) && ((([] : List Conf).length : Int) == 0)) && (sameF g (a.take 60))) : Bool) (true : Bool) e5.symm
    ·
     have e6 : ((((((true && ((([] : List Conf).length : Int) == 0)) && (sameF g (a.take 60))) || false) && ((([] : List Conf).length : Int) == 0)) && (sameF g (a.take 60))) : Bool) = true := by
      rw [hg, sameF_self]; rfl
     exact .finE [.r [(3, X (Xc1 280 (fc_mergeFlows o (a.take 60) (a.take 60) (by assumption) (by assumption) (by assumption) (by assumption) (by assumption) (by assumption) (by omega) (by omega) (by omega)) X0))], .le (.eq 10 (VL 3 elemT (mrgO 0 o (actOfL (doneD (diffU o (a.take 60)))) (actOfL (doneD (diffU o (a.take 60)))))) (VL 3 elemT g) (.of_eq (by rw [z1, hg]))), .le (.eq 11 (VL 5 confT (mrgC 0 o (actOfL (doneD (diffU o (a.take 60)))) (actOfL (doneD (diffU o (a.take 60)))))) (VL 5 confT ([] : List Conf)) (.of_eq (by rw [z2]))), .r [(4, Xv 1 true (Xl confT ([] : List Conf))), (5, Xv 1 true X0), (6, X (Xk true)), (10, Xv 2 (true && ((([] : List Conf).length : Int) == 0)) (Xc0 (fc_sameFlow g (a.take 60)) X0)), (11, X (Xk (true && ((([] : List Conf).length : Int) == 0)))), (14, Xv 1 ((true && ((([] : List Conf).length : Int) == 0)) && (sameF g (a.take 60))) X0), (15, X (Xk ((true && ((([] : List Conf).length : Int) == 0)) && (sameF g (a.take 60))))), (18, Xv 1 (((true && ((([] : List Conf).length : Int) == 0)) && (sameF g (a.take 60))) || false) (Xl confT ([] : List Conf))), (19, Xv 1 (((true && ((([] : List Conf).length : Int) == 0)) && (sameF g (a.take 60))) || false) X0), (20, X (Xk (((true && ((([] : List Conf).length : Int) == 0)) && (sameF g (a.take 60))) || false))), (24, Xv 2 ((((true && ((([] : List Conf).length : Int) == 0)) && (sameF g (a.take 60))) || false) && ((([] : List Conf).length : Int) == 0)) (Xc0 (fc_sameFlow g (a.take 60)) X0)), (25, X (Xk ((((true && ((([] : List Conf).length : Int) == 0)) && (sameF g (a.take 60))) || false) && ((([] : List Conf).length : Int) == 0))))]] [] (fun z0 => (VB z0, [])) ((((((true && ((([] : List Conf).length : Int) == 0)) && (sameF g (a.take 60))) || false) && ((([] : List Conf).length : Int) == 0)) && (sameF g (a.take 60))) : Bool) (true : Bool) e6.symm
  ·
   (try simp only [decide_eq_true_eq, decide_eq_false_iff_not, Int.not_lt, Int.not_le, gt_iff_lt] at h5)
   have hz0 : SzE o := by first | exact ho | exact fun x hx => ho x (List.mem_of_mem_take hx)
   have hz1 : SzE a := by first | exact ha | exact fun x hx => ha x (List.mem_of_mem_take hx)
   refine .br [.r [(1, X (Xc0 (fc_partError o (by assumption)) X0)), (5, Xv 1 (!((partE o 0) != 0)) (Xc0 (fc_partError a (by assumption)) X0)), (6, Xv 1 (!((partE o 0) != 0)) X0), (7, X (Xk' ((partE o 0) != 0)))]] (((partE o 0) != 0) || ((partE a 0) != 0)) (fun h7 => ?_) (fun h7 => ?_)
   ·
    (try simp only [Bool.or_eq_true, Bool.or_eq_false_iff, bne_iff_ne, bne_eq_false_iff_eq, ne_eq] at h7)
    exact .fin [.r []] []
   ·
    (try simp only [Bool.or_eq_true, Bool.or_eq_false_iff, bne_iff_ne, bne_eq_false_iff_eq, ne_eq] at h7)
    have n0 : AN 10000000 o := by first | exact no | exact an_take no _
    have n1 : AN 10000000 a := by first | exact na | exact an_take na _
    have l0 : (o).length ≤ 60 := by first | omega | (simp only [List.length_take]; omega)
    have l1 : (a).length ≤ 60 := by first | omega | (simp only [List.length_take]; omega)
    obtain ⟨p0, p1⟩ := h7
    obtain ⟨u1, u2⟩ := one_first p0 p1 n0 n1 (by omega) (by omega) 0
    obtain ⟨w1, w2⟩ := one_second p0 p1 n0 n1 (by omega) (by omega) 0
    obtain ⟨z1, z2⟩ := one_both p0 p1 n0 n1 (by omega) (by omega) 0
    obtain ⟨g, hg⟩ : ∃ z, a = z := ⟨_, rfl⟩
    refine .br [.r [(3, X (Xc1 160 (fc_mergeFlows o a o (by assumption) (by assumption) (by assumption) (by assumption) (by assumption) (by assumption) (by omega) (by omega) (by omega)) X0))], .le (.eq 7 (VL 3 elemT (mrgO 0 o (actOfL (doneD (diffU o a))) (actOfL (doneD (diffU o o))))) (VL 3 elemT g) (.of_eq (by rw [u1, hg]))), .le (.eq 8 (VL 5 confT (mrgC 0 o (actOfL (doneD (diffU o a))) (actOfL (doneD (diffU o o))))) (VL 5 confT ([] : List Conf)) (.of_eq (by rw [u2]))), .r []] sd (fun h10 => ?_) (fun h10 => ?_)
    ·
     have e7 : ((((((true && ((([] : List Conf).length : Int) == 0)) && (sameF g a)) || false) && ((([] : List Conf).length : Int) == 0)) && (sameF g a)) : Bool) = true := by
      rw [hg, sameF_self]; rfl
     exact .finE [.r [(3, X (Xc1 256 (fc_mergeFlows o o a (by assumption) (by assumption) (by assumption) (by assumption) (by assumption) (by assumption) (by omega) (by omega) (by omega)) X0))], .le (.eq 7 (VL 3 elemT (mrgO 0 o (actOfL (doneD (diffU o o))) (actOfL (doneD (diffU o a))))) (VL 3 elemT g) (.of_eq (by rw [w1, hg]))), .le (.eq 8 (VL 5 confT (mrgC 0 o (actOfL (doneD (diffU o o))) (actOfL (doneD (diffU o a))))) (VL 5 confT ([] : List Conf)) (.of_eq (by rw [w2]))), .r [(3, X (Xc1 344 (fc_mergeFlows o a a (by assumption) (by assumption) (by assumption) (by assumption) (by assumption) (by assumption) (by omega) (by omega) (by omega)) X0))], .le (.eq 10 (VL 3 elemT (mrgO 0 o (actOfL (doneD (diffU o a))) (actOfL (doneD (diffU o a))))) (VL 3 elemT g) (.of_eq (by rw [z1, hg]))), .le (.eq 11 (VL 5 confT (mrgC 0 o (actOfL (doneD (diffU o a))) (actOfL (doneD (diffU o a))))) (VL 5 confT ([] : List Conf)) (.of_eq (by rw [z2]))), .r [(4, Xv 1 true (Xl confT ([] : List Conf))), (5, Xv 1 true X0), (6, X (Xk true)), (10, Xv 2 (true && ((([] : List Conf).length : Int) == 0)) (Xc0 (fc_sameFlow g a) X0)), (11, X (Xk (true && ((([] : List Conf).length : Int) == 0)))), (14, Xv 1 ((true && ((([] : List Conf).length : Int) == 0)) && (sameF g a)) X0), (15, X (Xk ((true && ((([] : List Conf).length : Int) == 0)) && (sameF g a)))), (18, Xv 1 (((true && ((([] : List Conf).length : Int) == 0)) && (sameF g a)) || false) (Xl confT ([] : List Conf))), (19, Xv 1 (((true && ((([] : List Conf).length : Int) == 0)) && (sameF g a)) || false) X0), (20, X (Xk (((true && ((([] : List Conf).length : Int) == 0)) && (sameF g a)) || false))), (24, Xv 2 ((((true && ((([] : List Conf).length : Int) == 0)) && (sameF g a)) || false) && ((([] : List Conf).length : Int) == 0)) (Xc0 (fc_sameFlow g a) X0)), (25, X (Xk ((((true && ((([] : List Conf).length : Int) == 0)) && (sameF g a)) || false) && ((([] : List Conf).length : Int) == 0))))]] [] (fun z0 => (VB z0, [])) ((((((true && ((([] : List Conf).length : Int) == 0)) && (sameF g a)) || false) && ((([] : List Conf).length : Int) == 0)) && (sameF g a)) : Bool) (true : Bool) e7.symm
    ·
     have e8 : ((((((true && ((([] : List Conf).length : Int) == 0)) && (sameF g a)) || false) && ((([] : List Conf).length : Int) == 0)) && (sameF g a)) : Bool) = true := by
      rw [hg, sameF_self]; rfl
     exact .finE [.r [(3, X (Xc1 256 (fc_mergeFlows o a a (by assumption) (by assumption) (by assumption) (by assumption) (by assumption) (by assumption) (by omega) (by omega) (by omega)) X0))], .le (.eq 10 (VL 3 elemT (mrgO 0 o (actOfL (doneD (diffU o a))) (actOfL (doneD (diffU o a))))) (VL 3 elemT g) (.of_eq (by rw [z1, hg]))), .le (.eq 11 (VL 5 confT (mrgC 0 o (actOfL (doneD (diffU o a))) (actOfL (doneD (diffU o a))))) (VL 5 confT ([] : List Conf)) (.of_eq (by rw [z2]))), .r [(4, Xv 1 true (Xl confT ([] : List Conf))), (5, Xv 1 true X0), (6, X (Xk true)), (10, Xv 2 (true && ((([] : List Conf).length : Int) == 0)) (Xc0 (fc_sameFlow g a) X0)), (11, X (Xk (true && ((([] : List Conf).length : Int) == 0)))), (14, Xv 1 ((true && ((([] : List Conf).length : Int) == 0)) && (sameF g a)) X0), (15, X (Xk ((true && ((([] : List Conf).length : Int) == 0)) && (sameF g a)))), (18, Xv 1 (((true && ((([] : List Conf).length : Int) == 0)) && (sameF g a)) || false) (Xl confT ([] : List Conf))), (19, Xv 1 (((true && ((([] : List Conf).length : Int) == 0)) && (sameF g a)) || false) X0), (20, X (Xk (((true && ((([] : List Conf).length : Int) == 0)) && (sameF g a)) || false))), (24, Xv 2 ((((true && ((([] : List Conf).length : Int) == 0)) && (sameF g a)) || false) && ((([] : List Conf).length : Int) == 0)) (Xc0 (fc_sameFlow g a) X0)), (25, X (Xk ((((true && ((([] : List Conf).length : Int) == 0)) && (sameF g a)) || false) && ((([] : List Conf).length : Int) == 0))))]] [] (fun z0 => (VB z0, [])) ((((((true && ((([] : List Conf).length : Int) == 0)) && (sameF g a)) || false) && ((([] : List Conf).length : Int) == 0)) && (sameF g a)) : Bool) (true : Bool) e8.symm
end Go.Ch
end
section
set_option linter.unusedVariables false
set_option linter.unusedSimpArgs false
namespace Go.Proofs.Ytbdbibmbfmlobaa.frame
open Go Go.Proofs
def chs (l : List Nat) : List Char := l.map Char.ofNat
def w1 : List Char := chs [104, 97, 114, 110, 101, 115, 115]
def w2 : List Char := chs [102, 99, 57, 53, 99, 99, 54, 48, 52, 99, 55, 51, 55, 49, 100, 51, 97, 56, 102, 99, 55, 97, 51, 57, 52, 52, 50, 100, 100, 57, 102, 97, 97, 99, 52, 99, 99, 102, 50, 53, 100, 98, 52, 98, 52, 52, 50, 100, 56, 50, 102, 102, 97, 49, 97, 50, 48, 51, 57, 48, 102, 97, 101, 102]
def w3 : List Char := chs [99, 117, 116]
def sp : Char := Char.ofNat 32
theorem ws_sp (r : List Char) : wordsSigns (sp :: r) = [] :: wordsSigns r := rfl
theorem ws_c (c : Char) (r : List Char) (h : c ≠ sp) : wordsSigns (c :: r) = match wordsSigns r with
    | w :: ws => (c :: w) :: ws
    | [] => [[c]] := by
  rw [wordsSigns.eq_def]
  split
  · rename_i e; cases e
  · rename_i e; simp only [List.cons.injEq] at e; exact absurd e.1 h
  · rename_i e; simp only [List.cons.injEq] at e; obtain ⟨rfl, rfl⟩ := e; rfl
theorem ws_app : ∀ (a : List Char), (a.all fun c => c != sp) = true → ∀ r, wordsSigns (a ++ sp :: r) = a :: wordsSigns r
  | [], _, r => ws_sp r
  | c :: a, h, r => by
    simp only [List.all_cons, Bool.and_eq_true, bne_iff_ne] at h
    rw [List.cons_append, ws_c _ _ h.1, ws_app a h.2 r]
theorem tl (l : List Char) : (String.ofList l).toList = l := String.toList_ofList
theorem k1 : ("harness" : String).toList = w1 := tl w1
theorem k2 : ("cut" : String).toList = w3 := tl w3
theorem k3 : ("gc" : String).toList = chs [103, 99] := tl (chs [103, 99])
theorem k4 : ("spec" : String).toList = chs [115, 112, 101, 99] := tl (chs [115, 112, 101, 99])
theorem k5 : ("carried" : String).toList = chs [99, 97, 114, 114, 105, 101, 100] := tl (chs [99, 97, 114, 114, 105, 101, 100])
theorem lifts (r : List (List Char)) : stripLifts liftWords (w3 :: r) = ([], w3 :: r) := by
  unfold liftWords
  simp only [stripLifts]
  have key : ∀ l : List Nat, (w3 == chs l) = false → ∀ (s : String), s = String.ofList (chs l) → (w3 == s.toList) = false := fun l h s e => by rw [e, tl]; exact h
  rw [if_neg (by rw [key [102, 105, 110, 97, 108, 115] (by kernel_rfl) "finals" rfl]; decide)]
  rw [if_neg (by rw [key [114, 101, 102, 108, 101, 99, 116, 114, 111, 119, 115] (by kernel_rfl) "reflectrows" rfl]; decide)]
  rw [if_neg (by rw [key [108, 101, 97, 110, 114, 111, 119, 115] (by kernel_rfl) "leanrows" rfl]; decide)]
  rw [if_neg (by rw [key [111, 110, 101, 98, 117, 105, 108, 100] (by kernel_rfl) "onebuild" rfl]; decide)]
  rw [if_neg (by rw [key [112, 117, 98, 108, 105, 99, 115, 117, 109, 115] (by kernel_rfl) "publicsums" rfl]; decide)]
  rw [if_neg (by rw [key [101, 113, 103, 117, 97, 114, 100] (by kernel_rfl) "eqguard" rfl]; decide)]
  rw [if_neg (by rw [key [111, 119, 110, 117, 110, 115, 97, 102, 101] (by kernel_rfl) "ownunsafe" rfl]; decide)]
  rw [if_neg (by rw [key [108, 105, 98, 98, 101, 115, 105, 100, 101] (by kernel_rfl) "libbeside" rfl]; decide)]
  rw [if_neg (by rw [key [111, 119, 110, 98, 101, 115, 105, 100, 101] (by kernel_rfl) "ownbeside" rfl]; decide)]
  rw [if_neg (by rw [key [114, 101, 102, 108, 98, 101, 115, 105, 100, 101] (by kernel_rfl) "reflbeside" rfl]; decide)]
  rw [if_neg (by rw [key [97, 108, 105, 97, 115, 101, 115] (by kernel_rfl) "aliases" rfl]; decide)]
  rw [if_neg (by rw [key [97, 102, 116, 101, 114, 105, 110, 105, 116] (by kernel_rfl) "afterinit" rfl]; decide)]
  rw [if_neg (by rw [key [99, 114, 99, 112, 108, 97, 105, 110] (by kernel_rfl) "crcplain" rfl]; decide)]
  rw [if_neg (by rw [key [114, 111, 97, 100, 117, 110, 115, 97, 102, 101] (by kernel_rfl) "roadunsafe" rfl]; decide)]
  rw [if_neg (by rw [key [102, 109, 116, 104, 97, 110, 100, 111, 110] (by kernel_rfl) "fmthandon" rfl]; decide)]
theorem words {P : Program} {rest : List Char} (h : P.initOrder.toList = w1 ++ sp :: (w2 ++ sp :: (w3 ++ sp :: rest))) : behindMainWord (wordsSigns P.initOrder.toList) = w3 :: wordsSigns rest := by
  rw [h, ws_app w1 (by kernel_rfl), ws_app w2 (by kernel_rfl), ws_app w3 (by kernel_rfl)]
  unfold behindMainWord
  rw [k1]
  exact if_pos (by kernel_rfl)
theorem may {P : Program} {rest : List Char} (h : P.initOrder.toList = w1 ++ sp :: (w2 ++ sp :: (w3 ++ sp :: rest))) (hl : P.laysLater = false) (hb : P.bearsReflect = false) (hd : P.doorFits [] = true) : P.mayEnter = true := by
  unfold Program.mayEnter
  rw [words h]
  simp only [lifts, k2, k3, k4, k5, hl, hb, hd]
  have h1 : (w3 == chs [103, 99]) = false := by kernel_rfl
  have h2 : (w3 == chs [115, 112, 101, 99]) = false := by kernel_rfl
  have h3 : (w3 == chs [99, 97, 114, 114, 105, 101, 100]) = false := by kernel_rfl
  rw [h1, h2, h3]
  simp
theorem fin {P : Program} {rest : List Char} (h : P.initOrder.toList = w1 ++ sp :: (w2 ++ sp :: (w3 ++ sp :: rest))) : P.liftsFinal = false := by
  unfold Program.liftsFinal Program.headLifts
  rw [words h]
  simp only [lifts, k2, k5]
  have h3 : (w3 == chs [99, 97, 114, 114, 105, 101, 100]) = false := by kernel_rfl
  simp [h3]
theorem mk {P : Program} {rest : List Char} (h : P.initOrder.toList = w1 ++ sp :: (w2 ++ sp :: (w3 ++ sp :: rest))) : P.make = some .cut := by
  unfold Program.make
  rw [words h]
  simp only [k2, k3, k4, k5]
  have h1 : (w3 == chs [103, 99]) = false := by kernel_rfl
  have h2 : (w3 == chs [115, 112, 101, 99]) = false := by kernel_rfl
  rw [h1, h2]
  simp
theorem head : Try.pinned.checked.prog.initOrder = String.ofList (w1 ++ sp :: (w2 ++ sp :: (w3 ++ sp :: chs [97, 116, 32, 99, 104, 97, 110, 99, 101, 114, 121, 47, 99, 104, 97, 110, 99, 101, 114, 121, 107, 101, 101, 112, 49, 46, 83, 112, 97, 110, 83, 105, 122, 101, 115, 65, 100, 100, 32, 99, 104, 97, 110, 99, 101, 114, 121, 47, 99, 104, 97, 110, 99, 101, 114, 121, 107, 101, 101, 112, 49, 46, 65, 116, 116, 114, 85, 110, 100, 111, 82, 101, 115, 116, 111, 114, 101, 115, 32, 99, 104, 97, 110, 99, 101, 114, 121, 47, 99, 104, 97, 110, 99, 101, 114, 121, 107, 101, 101, 112, 49, 46, 65, 116, 116, 114, 66, 101, 116, 119, 101, 101, 110, 76, 101, 97, 100, 115, 32, 99, 104, 97, 110, 99, 101, 114, 121, 47, 99, 104, 97, 110, 99, 101, 114, 121, 107, 101, 101, 112, 49, 46, 65, 116, 116, 114, 80, 97, 105, 114, 77, 101, 101, 116, 115, 32, 99, 104, 97, 110, 99, 101, 114, 121, 47, 99, 104, 97, 110, 99, 101, 114, 121, 107, 101, 101, 112, 49, 46, 65, 120, 105, 115, 74, 111, 105, 110, 65, 115, 115, 111, 99, 105, 97, 116, 101, 115, 32, 99, 104, 97, 110, 99, 101, 114, 121, 47, 99, 104, 97, 110, 99, 101, 114, 121, 107, 101, 101, 112, 49, 46, 65, 120, 105, 115, 80, 97, 105, 114, 77, 101, 101, 116, 115, 32, 99, 104, 97, 110, 99, 101, 114, 121, 47, 99, 104, 97, 110, 99, 101, 114, 121, 107, 101, 101, 112, 49, 46, 65, 120, 105, 115, 80, 108, 97, 99, 101, 115, 75, 101, 101, 112, 79, 114, 100, 101, 114, 32, 99, 104, 97, 110, 99, 101, 114, 121, 47, 99, 104, 97, 110, 99, 101, 114, 121, 107, 101, 101, 112, 49, 46, 68, 101, 108, 116, 97, 84, 105, 100, 121, 65, 99, 116, 115, 32, 99, 104, 97, 110, 99, 101, 114, 121, 47, 99, 104, 97, 110, 99, 101, 114, 121, 107, 101, 101, 112, 49, 46, 68, 101, 108, 116, 97, 85, 110, 100, 111, 82, 101, 115, 116, 111, 114, 101, 115, 32, 99, 104, 97, 110, 99, 101, 114, 121, 47, 99, 104, 97, 110, 99, 101, 114, 121, 107, 101, 101, 112, 49, 46, 68, 101, 108, 116, 97, 74, 111, 105, 110, 65, 99, 116, 115, 32, 99, 104, 97, 110, 99, 101, 114, 121, 47, 99, 104, 97, 110, 99, 101, 114, 121, 107, 101, 101, 112, 49, 46, 68, 101, 108, 116, 97, 80, 97, 105, 114, 77, 101, 101, 116, 115, 32, 99, 104, 97, 110, 99, 101, 114, 121, 47, 99, 104, 97, 110, 99, 101, 114, 121, 107, 101, 101, 112, 49, 46, 68, 105, 102, 102, 66, 111, 116, 104, 87, 97, 121, 115, 32, 99, 104, 97, 110, 99, 101, 114, 121, 47, 99, 104, 97, 110, 99, 101, 114, 121, 107, 101, 101, 112, 49, 46, 84, 114, 97, 99, 107, 65, 99, 99, 101, 112, 116, 83, 104, 111, 119, 115, 32, 99, 104, 97, 110, 99, 101, 114, 121, 47, 99, 104, 97, 110, 99, 101, 114, 121, 107, 101, 101, 112, 49, 46, 83, 112, 97, 110, 84, 104, 114, 111, 117, 103, 104, 67, 111, 110, 116, 97, 105, 110, 115, 32, 99, 104, 97, 110, 99, 101, 114, 121, 47, 99, 104, 97, 110, 99, 101, 114, 121, 107, 101, 101, 112, 49, 46, 77, 101, 114, 103, 101, 79, 110, 101, 83, 105, 100, 101, 100, 32, 99, 104, 97, 110, 99, 101, 114, 121, 47, 99, 104, 97, 110, 99, 101, 114, 121, 107, 101, 101, 112, 49, 46, 77, 101, 114, 103, 101, 69, 120, 99, 104, 97, 110, 103, 101, 100, 32, 99, 104, 97, 110, 99, 101, 114, 121, 47, 99, 104, 97, 110, 99, 101, 114, 121, 107, 101, 101, 112, 49, 46, 68, 101, 108, 116, 97, 65, 120, 105, 115, 65, 103, 114, 101, 101, 115]))) := by kernel_rfl
set_option maxRecDepth 100000 in
theorem headL : Try.pinned.checked.prog.initOrder.toList = w1 ++ sp :: (w2 ++ sp :: (w3 ++ sp :: chs [97, 116, 32, 99, 104, 97, 110, 99, 101, 114, 121, 47, 99, 104, 97, 110, 99, 101, 114, 121, 107, 101, 101, 112, 49, 46, 83, 112, 97, 110, 83, 105, 122, 101, 115, 65, 100, 100, 32, 99, 104, 97, 110, 99, 101, 114, 121, 47, 99, 104, 97, 110, 99, 101, 114, 121, 107, 101, 101, 112, 49, 46, 65, 116, 116, 114, 85, 110, 100, 111, 82, 101, 115, 116, 111, 114, 101, 115, 32, 99, 104, 97, 110, 99, 101, 114, 121, 47, 99, 104, 97, 110, 99, 101, 114, 121, 107, 101, 101, 112, 49, 46, 65, 116, 116, 114, 66, 101, 116, 119, 101, 101, 110, 76, 101, 97, 100, 115, 32, 99, 104, 97, 110, 99, 101, 114, 121, 47, 99, 104, 97, 110, 99, 101, 114, 121, 107, 101, 101, 112, 49, 46, 65, 116, 116, 114, 80, 97, 105, 114, 77, 101, 101, 116, 115, 32, 99, 104, 97, 110, 99, 101, 114, 121, 47, 99, 104, 97, 110, 99, 101, 114, 121, 107, 101, 101, 112, 49, 46, 65, 120, 105, 115, 74, 111, 105, 110, 65, 115, 115, 111, 99, 105, 97, 116, 101, 115, 32, 99, 104, 97, 110, 99, 101, 114, 121, 47, 99, 104, 97, 110, 99, 101, 114, 121, 107, 101, 101, 112, 49, 46, 65, 120, 105, 115, 80, 97, 105, 114, 77, 101, 101, 116, 115, 32, 99, 104, 97, 110, 99, 101, 114, 121, 47, 99, 104, 97, 110, 99, 101, 114, 121, 107, 101, 101, 112, 49, 46, 65, 120, 105, 115, 80, 108, 97, 99, 101, 115, 75, 101, 101, 112, 79, 114, 100, 101, 114, 32, 99, 104, 97, 110, 99, 101, 114, 121, 47, 99, 104, 97, 110, 99, 101, 114, 121, 107, 101, 101, 112, 49, 46, 68, 101, 108, 116, 97, 84, 105, 100, 121, 65, 99, 116, 115, 32, 99, 104, 97, 110, 99, 101, 114, 121, 47, 99, 104, 97, 110, 99, 101, 114, 121, 107, 101, 101, 112, 49, 46, 68, 101, 108, 116, 97, 85, 110, 100, 111, 82, 101, 115, 116, 111, 114, 101, 115, 32, 99, 104, 97, 110, 99, 101, 114, 121, 47, 99, 104, 97, 110, 99, 101, 114, 121, 107, 101, 101, 112, 49, 46, 68, 101, 108, 116, 97, 74, 111, 105, 110, 65, 99, 116, 115, 32, 99, 104, 97, 110, 99, 101, 114, 121, 47, 99, 104, 97, 110, 99, 101, 114, 121, 107, 101, 101, 112, 49, 46, 68, 101, 108, 116, 97, 80, 97, 105, 114, 77, 101, 101, 116, 115, 32, 99, 104, 97, 110, 99, 101, 114, 121, 47, 99, 104, 97, 110, 99, 101, 114, 121, 107, 101, 101, 112, 49, 46, 68, 105, 102, 102, 66, 111, 116, 104, 87, 97, 121, 115, 32, 99, 104, 97, 110, 99, 101, 114, 121, 47, 99, 104, 97, 110, 99, 101, 114, 121, 107, 101, 101, 112, 49, 46, 84, 114, 97, 99, 107, 65, 99, 99, 101, 112, 116, 83, 104, 111, 119, 115, 32, 99, 104, 97, 110, 99, 101, 114, 121, 47, 99, 104, 97, 110, 99, 101, 114, 121, 107, 101, 101, 112, 49, 46, 83, 112, 97, 110, 84, 104, 114, 111, 117, 103, 104, 67, 111, 110, 116, 97, 105, 110, 115, 32, 99, 104, 97, 110, 99, 101, 114, 121, 47, 99, 104, 97, 110, 99, 101, 114, 121, 107, 101, 101, 112, 49, 46, 77, 101, 114, 103, 101, 79, 110, 101, 83, 105, 100, 101, 100, 32, 99, 104, 97, 110, 99, 101, 114, 121, 47, 99, 104, 97, 110, 99, 101, 114, 121, 107, 101, 101, 112, 49, 46, 77, 101, 114, 103, 101, 69, 120, 99, 104, 97, 110, 103, 101, 100, 32, 99, 104, 97, 110, 99, 101, 114, 121, 47, 99, 104, 97, 110, 99, 101, 114, 121, 107, 101, 101, 112, 49, 46, 68, 101, 108, 116, 97, 65, 120, 105, 115, 65, 103, 114, 101, 101, 115])) := by rw [head, tl]
theorem later : Try.pinned.checked.prog.laysLater = false := by kernel_rfl
theorem refl : Try.pinned.checked.prog.bearsReflect = false := by kernel_rfl
theorem door : Try.pinned.checked.prog.doorFits [] = true := by kernel_rfl
theorem mayEnter : Try.pinned.checked.prog.mayEnter = true := may headL later refl door
theorem made : Try.pinned.checked.prog.make = some .cut := mk headL
theorem laid : laidOutB Try.pinned.checked.prog = true := by kernel_rfl
theorem rowed : mapsRowed Try.pinned.checked.prog = true := by kernel_rfl
theorem noStops : Try.pinned.checked.prog.stops = [] := by kernel_rfl
theorem noKnobs : Try.pinned.checked.prog.stopKnobs = [] := by kernel_rfl
theorem heard : Try.pinned.checked.prog.stopsHeard = true := by kernel_rfl
theorem keys : Try.pinned.checked.prog.plainKeys = true := by kernel_rfl
theorem liftsNo : Try.pinned.checked.prog.liftsFinal = false := fin headL
end Go.Proofs.Ytbdbibmbfmlobaa.frame
end
section
set_option linter.unusedVariables false
namespace Go.Ab
open Go Go.Proofs.Ytbdbibmbfmlobaa
variable {P : Program} {W : World}

def RdM (P : Program) (t : TypeId) (k : Nat) {α : Type} (f : α → Tree) (μ : α → Nat) : Prop :=
  (∀ a, Elt k (f a)) ∧ P.cellsOf t = k ∧ ∀ (H : Type) (enc : TypeId × Value → H) (W : World) (fuel : Nat) (cs : List Value) (x : DataW H × List MemPlace),
    DataW.trod enc P W 0 (fun _ => true) true fuel t cs = some x → ∃ a : α, CellsR W (f a).cells cs ∧ μ a ≤ Rows.uptoBulk x.1

theorem bulk_pos {H : Type} (d : DataW H) : 1 ≤ Rows.uptoBulk d := by
  cases d with
  | lit l => cases l <;> simp [Rows.uptoBulk]
  | _ => simp [Rows.uptoBulk]

theorem RdM.int {t : TypeId} {k : IntKind} (ht : P.underlying t = some (.int k)) (hc : P.cellsOf t = 1) : RdM P t 1 (fun z : Int => .sc (.int k z)) (fun _ => 1) := by
  refine ⟨fun _ => elt1, hc, fun H enc W fuel cs x h => ?_⟩
  obtain ⟨n, rfl, _, _⟩ := DataW.trod_int ht h
  exact ⟨n, cells1 rfl (.sc _ rfl), bulk_pos _⟩
/-- An integer with its bounds. -/
theorem RdM.i64 {t : TypeId} (ht : P.underlying t = some (.int .i64)) (hc : P.cellsOf t = 1) : RdM P t 1 (fun z : { z : Int // -9223372036854775808 ≤ z ∧ z ≤ 9223372036854775807 } => .sc (.int .i64 z.1)) (fun _ => 1) := by
  refine ⟨fun _ => elt1, hc, fun H enc W fuel cs x h => ?_⟩
  obtain ⟨n, rfl, _, hw⟩ := DataW.trod_int ht h
  exact ⟨⟨n, by simpa [Lit.wf, IntKind.min, IntKind.max, IntKind.signed, IntKind.bits] using hw⟩, cells1 rfl (.sc _ rfl), bulk_pos _⟩
theorem RdM.bool {t : TypeId} (ht : P.underlying t = some .bool) (hc : P.cellsOf t = 1) : RdM P t 1 (fun b : Bool => .sc (.bool b)) (fun _ => 1) := by
  refine ⟨fun _ => elt1, hc, fun H enc W fuel cs x h => ?_⟩
  obtain ⟨n, rfl, _⟩ := DataW.trod_bool ht h
  exact ⟨n, cells1 rfl (.sc _ rfl), bulk_pos _⟩
theorem RdM.str {t : TypeId} (ht : P.underlying t = some .string) (hc : P.cellsOf t = 1) : RdM P t 1 (fun s : ByteArray => .sc (.string s)) (fun s => s.size + 1) := by
  refine ⟨fun _ => elt1, hc, fun H enc W fuel cs x h => ?_⟩
  obtain ⟨n, rfl, rfl, _⟩ := DataW.trod_string ht h
  exact ⟨n, cells1 rfl (.sc _ rfl), by simp [Rows.uptoBulk]⟩

theorem sum_le {α H : Type} {μ : α → Nat} : ∀ {l : List α} {es : List (DataW H)}, l.length = es.length → (∀ (i : Nat) (a : α) (d : DataW H), l[i]? = some a → es[i]? = some d → μ a ≤ Rows.uptoBulk d) → (l.map μ).sum ≤ Rows.uptoBulkAll es
  | [], es, _, _ => by simp
  | a :: l, [], h, _ => by simp at h
  | a :: l, d :: es, h, hi => by
    have h0 := hi 0 a d rfl rfl
    have ih := sum_le (l := l) (es := es) (by simpa using h) (fun i a' d' h1 h2 => hi (i + 1) a' d' (by simpa using h1) (by simpa using h2))
    simp only [List.map_cons, List.sum_cons, Rows.uptoBulkAll]
    omega

theorem RdM.slice {t e : TypeId} {k : Nat} {α : Type} {f : α → Tree} {μ : α → Nat} (ht : P.underlying t = some (.slice e)) (hk : 0 < k) (hc : P.cellsOf t = 1) (he : RdM P e k f μ) : RdM P t 1 (fun l : List α => .lst k (l.map f)) (fun l => (l.map μ).sum + 1) := by
  obtain ⟨h1, h2, h3⟩ := he
  refine ⟨fun l => ⟨rfl, fun T hT => by simp [Tree.cells] at hT; subst hT; rfl⟩, hc, fun H enc W fuel cs x h => ?_⟩
  have hx : ∀ l : List α, ∀ x ∈ l.map f, Elt k x := fun l x hx => by
    obtain ⟨a, _, rfl⟩ := List.mem_map.1 hx
    exact h1 a
  rcases DataW.trod_slice ht h with ⟨rfl, hx0⟩ | ⟨a, len, cap, elems, rest, n, _, rfl, hxe, hb, hl, hm, hlen, hel, _, _⟩
  · refine ⟨[], cells1 rfl (.lst k [] none 0 [] hk (fun x hx => by simp at hx) (Nat.le_refl _) (by simp [maxLen]) (fun h => absurd rfl h) (by simp) (fun j T u hT => by simp [flat] at hT)), ?_⟩
    exact bulk_pos _
  · have key : ∀ i, i < len → ∃ y : α, (∃ cs', cs'.length = k ∧ (∀ r, r < k → W.cell? (a.add (i * k + r)) = cs'[r]?) ∧ CellsR W (f y).cells cs') ∧ ∀ d, (elems.map (·.1))[i]? = some d → μ y ≤ Rows.uptoBulk d := by
      intro i hi
      have h4 := hel i hi
      have h5 : elems[i]? = some elems[i] := by rw [List.getElem?_eq_getElem (by omega)]
      rw [h5, h2] at h4
      obtain ⟨cs', h6, h7⟩ := Option.bind_eq_some_iff.1 h4
      obtain ⟨q1, q2, q3⟩ := World.cells?_some h6
      obtain ⟨y, hy, hμ⟩ := h3 H enc W n cs' _ h7
      refine ⟨y, ⟨cs', q2, fun r hr => ?_, hy⟩, fun d hd => ?_⟩
      · rw [← q3 r hr]
        rw [Addr.add_add]
      · rw [List.getElem?_map, h5] at hd
        simp only [Option.map_some, Option.some.injEq] at hd
        subst hd; exact hμ
    obtain ⟨l, hl1, hl2'⟩ := list_of len _ key
    have hl2 := fun i a h => (hl2' i a h).1
    have hspot : l ≠ [] → ∃ u, W.cell? a = some u := by
      intro hne
      have h0 : 0 < len := by rw [← hl1]; exact List.length_pos_iff.2 hne
      obtain ⟨cs', c1, c2, c3⟩ := hl2 0 l[0] (by rw [List.getElem?_eq_getElem (by omega)])
      have := c2 0 hk
      simp only [Nat.zero_mul, Nat.add_zero] at this
      rw [List.getElem?_eq_getElem (by omega)] at this
      have e : a.add 0 = a := by simp [Addr.add]
      rw [e] at this
      exact ⟨_, this⟩
    refine ⟨l, cells1 rfl ?_, ?_⟩
    rotate_left
    · rw [hxe]
      simp only [Rows.uptoBulk]
      have := sum_le (μ := μ) (l := l) (es := elems.map (·.1)) (by simp [hl1, hlen]) (fun i y d h1 h2 => (hl2' i y h1).2 d h2)
      omega
    have hget : ∀ j, j < len * k → ∃ u, W.cell? (a.add j) = some u ∧ ∀ T, (flat (l.map f))[j]? = some T → TRep W (fun b => b < W.heap.size) T u := by
      intro j hj
      have hi : j / k < len := Nat.div_lt_of_lt_mul (by rw [Nat.mul_comm]; exact hj)
      have hr : j % k < k := Nat.mod_lt _ hk
      have hji : j = j / k * k + j % k := by rw [Nat.mul_comm]; exact (Nat.div_add_mod j k).symm
      obtain ⟨cs', c1, c2, c3⟩ := hl2 (j / k) l[j / k] (by rw [List.getElem?_eq_getElem (by omega)])
      have c4 := c2 (j % k) hr
      rw [← hji, List.getElem?_eq_getElem (by omega)] at c4
      refine ⟨_, c4, fun T hT => ?_⟩
      rw [hji, flat_get (hx l) (i := j / k) (X := f l[j / k]) (by simp [List.getElem?_eq_getElem (show j / k < l.length by omega)]) hr] at hT
      exact c3.2 (j % k) T _ hT (by rw [List.getElem?_eq_getElem (by omega)])
    obtain ⟨us, hu1, hu2⟩ := list_of (len * k) _ hget
    have hlm : (l.map f).length = len := by simp [hl1]
    have := TRep.lst (w := W) (ok := fun b => b < W.heap.size) k (l.map f) (some a) cap us hk (hx l) (by omega) hm (fun hne => ?_) (by rw [hlm]; exact hu1) (fun j T u hT hu => (hu2 j u hu).2 T hT)
    · rw [hlm] at this; exact this
    · obtain ⟨u, hu⟩ := hspot (fun e => hne (by rw [e]; rfl))
      have hs := World.cell?_spot hu
      obtain ⟨b, o, sp⟩ := a
      simp only at hs
      subst hs
      refine ⟨b, o, rfl, ?_, fun j u hj => ?_⟩
      · simp only [World.cell?] at hu
        by_cases hb : b < W.heap.size
        · exact hb
        · rw [Array.getElem?_eq_none (by omega)] at hu; simp at hu
      · have := (hu2 j u hj).1
        rw [add_lit'] at this
        exact this

theorem RdM.map {t : TypeId} {k : Nat} {α β : Type} {f : α → Tree} {μ : α → Nat} {f' : β → Tree} {μ' : β → Nat} (h : RdM P t k f μ) (g : α → β) (hf : ∀ a, f' (g a) = f a) (hm : ∀ a, μ' (g a) ≤ μ a) (he : ∀ b, Elt k (f' b)) : RdM P t k f' μ' := by
  obtain ⟨h1, h2, h3⟩ := h
  refine ⟨he, h2, fun H enc W fuel cs x hx => ?_⟩
  obtain ⟨a, ha, hb⟩ := h3 H enc W fuel cs x hx
  exact ⟨g a, by rw [hf]; exact ha, Nat.le_trans (hm a) hb⟩

/-- The fields of a struct, from a cell on. -/
def RdFM (P : Program) (off : Nat) (fs : List Field) (k : Nat) {β : Type} (g : β → List Tree) (μ : β → Nat) : Prop :=
  (∀ b, (g b).length = k ∧ ∀ T ∈ g b, T.isCell = true) ∧ ∀ (H : Type) (enc : TypeId × Value → H) (W : World) (n : Nat) (cs : List Value) (ys : List (DataW H × List MemPlace)),
    ys.length = fs.length → (∀ (i : Nat) (f : Field), fs[i]? = some f → DataW.trod enc P W 0 (fun _ => true) true n f.type ((cs.drop f.offset).take (P.cellsOf f.type)) = ys[i]?) →
    ∃ b : β, (∀ (j : Nat) (T : Tree) (u : Value), (g b)[j]? = some T → cs[off + j]? = some u → TRep W (fun b => b < W.heap.size) T u) ∧ μ b ≤ Rows.uptoBulkAll (ys.map (·.1))
theorem RdFM.nil {off : Nat} : RdFM P off [] 0 (fun _ : Unit => []) (fun _ => 0) :=
  ⟨fun _ => ⟨rfl, fun T hT => by simp at hT⟩, fun H enc W n cs ys h1 h2 => ⟨(), fun j T u hT => by simp at hT, Nat.zero_le _⟩⟩
theorem RdFM.cons {off : Nat} {f : Field} {fs : List Field} {k1 k2 : Nat} {α β : Type} {f1 : α → Tree} {μ1 : α → Nat} {g2 : β → List Tree} {μ2 : β → Nat} (ho : f.offset = off) (h : RdM P f.type k1 f1 μ1) (hs : RdFM P (off + k1) fs k2 g2 μ2) : RdFM P off (f :: fs) (k1 + k2) (fun p : α × β => (f1 p.1).cells ++ g2 p.2) (fun p => μ1 p.1 + μ2 p.2) := by
  obtain ⟨h1, h2, h3⟩ := h
  obtain ⟨s1, s2⟩ := hs
  refine ⟨fun p => ⟨by rw [List.length_append, (h1 p.1).1, (s1 p.2).1], fun T hT => ?_⟩, fun H enc W n cs ys hl hy => ?_⟩
  · rcases List.mem_append.1 hT with hT | hT
    · exact (h1 p.1).2 T hT
    · exact (s1 p.2).2 T hT
  · cases ys with
    | nil => simp at hl
    | cons y ys =>
      have e0 := hy 0 f rfl
      simp only [List.getElem?_cons_zero, ho, h2] at e0
      obtain ⟨a, ⟨ha1, ha2⟩, ha3⟩ := h3 H enc W n _ _ e0
      obtain ⟨b, hb, hb3⟩ := s2 H enc W n cs ys (by simpa using hl) (fun i f' hf => by simpa using hy (i + 1) f' (by simpa using hf))
      refine ⟨(a, b), fun j T u hT hu => ?_, by simp only [List.map_cons, Rows.uptoBulkAll]; omega⟩
      by_cases hj : j < (f1 a).cells.length
      · rw [List.getElem?_append_left hj] at hT
        have hk : j < k1 := by rw [(h1 a).1] at hj; exact hj
        refine ha2 j T u hT ?_
        rw [List.getElem?_take, if_pos hk, List.getElem?_drop]
        exact hu
      · rw [List.getElem?_append_right (by show (f1 a).cells.length ≤ j; omega)] at hT
        rw [(h1 a).1] at hj hT
        refine hb (j - k1) T u hT ?_
        rw [← hu]; congr 1; omega
theorem RdM.struct {t : TypeId} {fs : Array Field} {k : Nat} {β : Type} {g : β → List Tree} {μ : β → Nat} (ht : P.underlying t = some (.struct fs)) (hc : P.cellsOf t = k) (h : RdFM P 0 fs.toList k g μ) : RdM P t k (fun b => .agg (g b)) (fun b => μ b + 1) := by
  obtain ⟨s1, s2⟩ := h
  refine ⟨fun b => s1 b, hc, fun H enc W fuel cs x hx => ?_⟩
  obtain ⟨xs, n, _, hxe, hl, hlen, hf⟩ := DataW.trod_struct ht hx
  obtain ⟨b, hb, hμ⟩ := s2 H enc W n cs xs (by simpa using hlen) (fun i f hi => hf i f (by simpa using hi))
  refine ⟨b, ⟨by rw [hl, hc]; exact (s1 b).1.symm, fun j T u hT hu => hb j T u hT (by simpa using hu)⟩, ?_⟩
  rw [hxe]; simp only [Rows.uptoBulk]; omega

/-- A one-cell argument. -/
theorem RdM.arg {t : TypeId} {α : Type} {f : α → Tree} {μ : α → Nat} (h : RdM P t 1 f μ) (h1 : ∀ a, (f a).isCell = true) {H : Type} {enc : TypeId × Value → H} {v : Value} {d : DataW H} {ps : List MemPlace} (hd : DataW.Trod enc P W 0 (fun _ => true) true t v d ps) (hv : v.cells.toList = [v]) :
    ∃ a, TRep W (fun b => b < W.heap.size) (f a) v ∧ μ a ≤ Rows.uptoBulk d := by
  obtain ⟨fuel, hf⟩ := hd
  obtain ⟨a, ⟨c1, c2⟩, c3⟩ := h.2.2 H enc W fuel _ _ hf
  refine ⟨a, c2 0 _ _ ?_ (by rw [hv]; rfl), c3⟩
  cases hfa : f a with
  | agg cs => have := h1 a; rw [hfa] at this; cases this
  | sc v => rfl
  | lst k xs => rfl
theorem bulk_bound {H : Type} {l : List (DataW H)} (hk : Rows.uptoSmall H l = true) : Rows.uptoBulkAll l ≤ 1048576 := of_decide_eq_true hk
theorem sum_mem {α : Type} {μ : α → Nat} {l : List α} {a : α} (h : a ∈ l) : μ a ≤ (l.map μ).sum := by
  induction l with
  | nil => cases h
  | cons b l ih =>
    simp only [List.map_cons, List.sum_cons]
    rcases List.mem_cons.1 h with rfl | h
    · omega
    · have := ih h; omega
theorem sum_len {α : Type} {μ : α → Nat} (hμ : ∀ a, 1 ≤ μ a) (l : List α) : l.length ≤ (l.map μ).sum := by
  induction l with
  | nil => simp
  | cons b l ih => have := hμ b; simp only [List.map_cons, List.sum_cons, List.length_cons]; omega
end Go.Ab
end
