/- Parts of the proof: ChDelta2, ChDelta3, ChDelta4, ChDelta5, ChDelta6, ChDelta7, DeltaLaws, ChDelta8, ChAxis6, ChAxisF, ChAxisG, ChPlace, ChPlace2, Frame. -/
import Derived.Test.YtbdbibmbfmlobaaM1
import Derived.Test.YtbdbibmbfmlobaaM2
import Derived.Test.YtbdbibmbfmlobaaM3
import Derived.Test.YtbdbibmbfmlobaaM4
import Derived.Test.YtbdbibmbfmlobaaM5
import Derived.Test.YtbdbibmbfmlobaaRows
import Derived.JoinedOf
import Derived.ProofKit
section
set_option linter.unusedVariables false
set_option linter.unusedSimpArgs false
set_option maxRecDepth 100000
set_option maxHeartbeats 4000000
open Go Go.Proofs Go.Ab
namespace Go.Ch
theorem fc_dRaw (f : List Elem) (l : List DStep) (hv : DValid l) (hd : DN 400000000000 l) (ha : AN 400000000000 f) (hlen : oldD l = f.length) : FC Try.prog 108 [VL 3 elemT f, VL 4 dstepT l] (app emp []) (VL 3 elemT (rawD f l)) (app emp []) := by
 refine .go Try.f108 ?_
 refine .len 0 (fun hl0 => ?_)
 refine .len 1 (fun hl1 => ?_)
 refine .loop (α := (List Elem) × Nat × (List Elem)) [.r [], .r [], .r [(1, X (Xl dstepT l))], .le (.nR 5 3)] 41 (fun (r, i, o) => ([(0, VL 3 elemT r), (5, .row 40 o.length), (8, VL 4 dstepT l), (9, VI (l.length : Int)), (10, VI (i : Int))], [(40, OR 3 elemT o)])) (fun (r, i, o) => i ≤ l.length ∧ AN 400000000000 r ∧ oldD (l.drop i) = r.length ∧ o.length + newD (l.drop i) = newD l ∧ rawD f l = o ++ applyU (exD (l.drop i)) r) (fun (r, i, o) => l.length - i) (f, 0, []) ?_ ?_
 ·
  exact ⟨by omega, ha, by simpa using hlen, by simp, by simp [rawD]⟩
 rintro ⟨r, i, o⟩ I3 ih3
 try dsimp only at I3
 have hv1 := hv.2.1
 have hv2 := hv.2.2
 refine .br [.r []] (decide ((i : Int) < (l.length : Int))) (fun h3 => ?_) (fun h3 => ?_)
 ·
  (try simp only [decide_eq_true_eq, decide_eq_false_iff_not, Int.not_lt, Int.not_le] at h3)
  have hst := dlens_step (l := l) (i := i) (by omega) hv.1
  obtain ⟨hx, hx2, hx3⟩ := hd.at_ (k := i) (by omega)
  have hr := raw_at (d := l) (i := i) (by omega) r
  refine .br [.r [(0, X (Xi dstepT l (i : Int)))], .r [], .r []] ((((l.getD i default)).kind) == 0) (fun h7 => ?_) (fun h7 => ?_)
  ·
   (try simp only [beq_iff_eq, beq_eq_false_iff_ne, ne_eq] at h7)
   obtain ⟨s1, s2, s3, s4, s5, s6, s7, s8⟩ := hst
   rw [if_neg (by omega)] at s1 s2
   have hz : szD (l.getD i default) = (l.getD i default).n := by unfold szD; rw [if_neg (by omega)]
   have hl8 : (r.take (l.getD i default).n.toNat).length = (l.getD i default).n.toNat := by rw [List.length_take]; omega
   have hs8 : ∀ x ∈ r.take (l.getD i default).n.toNat, x.attrs.length + (l.getD i default).attrs.length < 1099511627776 := fun x hx => by have := I3.2.1 x (List.mem_of_mem_take hx); omega
   refine .back [.r [(4, X (Xst elemT 3 r (((l.getD i default)).n))), (7, X (Xc1 169 (fc_changed (r.take (Int.toNat (((l.getD i default)).n))) (((l.getD i default)).attrs) (by omega) (by assumption)) X0)), (8, X (Xap 3 elemT 40 o (List.map (chgE (((l.getD i default)).attrs)) (r.take (Int.toNat (((l.getD i default)).n))))))], .r [(3, X (Xsd elemT 3 r (((l.getD i default)).n)))], .r [(0, X (Xn ((i : Int) + 1)))]] [(40, 40)] (ih3 ((r.drop (Int.toNat (((l.getD i default)).n))), (i + 1), (o ++ (List.map (chgE (((l.getD i default)).attrs)) (r.take (Int.toNat (((l.getD i default)).n)))))) ?_ ?_)
   ·
    refine ⟨by omega, fun x hx => I3.2.1 x (List.mem_of_mem_drop hx), by (rw [List.length_drop]; omega), by (simp only [List.length_append, List.length_map]; omega), ?_⟩
    rw [I3.2.2.2.2, hr, if_neg (by omega), if_neg (by omega), List.append_assoc]
   ·
    show l.length - (i + 1) < l.length - i; omega
  ·
   (try simp only [beq_iff_eq, beq_eq_false_iff_ne, ne_eq] at h7)
   refine .br [.r []] ((((l.getD i default)).kind) == 1) (fun h10 => ?_) (fun h10 => ?_)
   ·
    (try simp only [beq_iff_eq, beq_eq_false_iff_ne, ne_eq] at h10)
    obtain ⟨s1, s2, s3, s4, s5, s6, s7, s8⟩ := hst
    rw [if_pos (by omega)] at s1
    rw [if_neg (by omega)] at s2
    have hz : szD (l.getD i default) = (l.getD i default).elems.length := by unfold szD; rw [if_pos (by omega)]
    refine .back [.r [(3, X (Xc1 153 (fc_copy (((l.getD i default)).elems) (by omega) (by assumption)) X0)), (4, X (Xap 3 elemT 40 o (((l.getD i default)).elems)))], .r [(0, X (Xn ((i : Int) + 1)))]] [(40, 40)] (ih3 (r, (i + 1), (o ++ (((l.getD i default)).elems))) ?_ ?_)
    ·
     refine ⟨by omega, I3.2.1, by omega, by (simp only [List.length_append]; omega), ?_⟩
     rw [I3.2.2.2.2, hr, if_pos (by omega), List.append_assoc]
    ·
     show l.length - (i + 1) < l.length - i; omega
   ·
    (try simp only [beq_iff_eq, beq_eq_false_iff_ne, ne_eq] at h10)
    obtain ⟨s1, s2, s3, s4, s5, s6, s7, s8⟩ := hst
    rw [if_neg (by omega)] at s1
    rw [if_pos (by omega)] at s2
    refine .back [.r [(3, X (Xsd elemT 3 r (((l.getD i default)).n)))], .r [(0, X (Xn ((i : Int) + 1)))]] [(40, 40)] (ih3 ((r.drop (Int.toNat (((l.getD i default)).n))), (i + 1), o) ?_ ?_)
    ·
     refine ⟨by omega, fun x hx => I3.2.1 x (List.mem_of_mem_drop hx), by (rw [List.length_drop]; omega), by omega, ?_⟩
     rw [I3.2.2.2.2, hr, if_neg (by omega), if_pos (by omega)]
    ·
     show l.length - (i + 1) < l.length - i; omega
 ·
  (try simp only [decide_eq_true_eq, decide_eq_false_iff_not, Int.not_lt, Int.not_le] at h3)
  have e1 : ((rawD f l) : List Elem) = o := by
   rw [I3.2.2.2.2, List.drop_eq_nil_of_le (by omega)]; simp [exD, applyU]
  exact .finE [.r [], .le (.fr 4 [(o.length : Nat) = (List.map elemT o).length] ⟨lm, trivial⟩)] [] (fun z0 => (VL 3 elemT z0, [])) (o : List Elem) ((rawD f l) : List Elem) e1

theorem fc_dFits (f : List Elem) (l : List DStep) (hp : partE f 0 = 0) (hv : DValid l) (hd : DN 400000000000 l) (hlen : oldD l = f.length) : FC Try.prog 107 [VL 3 elemT f, VL 4 dstepT l] (app emp []) (VI 0) (app emp []) := by
 refine .go Try.f107 ?_
 refine .len 0 (fun hl0 => ?_)
 refine .len 1 (fun hl1 => ?_)
 have hc := checkD_iff.2 hv
 refine .br [.r [], .r [(1, X (Xc0 (fc_checkPart f) X0))], .r []] ((partE f 0) != 0) (fun h2 => ?_) (fun h2 => ?_)
 ·
  (try simp only [bne_iff_ne, bne_eq_false_iff_eq, ne_eq] at h2)
  exfalso
  omega
 ·
  (try simp only [bne_iff_ne, bne_eq_false_iff_eq, ne_eq] at h2)
  refine .br [.r [(1, X (Xc0 (fc_dCheck l (by assumption)) X0))], .r []] ((checkD l) != 0) (fun h5 => ?_) (fun h5 => ?_)
  ·
   (try simp only [bne_iff_ne, bne_eq_false_iff_eq, ne_eq] at h5)
   exfalso
   omega
  ·
   (try simp only [bne_iff_ne, bne_eq_false_iff_eq, ne_eq] at h5)
   refine .br [.r [(1, X (Xc0 (fc_dLens l (by assumption)) X0))], .r [(2, X (Xl elemT f))]] ((oldD l) != (f.length : Int)) (fun h8 => ?_) (fun h8 => ?_)
   ·
    (try simp only [bne_iff_ne, bne_eq_false_iff_eq, ne_eq] at h8)
    exfalso
    omega
   ·
    (try simp only [bne_iff_ne, bne_eq_false_iff_eq, ne_eq] at h8)
    exact .fin [.r []] []

theorem fc_dApply (f : List Elem) (l : List DStep) (hp : partE f 0 = 0) (hv : DValid l) (hd : DN 400000000000 l) (ha : AN 400000000000 f) (hlen : oldD l = f.length) : FC Try.prog 53 [VL 3 elemT f, VL 4 dstepT l] (app emp []) (.tup [VL 3 elemT (rawD f l), VI 0]) (app emp []) := by
 refine .go Try.f53 ?_
 refine .len 0 (fun hl0 => ?_)
 refine .len 1 (fun hl1 => ?_)
 exact .fin [.r [], .r [(2, X (Xc0 (fc_dFits f l (by assumption) (by assumption) (by assumption) (by omega)) X0))], .r [], .f, .r [(2, X (Xc1 80 (fc_dRaw f l (by assumption) (by assumption) (by assumption) (by omega)) X0))]] []

def DSz (l : List DStep) : Prop := ∀ s ∈ l, Szd s.attrs ∧ SzE s.elems
theorem DSz.at_ {l : List DStep} (h : DSz l) {k : Nat} (hk : k < l.length) : Szd (l.getD k default).attrs ∧ SzE (l.getD k default).elems := by
  refine h _ ?_
  rw [show l.getD k default = l[k] by simp [List.getD, List.getElem?_eq_getElem hk]]
  exact List.getElem_mem hk

end Go.Ch
end
section
set_option linter.unusedVariables false
set_option linter.unusedSimpArgs false
set_option maxRecDepth 100000
set_option maxHeartbeats 4000000
open Go Go.Proofs Go.Ab
namespace Go.Ch
end Go.Ch
end
section
set_option linter.unusedVariables false
set_option linter.unusedSimpArgs false
set_option maxRecDepth 100000
set_option maxHeartbeats 4000000
open Go Go.Proofs Go.Ab
namespace Go.Ch
end Go.Ch
end
section
set_option linter.unusedVariables false
set_option linter.unusedSimpArgs false
set_option maxRecDepth 100000
set_option maxHeartbeats 4000000
open Go Go.Proofs Go.Ab
namespace Go.Ch
end Go.Ch
end
section
set_option linter.unusedVariables false
set_option linter.unusedSimpArgs false
set_option maxRecDepth 100000
set_option maxHeartbeats 4000000
open Go Go.Proofs Go.Ab
namespace Go.Ch
theorem fc_deltaOf (x : Act) (h1 : x.ins.length = x.cut.length + 1) (h2 : x.set.length = x.cut.length) (hu : ∀ u ∈ actR x 0, UnitOk u) (hs : (actR x 0).length ≤ 8589934592) : FC Try.prog 101 [.t (actT x)] (app emp []) (VL 4 dstepT (doneD (actR x 0))) (app emp []) := by
 refine .go Try.f101 ?_
 have hst0 := DI.start hu hs
 have hcl := actR_cut x _ 0 rfl
 refine .loop (α := Int × Nat × (List DStep) × (List Elem)) [.r [], .r [], .r [], .r [], .r [], .le (.nR 3 4), .le (.nR 4 3)] 50 (fun (c, i, o, a) => ([(1, .ptr 0 0), (3, .row 48 o.length), (4, .row 49 a.length), (5, VI c), (6, VI (i : Int))], [(0, .box [VL 1 elemsT x.ins, VL 1 boolT x.cut, VL 1 attrsT x.set]), (48, OR 4 dstepT o), (49, OR 3 elemT a)])) (fun (c, i, o, a) => i ≤ x.cut.length ∧ DI ⟨o, a, c⟩ (actR x i) (actR x 0).length (foldD ⟨[], [], 0⟩ (actR x 0))) (fun (c, i, o, a) => x.cut.length + 1 - i) (0, 0, [], []) ?_ ?_
 ·
  exact ⟨by omega, hst0⟩
 rintro ⟨c, i, o, a⟩ I5 ih5
 try dsimp only at I5
 have hb := I5.2.bd
 simp only at hb
 refine .br [.r [(3, X (Xl boolT x.cut))]] (decide ((i : Int) ≤ (x.cut.length : Int))) (fun h5 => ?_) (fun h5 => ?_)
 ·
  (try simp only [decide_eq_true_eq, decide_eq_false_iff_not, Int.not_lt, Int.not_le] at h5)
  have hDe := (show DI ⟨o, a, c⟩ ((x.ins.getD i default).map .A ++ tailR x i) _ _ from actR_eq x i ▸ I5.2).elems
  have hb2 := hDe.bd
  simp only [List.length_append] at hb2
  have hn2 := hDe.fl.1
  refine .br [.r [(4, X (Xi elemsT x.ins (i : Int))), (6, X (Xap 3 elemT 49 a (x.ins.getD i default)))], .r [(3, X (Xl boolT x.cut)), (7, Xv 1 (decide ((i : Int) < (x.cut.length : Int))) X0), (9, Xv 2 (decide ((i : Int) < (x.cut.length : Int))) (Xi boolT x.cut (i : Int))), (10, Xv 1 (decide ((i : Int) < (x.cut.length : Int))) X0), (11, X (Xk (decide ((i : Int) < (x.cut.length : Int)))))]] (decide ((i : Int) < (x.cut.length : Int)) && (x.cut.getD i default)) (fun h8 => ?_) (fun h8 => ?_)
  ·
   (try simp only [decide_eq_true_eq, decide_eq_false_iff_not, Int.not_lt, Int.not_le, Bool.and_eq_true, Bool.and_eq_false_iff, Bool.not_eq_true', Bool.not_eq_false'] at h8)
   refine .back [.r [(1, X (Xn (c + 1)))], .r [(1, X (Xn ((i : Int) + 1)))]] [(0, 0), (48, 48), (49, 49)] (ih5 ((c + 1), (i + 1), o, (a ++ (x.ins.getD i default))) ?_ ?_)
   ·
    rw [tailR_C (by omega) h8.2] at hDe
    exact ⟨by omega, hDe.cut1⟩
   ·
    ((try dsimp only); omega)
  ·
   (try simp only [decide_eq_true_eq, decide_eq_false_iff_not, Int.not_lt, Int.not_le, Bool.and_eq_true, Bool.and_eq_false_iff, Bool.not_eq_true', Bool.not_eq_false'] at h8)
   refine .br [.r []] (decide (((a ++ (x.ins.getD i default)).length : Int) > 0)) (fun h10 => ?_) (fun h10 => ?_)
   ·
    (try simp only [decide_eq_true_eq, decide_eq_false_iff_not, Int.not_lt, Int.not_le, gt_iff_lt] at h10)
    refine .br [.r [(2, X (Xf [(2, 2)])), (3, X (rowC elemT (a ++ (x.ins.getD i default)) X0)), (4, X (rowC dstepT [({ kind := 1, n := 0, attrs := [], elems := (a ++ (x.ins.getD i default)) } : DStep)] (Xap 4 dstepT 48 o [({ kind := 1, n := 0, attrs := [], elems := (a ++ (x.ins.getD i default)) } : DStep)])))], .r []] (decide (c > 0)) (fun h12 => ?_) (fun h12 => ?_)
    ·
     (try simp only [decide_eq_true_eq, decide_eq_false_iff_not, Int.not_lt, Int.not_le, gt_iff_lt] at h12)
     obtain ⟨q, hgen⟩ : ∃ z, ((o ++ [({ kind := 1, n := 0, attrs := [], elems := (a ++ (x.ins.getD i default)) } : DStep)]) ++ [({ kind := 2, n := c, attrs := [], elems := [] } : DStep)]) = z := ⟨_, rfl⟩
     have hfq : flushD ⟨o, a ++ x.ins.getD i default, c⟩ = q := by
       rw [← hgen]
       unfold flushD
       simp only
       (first | rw [if_pos (show 0 < (a ++ x.ins.getD i default).length by omega)] | rw [if_neg (show ¬ 0 < (a ++ x.ins.getD i default).length by omega)])
       (first | rw [if_pos (show 0 < c by omega)] | rw [if_neg (show ¬ 0 < c by omega)])
       all_goals simp
     have hnq : ∀ s ∈ q, 0 ≤ s.n ∧ s.n ≤ 10000000000 := by rw [← hfq]; exact hn2
     have hql : q.length ≤ o.length + 2 := by rw [← hfq]; exact flushD_len _
     refine .br [.r [(2, X (Xf [(2, 2), (3, 3)])), (4, X (rowC dstepT [({ kind := 2, n := c, attrs := [], elems := [] } : DStep)] (Xap 4 dstepT 48 (o ++ [({ kind := 1, n := 0, attrs := [], elems := (a ++ (x.ins.getD i default)) } : DStep)]) [({ kind := 2, n := c, attrs := [], elems := [] } : DStep)])))], .le (.er 48 (List.map dstepT ((o ++ [({ kind := 1, n := 0, attrs := [], elems := (a ++ (x.ins.getD i default)) } : DStep)]) ++ [({ kind := 2, n := c, attrs := [], elems := [] } : DStep)])) (List.map dstepT q) (by rw [hgen])), .le (.eq 3 (.row 48 (((o ++ [({ kind := 1, n := 0, attrs := [], elems := (a ++ (x.ins.getD i default)) } : DStep)]) ++ [({ kind := 2, n := c, attrs := [], elems := [] } : DStep)]).length)) (.row 48 q.length) (.of_eq (by rw [← hgen]))), .r [], .r [(3, X (Xl boolT x.cut))]] ((i : Int) == (x.cut.length : Int)) (fun h15 => ?_) (fun h15 => ?_)
     ·
      (try simp only [beq_iff_eq, beq_eq_false_iff_ne, ne_eq] at h15)
      have e1 : ((doneD (actR x 0)) : List DStep) = q := by
       rw [tailR_e (by omega)] at hDe
       have hG := hDe.done
       unfold doneD
       rw [← hG]
       exact hfq
      exact .finE [.r [], .le (.fr 2 [(q.length : Nat) = (List.map dstepT q).length] ⟨lm, trivial⟩)] [] (fun z0 => (VL 4 dstepT z0, [])) (q : List DStep) ((doneD (actR x 0)) : List DStep) e1
     ·
      (try simp only [beq_iff_eq, beq_eq_false_iff_ne, ne_eq] at h15)
      refine .br [.r [(2, X (Xn ((q.length : Int) - 1)))], .r [(5, Xv 2 (decide (((q.length : Int) - 1) ≥ 0)) (Xp' dstepT 48 q ((q.length : Int) - 1) (q.length - 1))), (6, Xv 1 (decide (((q.length : Int) - 1) ≥ 0)) X0), (7, Xv 1 (decide (((q.length : Int) - 1) ≥ 0)) (Xe dstepT q (q.length - 1))), (8, Xv 1 (decide (((q.length : Int) - 1) ≥ 0)) X0), (9, X (Xk (decide (((q.length : Int) - 1) ≥ 0)))), (13, Xv 2 (decide (((q.length : Int) - 1) ≥ 0) && ((((q.getD (q.length - 1) default)).kind) == 0)) (Xp' dstepT 48 q ((q.length : Int) - 1) (q.length - 1))), (14, Xv 1 (decide (((q.length : Int) - 1) ≥ 0) && ((((q.getD (q.length - 1) default)).kind) == 0)) X0), (15, Xv 1 (decide (((q.length : Int) - 1) ≥ 0) && ((((q.getD (q.length - 1) default)).kind) == 0)) (Xe dstepT q (q.length - 1))), (17, Xv 1 (decide (((q.length : Int) - 1) ≥ 0) && ((((q.getD (q.length - 1) default)).kind) == 0)) X0), (19, Xv 2 (decide (((q.length : Int) - 1) ≥ 0) && ((((q.getD (q.length - 1) default)).kind) == 0)) (Xi attrsT x.set (i : Int))), (20, Xv 1 (decide (((q.length : Int) - 1) ≥ 0) && ((((q.getD (q.length - 1) default)).kind) == 0)) X0), (21, Xv 2 (decide (((q.length : Int) - 1) ≥ 0) && ((((q.getD (q.length - 1) default)).kind) == 0)) (Xc0 (fc_sameAttrs (((q.getD (q.length - 1) default)).attrs) (x.set.getD i default)) X0)), (22, X (Xk (decide (((q.length : Int) - 1) ≥ 0) && ((((q.getD (q.length - 1) default)).kind) == 0))))]] ((decide (((q.length : Int) - 1) ≥ 0) && ((((q.getD (q.length - 1) default)).kind) == 0)) && (sameL (((q.getD (q.length - 1) default)).attrs) (x.set.getD i default))) (fun h17 => ?_) (fun h17 => ?_)
      ·
       (try simp only [decide_eq_true_eq, decide_eq_false_iff_not, Int.not_lt, Int.not_le, ge_iff_le, Bool.and_eq_true, Bool.and_eq_false_iff, Bool.not_eq_true', Bool.not_eq_false', beq_iff_eq, beq_eq_false_iff_ne, ne_eq] at h17)
       refine .at 658 [(0, 0), (48, 48)] ([(1, .ptr 0 0), (3, .row 48 q.length), (4, VN), (5, VI 0), (6, VI (i : Int)), (7, VI ((q.length : Int) - 1)), (81, VB ((decide (((q.length : Int) - 1) ≥ 0) && ((((q.getD (q.length - 1) default)).kind) == 0)) && (sameL (((q.getD (q.length - 1) default)).attrs) (x.set.getD i default))))], [(0, .box [VL 1 elemsT x.ins, VL 1 boolT x.cut, VL 1 attrsT x.set]), (48, OR 4 dstepT q)]) ?_
       have hlast := fun h : 0 < q.length => hnq _ (lastD_mem h)
       refine .back [.r [(2, X (Xp' dstepT 48 q ((q.length : Int) - 1) (q.length - 1))), (4, X (Xe dstepT q (q.length - 1))), (5, X (Xn ((((q.getD (q.length - 1) default)).n) + 1))), (6, X (Xp' dstepT 48 q ((q.length : Int) - 1) (q.length - 1))), (8, X (Xs 4 dstepT 48 q (q.length - 1) ({ kind := ((q.getD (q.length - 1) default)).kind, n := ((((q.getD (q.length - 1) default)).n) + 1), attrs := ((q.getD (q.length - 1) default)).attrs, elems := ((q.getD (q.length - 1) default)).elems } : DStep)))], .r [(1, X (Xn ((i : Int) + 1)))], .le (.nR 4 3), .le (.eq 3 (.row 48 q.length) (.row 48 ((q.set (q.length - 1) ({ kind := ((q.getD (q.length - 1) default)).kind, n := ((((q.getD (q.length - 1) default)).n) + 1), attrs := ((q.getD (q.length - 1) default)).attrs, elems := ((q.getD (q.length - 1) default)).elems } : DStep)).length)) (.of_eq (by simp only [List.length_set])))] [(0, 0), (48, 48), (754, 49)] (ih5 (0, (i + 1), (q.set (q.length - 1) ({ kind := ((q.getD (q.length - 1) default)).kind, n := ((((q.getD (q.length - 1) default)).n) + 1), attrs := ((q.getD (q.length - 1) default)).attrs, elems := ((q.getD (q.length - 1) default)).elems } : DStep)), []) ?_ ?_)
       ·
        rw [tailR_K (by omega) (by rcases h8 with h8 | h8; omega; exact h8)] at hDe
        refine ⟨by omega, DI.of_eq ?_ hDe.keep1⟩
        simp only
        rw [hfq]
        unfold keepD
        split
        · rename_i z; first | rfl | (exfalso; rcases h17 with (h | h) | h; omega; exact h z.2.1; (rw [z.2.2] at h; cases h))
        · rename_i z; first | rfl | exact absurd ⟨by omega, h17.1.2, h17.2⟩ z
       ·
        ((try dsimp only); omega)
      ·
       (try simp only [decide_eq_true_eq, decide_eq_false_iff_not, Int.not_lt, Int.not_le, ge_iff_le, Bool.and_eq_true, Bool.and_eq_false_iff, Bool.not_eq_true', Bool.not_eq_false', beq_iff_eq, beq_eq_false_iff_ne, ne_eq] at h17)
       refine .at 658 [(0, 0), (48, 48)] ([(1, .ptr 0 0), (3, .row 48 q.length), (4, VN), (5, VI 0), (6, VI (i : Int)), (7, VI ((q.length : Int) - 1)), (81, VB ((decide (((q.length : Int) - 1) ≥ 0) && ((((q.getD (q.length - 1) default)).kind) == 0)) && (sameL (((q.getD (q.length - 1) default)).attrs) (x.set.getD i default))))], [(0, .box [VL 1 elemsT x.ins, VL 1 boolT x.cut, VL 1 attrsT x.set]), (48, OR 4 dstepT q)]) ?_
       refine .back [.r [(4, X (Xi attrsT x.set (i : Int))), (6, X (Xf [(3, 3)])), (8, X (rowC dstepT [({ kind := 0, n := 1, attrs := (x.set.getD i default), elems := [] } : DStep)] (Xap 4 dstepT 48 q [({ kind := 0, n := 1, attrs := (x.set.getD i default), elems := [] } : DStep)])))], .r [(1, X (Xn ((i : Int) + 1)))], .le (.nR 4 3)] [(0, 0), (48, 48), (762, 49)] (ih5 (0, (i + 1), (q ++ [({ kind := 0, n := 1, attrs := (x.set.getD i default), elems := [] } : DStep)]), []) ?_ ?_)
       ·
        rw [tailR_K (by omega) (by rcases h8 with h8 | h8; omega; exact h8)] at hDe
        refine ⟨by omega, DI.of_eq ?_ hDe.keep1⟩
        simp only
        rw [hfq]
        unfold keepD
        split
        · rename_i z; first | rfl | (exfalso; rcases h17 with (h | h) | h; omega; exact h z.2.1; (rw [z.2.2] at h; cases h))
        · rename_i z; first | rfl | exact absurd ⟨by omega, h17.1.2, h17.2⟩ z
       ·
        ((try dsimp only); omega)
    ·
     (try simp only [decide_eq_true_eq, decide_eq_false_iff_not, Int.not_lt, Int.not_le, gt_iff_lt] at h12)
     obtain ⟨q, hgen⟩ : ∃ z, (o ++ [({ kind := 1, n := 0, attrs := [], elems := (a ++ (x.ins.getD i default)) } : DStep)]) = z := ⟨_, rfl⟩
     have hfq : flushD ⟨o, a ++ x.ins.getD i default, c⟩ = q := by
       rw [← hgen]
       unfold flushD
       simp only
       (first | rw [if_pos (show 0 < (a ++ x.ins.getD i default).length by omega)] | rw [if_neg (show ¬ 0 < (a ++ x.ins.getD i default).length by omega)])
       (first | rw [if_pos (show 0 < c by omega)] | rw [if_neg (show ¬ 0 < c by omega)])
       all_goals simp
     have hnq : ∀ s ∈ q, 0 ≤ s.n ∧ s.n ≤ 10000000000 := by rw [← hfq]; exact hn2
     have hql : q.length ≤ o.length + 2 := by rw [← hfq]; exact flushD_len _
     refine .br [.le (.er 48 (List.map dstepT (o ++ [({ kind := 1, n := 0, attrs := [], elems := (a ++ (x.ins.getD i default)) } : DStep)])) (List.map dstepT q) (by rw [hgen])), .le (.eq 3 (.row 48 ((o ++ [({ kind := 1, n := 0, attrs := [], elems := (a ++ (x.ins.getD i default)) } : DStep)]).length)) (.row 48 q.length) (.of_eq (by rw [← hgen]))), .r [], .r [(3, X (Xl boolT x.cut))]] ((i : Int) == (x.cut.length : Int)) (fun h15 => ?_) (fun h15 => ?_)
     ·
      (try simp only [beq_iff_eq, beq_eq_false_iff_ne, ne_eq] at h15)
      have e2 : ((doneD (actR x 0)) : List DStep) = q := by
       rw [tailR_e (by omega)] at hDe
       have hG := hDe.done
       unfold doneD
       rw [← hG]
       exact hfq
      exact .finE [.r [], .le (.fr 2 [(q.length : Nat) = (List.map dstepT q).length] ⟨lm, trivial⟩)] [] (fun z0 => (VL 4 dstepT z0, [])) (q : List DStep) ((doneD (actR x 0)) : List DStep) e2
     ·
      (try simp only [beq_iff_eq, beq_eq_false_iff_ne, ne_eq] at h15)
      refine .br [.r [(2, X (Xn ((q.length : Int) - 1)))], .r [(5, Xv 2 (decide (((q.length : Int) - 1) ≥ 0)) (Xp' dstepT 48 q ((q.length : Int) - 1) (q.length - 1))), (6, Xv 1 (decide (((q.length : Int) - 1) ≥ 0)) X0), (7, Xv 1 (decide (((q.length : Int) - 1) ≥ 0)) (Xe dstepT q (q.length - 1))), (8, Xv 1 (decide (((q.length : Int) - 1) ≥ 0)) X0), (9, X (Xk (decide (((q.length : Int) - 1) ≥ 0)))), (13, Xv 2 (decide (((q.length : Int) - 1) ≥ 0) && ((((q.getD (q.length - 1) default)).kind) == 0)) (Xp' dstepT 48 q ((q.length : Int) - 1) (q.length - 1))), (14, Xv 1 (decide (((q.length : Int) - 1) ≥ 0) && ((((q.getD (q.length - 1) default)).kind) == 0)) X0), (15, Xv 1 (decide (((q.length : Int) - 1) ≥ 0) && ((((q.getD (q.length - 1) default)).kind) == 0)) (Xe dstepT q (q.length - 1))), (17, Xv 1 (decide (((q.length : Int) - 1) ≥ 0) && ((((q.getD (q.length - 1) default)).kind) == 0)) X0), (19, Xv 2 (decide (((q.length : Int) - 1) ≥ 0) && ((((q.getD (q.length - 1) default)).kind) == 0)) (Xi attrsT x.set (i : Int))), (20, Xv 1 (decide (((q.length : Int) - 1) ≥ 0) && ((((q.getD (q.length - 1) default)).kind) == 0)) X0), (21, Xv 2 (decide (((q.length : Int) - 1) ≥ 0) && ((((q.getD (q.length - 1) default)).kind) == 0)) (Xc0 (fc_sameAttrs (((q.getD (q.length - 1) default)).attrs) (x.set.getD i default)) X0)), (22, X (Xk (decide (((q.length : Int) - 1) ≥ 0) && ((((q.getD (q.length - 1) default)).kind) == 0))))]] ((decide (((q.length : Int) - 1) ≥ 0) && ((((q.getD (q.length - 1) default)).kind) == 0)) && (sameL (((q.getD (q.length - 1) default)).attrs) (x.set.getD i default))) (fun h17 => ?_) (fun h17 => ?_)
      ·
       (try simp only [decide_eq_true_eq, decide_eq_false_iff_not, Int.not_lt, Int.not_le, ge_iff_le, Bool.and_eq_true, Bool.and_eq_false_iff, Bool.not_eq_true', Bool.not_eq_false', beq_iff_eq, beq_eq_false_iff_ne, ne_eq] at h17)
       refine .at 610 [(0, 0), (48, 48)] ([(1, .ptr 0 0), (3, .row 48 q.length), (4, VN), (5, VI 0), (6, VI (i : Int)), (7, VI ((q.length : Int) - 1)), (81, VB ((decide (((q.length : Int) - 1) ≥ 0) && ((((q.getD (q.length - 1) default)).kind) == 0)) && (sameL (((q.getD (q.length - 1) default)).attrs) (x.set.getD i default))))], [(0, .box [VL 1 elemsT x.ins, VL 1 boolT x.cut, VL 1 attrsT x.set]), (48, OR 4 dstepT q)]) ?_
       have hlast := fun h : 0 < q.length => hnq _ (lastD_mem h)
       refine .back [.r [(2, X (Xp' dstepT 48 q ((q.length : Int) - 1) (q.length - 1))), (4, X (Xe dstepT q (q.length - 1))), (5, X (Xn ((((q.getD (q.length - 1) default)).n) + 1))), (6, X (Xp' dstepT 48 q ((q.length : Int) - 1) (q.length - 1))), (8, X (Xs 4 dstepT 48 q (q.length - 1) ({ kind := ((q.getD (q.length - 1) default)).kind, n := ((((q.getD (q.length - 1) default)).n) + 1), attrs := ((q.getD (q.length - 1) default)).attrs, elems := ((q.getD (q.length - 1) default)).elems } : DStep)))], .r [(1, X (Xn ((i : Int) + 1)))], .le (.nR 4 3), .le (.eq 3 (.row 48 q.length) (.row 48 ((q.set (q.length - 1) ({ kind := ((q.getD (q.length - 1) default)).kind, n := ((((q.getD (q.length - 1) default)).n) + 1), attrs := ((q.getD (q.length - 1) default)).attrs, elems := ((q.getD (q.length - 1) default)).elems } : DStep)).length)) (.of_eq (by simp only [List.length_set])))] [(0, 0), (48, 48), (706, 49)] (ih5 (0, (i + 1), (q.set (q.length - 1) ({ kind := ((q.getD (q.length - 1) default)).kind, n := ((((q.getD (q.length - 1) default)).n) + 1), attrs := ((q.getD (q.length - 1) default)).attrs, elems := ((q.getD (q.length - 1) default)).elems } : DStep)), []) ?_ ?_)
       ·
        rw [tailR_K (by omega) (by rcases h8 with h8 | h8; omega; exact h8)] at hDe
        refine ⟨by omega, DI.of_eq ?_ hDe.keep1⟩
        simp only
        rw [hfq]
        unfold keepD
        split
        · rename_i z; first | rfl | (exfalso; rcases h17 with (h | h) | h; omega; exact h z.2.1; (rw [z.2.2] at h; cases h))
        · rename_i z; first | rfl | exact absurd ⟨by omega, h17.1.2, h17.2⟩ z
       ·
        ((try dsimp only); omega)
      ·
       (try simp only [decide_eq_true_eq, decide_eq_false_iff_not, Int.not_lt, Int.not_le, ge_iff_le, Bool.and_eq_true, Bool.and_eq_false_iff, Bool.not_eq_true', Bool.not_eq_false', beq_iff_eq, beq_eq_false_iff_ne, ne_eq] at h17)
       refine .at 610 [(0, 0), (48, 48)] ([(1, .ptr 0 0), (3, .row 48 q.length), (4, VN), (5, VI 0), (6, VI (i : Int)), (7, VI ((q.length : Int) - 1)), (81, VB ((decide (((q.length : Int) - 1) ≥ 0) && ((((q.getD (q.length - 1) default)).kind) == 0)) && (sameL (((q.getD (q.length - 1) default)).attrs) (x.set.getD i default))))], [(0, .box [VL 1 elemsT x.ins, VL 1 boolT x.cut, VL 1 attrsT x.set]), (48, OR 4 dstepT q)]) ?_
       refine .back [.r [(4, X (Xi attrsT x.set (i : Int))), (6, X (Xf [(3, 3)])), (8, X (rowC dstepT [({ kind := 0, n := 1, attrs := (x.set.getD i default), elems := [] } : DStep)] (Xap 4 dstepT 48 q [({ kind := 0, n := 1, attrs := (x.set.getD i default), elems := [] } : DStep)])))], .r [(1, X (Xn ((i : Int) + 1)))], .le (.nR 4 3)] [(0, 0), (48, 48), (714, 49)] (ih5 (0, (i + 1), (q ++ [({ kind := 0, n := 1, attrs := (x.set.getD i default), elems := [] } : DStep)]), []) ?_ ?_)
       ·
        rw [tailR_K (by omega) (by rcases h8 with h8 | h8; omega; exact h8)] at hDe
        refine ⟨by omega, DI.of_eq ?_ hDe.keep1⟩
        simp only
        rw [hfq]
        unfold keepD
        split
        · rename_i z; first | rfl | (exfalso; rcases h17 with (h | h) | h; omega; exact h z.2.1; (rw [z.2.2] at h; cases h))
        · rename_i z; first | rfl | exact absurd ⟨by omega, h17.1.2, h17.2⟩ z
       ·
        ((try dsimp only); omega)
   ·
    (try simp only [decide_eq_true_eq, decide_eq_false_iff_not, Int.not_lt, Int.not_le, gt_iff_lt] at h10)
    refine .br [.r []] (decide (c > 0)) (fun h12 => ?_) (fun h12 => ?_)
    ·
     (try simp only [decide_eq_true_eq, decide_eq_false_iff_not, Int.not_lt, Int.not_le, gt_iff_lt] at h12)
     obtain ⟨q, hgen⟩ : ∃ z, (o ++ [({ kind := 2, n := c, attrs := [], elems := [] } : DStep)]) = z := ⟨_, rfl⟩
     have hfq : flushD ⟨o, a ++ x.ins.getD i default, c⟩ = q := by
       rw [← hgen]
       unfold flushD
       simp only
       (first | rw [if_pos (show 0 < (a ++ x.ins.getD i default).length by omega)] | rw [if_neg (show ¬ 0 < (a ++ x.ins.getD i default).length by omega)])
       (first | rw [if_pos (show 0 < c by omega)] | rw [if_neg (show ¬ 0 < c by omega)])
       all_goals simp
     have hnq : ∀ s ∈ q, 0 ≤ s.n ∧ s.n ≤ 10000000000 := by rw [← hfq]; exact hn2
     have hql : q.length ≤ o.length + 2 := by rw [← hfq]; exact flushD_len _
     refine .br [.r [(2, X (Xf [(2, 2), (3, 3)])), (4, X (rowC dstepT [({ kind := 2, n := c, attrs := [], elems := [] } : DStep)] (Xap 4 dstepT 48 o [({ kind := 2, n := c, attrs := [], elems := [] } : DStep)])))], .le (.er 48 (List.map dstepT (o ++ [({ kind := 2, n := c, attrs := [], elems := [] } : DStep)])) (List.map dstepT q) (by rw [hgen])), .le (.eq 3 (.row 48 ((o ++ [({ kind := 2, n := c, attrs := [], elems := [] } : DStep)]).length)) (.row 48 q.length) (.of_eq (by rw [← hgen]))), .r [], .r [(3, X (Xl boolT x.cut))]] ((i : Int) == (x.cut.length : Int)) (fun h15 => ?_) (fun h15 => ?_)
     ·
      (try simp only [beq_iff_eq, beq_eq_false_iff_ne, ne_eq] at h15)
      have e3 : ((doneD (actR x 0)) : List DStep) = q := by
       rw [tailR_e (by omega)] at hDe
       have hG := hDe.done
       unfold doneD
       rw [← hG]
       exact hfq
      exact .finE [.r [], .le (.fr 2 [(q.length : Nat) = (List.map dstepT q).length] ⟨lm, trivial⟩)] [] (fun z0 => (VL 4 dstepT z0, [])) (q : List DStep) ((doneD (actR x 0)) : List DStep) e3
     ·
      (try simp only [beq_iff_eq, beq_eq_false_iff_ne, ne_eq] at h15)
      refine .br [.r [(2, X (Xn ((q.length : Int) - 1)))], .r [(5, Xv 2 (decide (((q.length : Int) - 1) ≥ 0)) (Xp' dstepT 48 q ((q.length : Int) - 1) (q.length - 1))), (6, Xv 1 (decide (((q.length : Int) - 1) ≥ 0)) X0), (7, Xv 1 (decide (((q.length : Int) - 1) ≥ 0)) (Xe dstepT q (q.length - 1))), (8, Xv 1 (decide (((q.length : Int) - 1) ≥ 0)) X0), (9, X (Xk (decide (((q.length : Int) - 1) ≥ 0)))), (13, Xv 2 (decide (((q.length : Int) - 1) ≥ 0) && ((((q.getD (q.length - 1) default)).kind) == 0)) (Xp' dstepT 48 q ((q.length : Int) - 1) (q.length - 1))), (14, Xv 1 (decide (((q.length : Int) - 1) ≥ 0) && ((((q.getD (q.length - 1) default)).kind) == 0)) X0), (15, Xv 1 (decide (((q.length : Int) - 1) ≥ 0) && ((((q.getD (q.length - 1) default)).kind) == 0)) (Xe dstepT q (q.length - 1))), (17, Xv 1 (decide (((q.length : Int) - 1) ≥ 0) && ((((q.getD (q.length - 1) default)).kind) == 0)) X0), (19, Xv 2 (decide (((q.length : Int) - 1) ≥ 0) && ((((q.getD (q.length - 1) default)).kind) == 0)) (Xi attrsT x.set (i : Int))), (20, Xv 1 (decide (((q.length : Int) - 1) ≥ 0) && ((((q.getD (q.length - 1) default)).kind) == 0)) X0), (21, Xv 2 (decide (((q.length : Int) - 1) ≥ 0) && ((((q.getD (q.length - 1) default)).kind) == 0)) (Xc0 (fc_sameAttrs (((q.getD (q.length - 1) default)).attrs) (x.set.getD i default)) X0)), (22, X (Xk (decide (((q.length : Int) - 1) ≥ 0) && ((((q.getD (q.length - 1) default)).kind) == 0))))]] ((decide (((q.length : Int) - 1) ≥ 0) && ((((q.getD (q.length - 1) default)).kind) == 0)) && (sameL (((q.getD (q.length - 1) default)).attrs) (x.set.getD i default))) (fun h17 => ?_) (fun h17 => ?_)
      ·
       (try simp only [decide_eq_true_eq, decide_eq_false_iff_not, Int.not_lt, Int.not_le, ge_iff_le, Bool.and_eq_true, Bool.and_eq_false_iff, Bool.not_eq_true', Bool.not_eq_false', beq_iff_eq, beq_eq_false_iff_ne, ne_eq] at h17)
       refine .at 610 [(0, 0), (48, 48)] ([(1, .ptr 0 0), (3, .row 48 q.length), (4, VN), (5, VI 0), (6, VI (i : Int)), (7, VI ((q.length : Int) - 1)), (81, VB ((decide (((q.length : Int) - 1) ≥ 0) && ((((q.getD (q.length - 1) default)).kind) == 0)) && (sameL (((q.getD (q.length - 1) default)).attrs) (x.set.getD i default))))], [(0, .box [VL 1 elemsT x.ins, VL 1 boolT x.cut, VL 1 attrsT x.set]), (48, OR 4 dstepT q)]) ?_
       have hlast := fun h : 0 < q.length => hnq _ (lastD_mem h)
       refine .back [.r [(2, X (Xp' dstepT 48 q ((q.length : Int) - 1) (q.length - 1))), (4, X (Xe dstepT q (q.length - 1))), (5, X (Xn ((((q.getD (q.length - 1) default)).n) + 1))), (6, X (Xp' dstepT 48 q ((q.length : Int) - 1) (q.length - 1))), (8, X (Xs 4 dstepT 48 q (q.length - 1) ({ kind := ((q.getD (q.length - 1) default)).kind, n := ((((q.getD (q.length - 1) default)).n) + 1), attrs := ((q.getD (q.length - 1) default)).attrs, elems := ((q.getD (q.length - 1) default)).elems } : DStep)))], .r [(1, X (Xn ((i : Int) + 1)))], .le (.nR 4 3), .le (.eq 3 (.row 48 q.length) (.row 48 ((q.set (q.length - 1) ({ kind := ((q.getD (q.length - 1) default)).kind, n := ((((q.getD (q.length - 1) default)).n) + 1), attrs := ((q.getD (q.length - 1) default)).attrs, elems := ((q.getD (q.length - 1) default)).elems } : DStep)).length)) (.of_eq (by simp only [List.length_set])))] [(0, 0), (48, 48), (706, 49)] (ih5 (0, (i + 1), (q.set (q.length - 1) ({ kind := ((q.getD (q.length - 1) default)).kind, n := ((((q.getD (q.length - 1) default)).n) + 1), attrs := ((q.getD (q.length - 1) default)).attrs, elems := ((q.getD (q.length - 1) default)).elems } : DStep)), []) ?_ ?_)
       ·
        rw [tailR_K (by omega) (by rcases h8 with h8 | h8; omega; exact h8)] at hDe
        refine ⟨by omega, DI.of_eq ?_ hDe.keep1⟩
        simp only
        rw [hfq]
        unfold keepD
        split
        · rename_i z; first | rfl | (exfalso; rcases h17 with (h | h) | h; omega; exact h z.2.1; (rw [z.2.2] at h; cases h))
        · rename_i z; first | rfl | exact absurd ⟨by omega, h17.1.2, h17.2⟩ z
       ·
        ((try dsimp only); omega)
      ·
       (try simp only [decide_eq_true_eq, decide_eq_false_iff_not, Int.not_lt, Int.not_le, ge_iff_le, Bool.and_eq_true, Bool.and_eq_false_iff, Bool.not_eq_true', Bool.not_eq_false', beq_iff_eq, beq_eq_false_iff_ne, ne_eq] at h17)
       refine .at 610 [(0, 0), (48, 48)] ([(1, .ptr 0 0), (3, .row 48 q.length), (4, VN), (5, VI 0), (6, VI (i : Int)), (7, VI ((q.length : Int) - 1)), (81, VB ((decide (((q.length : Int) - 1) ≥ 0) && ((((q.getD (q.length - 1) default)).kind) == 0)) && (sameL (((q.getD (q.length - 1) default)).attrs) (x.set.getD i default))))], [(0, .box [VL 1 elemsT x.ins, VL 1 boolT x.cut, VL 1 attrsT x.set]), (48, OR 4 dstepT q)]) ?_
       refine .back [.r [(4, X (Xi attrsT x.set (i : Int))), (6, X (Xf [(3, 3)])), (8, X (rowC dstepT [({ kind := 0, n := 1, attrs := (x.set.getD i default), elems := [] } : DStep)] (Xap 4 dstepT 48 q [({ kind := 0, n := 1, attrs := (x.set.getD i default), elems := [] } : DStep)])))], .r [(1, X (Xn ((i : Int) + 1)))], .le (.nR 4 3)] [(0, 0), (48, 48), (714, 49)] (ih5 (0, (i + 1), (q ++ [({ kind := 0, n := 1, attrs := (x.set.getD i default), elems := [] } : DStep)]), []) ?_ ?_)
       ·
        rw [tailR_K (by omega) (by rcases h8 with h8 | h8; omega; exact h8)] at hDe
        refine ⟨by omega, DI.of_eq ?_ hDe.keep1⟩
        simp only
        rw [hfq]
        unfold keepD
        split
        · rename_i z; first | rfl | (exfalso; rcases h17 with (h | h) | h; omega; exact h z.2.1; (rw [z.2.2] at h; cases h))
        · rename_i z; first | rfl | exact absurd ⟨by omega, h17.1.2, h17.2⟩ z
       ·
        ((try dsimp only); omega)
    ·
     (try simp only [decide_eq_true_eq, decide_eq_false_iff_not, Int.not_lt, Int.not_le, gt_iff_lt] at h12)
     obtain ⟨q, hgen⟩ : ∃ z, o = z := ⟨_, rfl⟩
     have hfq : flushD ⟨o, a ++ x.ins.getD i default, c⟩ = q := by
       rw [← hgen]
       unfold flushD
       simp only
       (first | rw [if_pos (show 0 < (a ++ x.ins.getD i default).length by omega)] | rw [if_neg (show ¬ 0 < (a ++ x.ins.getD i default).length by omega)])
       (first | rw [if_pos (show 0 < c by omega)] | rw [if_neg (show ¬ 0 < c by omega)])
       all_goals simp
     have hnq : ∀ s ∈ q, 0 ≤ s.n ∧ s.n ≤ 10000000000 := by rw [← hfq]; exact hn2
     have hql : q.length ≤ o.length + 2 := by rw [← hfq]; exact flushD_len _
     refine .br [.le (.er 48 (List.map dstepT o) (List.map dstepT q) (by rw [hgen])), .le (.eq 3 (.row 48 o.length) (.row 48 q.length) (.of_eq (by rw [← hgen]))), .r [], .r [(3, X (Xl boolT x.cut))]] ((i : Int) == (x.cut.length : Int)) (fun h15 => ?_) (fun h15 => ?_)
     ·
      (try simp only [beq_iff_eq, beq_eq_false_iff_ne, ne_eq] at h15)
      have e4 : ((doneD (actR x 0)) : List DStep) = q := by
       rw [tailR_e (by omega)] at hDe
       have hG := hDe.done
       unfold doneD
       rw [← hG]
       exact hfq
      exact .finE [.r [], .le (.fr 2 [(q.length : Nat) = (List.map dstepT q).length] ⟨lm, trivial⟩)] [] (fun z0 => (VL 4 dstepT z0, [])) (q : List DStep) ((doneD (actR x 0)) : List DStep) e4
     ·
      (try simp only [beq_iff_eq, beq_eq_false_iff_ne, ne_eq] at h15)
      refine .br [.r [(2, X (Xn ((q.length : Int) - 1)))], .r [(5, Xv 2 (decide (((q.length : Int) - 1) ≥ 0)) (Xp' dstepT 48 q ((q.length : Int) - 1) (q.length - 1))), (6, Xv 1 (decide (((q.length : Int) - 1) ≥ 0)) X0), (7, Xv 1 (decide (((q.length : Int) - 1) ≥ 0)) (Xe dstepT q (q.length - 1))), (8, Xv 1 (decide (((q.length : Int) - 1) ≥ 0)) X0), (9, X (Xk (decide (((q.length : Int) - 1) ≥ 0)))), (13, Xv 2 (decide (((q.length : Int) - 1) ≥ 0) && ((((q.getD (q.length - 1) default)).kind) == 0)) (Xp' dstepT 48 q ((q.length : Int) - 1) (q.length - 1))), (14, Xv 1 (decide (((q.length : Int) - 1) ≥ 0) && ((((q.getD (q.length - 1) default)).kind) == 0)) X0), (15, Xv 1 (decide (((q.length : Int) - 1) ≥ 0) && ((((q.getD (q.length - 1) default)).kind) == 0)) (Xe dstepT q (q.length - 1))), (17, Xv 1 (decide (((q.length : Int) - 1) ≥ 0) && ((((q.getD (q.length - 1) default)).kind) == 0)) X0), (19, Xv 2 (decide (((q.length : Int) - 1) ≥ 0) && ((((q.getD (q.length - 1) default)).kind) == 0)) (Xi attrsT x.set (i : Int))), (20, Xv 1 (decide (((q.length : Int) - 1) ≥ 0) && ((((q.getD (q.length - 1) default)).kind) == 0)) X0), (21, Xv 2 (decide (((q.length : Int) - 1) ≥ 0) && ((((q.getD (q.length - 1) default)).kind) == 0)) (Xc0 (fc_sameAttrs (((q.getD (q.length - 1) default)).attrs) (x.set.getD i default)) X0)), (22, X (Xk (decide (((q.length : Int) - 1) ≥ 0) && ((((q.getD (q.length - 1) default)).kind) == 0))))]] ((decide (((q.length : Int) - 1) ≥ 0) && ((((q.getD (q.length - 1) default)).kind) == 0)) && (sameL (((q.getD (q.length - 1) default)).attrs) (x.set.getD i default))) (fun h17 => ?_) (fun h17 => ?_)
      ·
       (try simp only [decide_eq_true_eq, decide_eq_false_iff_not, Int.not_lt, Int.not_le, ge_iff_le, Bool.and_eq_true, Bool.and_eq_false_iff, Bool.not_eq_true', Bool.not_eq_false', beq_iff_eq, beq_eq_false_iff_ne, ne_eq] at h17)
       refine .at 562 [(0, 0), (48, 48)] ([(1, .ptr 0 0), (3, .row 48 q.length), (4, VN), (5, VI 0), (6, VI (i : Int)), (7, VI ((q.length : Int) - 1)), (81, VB ((decide (((q.length : Int) - 1) ≥ 0) && ((((q.getD (q.length - 1) default)).kind) == 0)) && (sameL (((q.getD (q.length - 1) default)).attrs) (x.set.getD i default))))], [(0, .box [VL 1 elemsT x.ins, VL 1 boolT x.cut, VL 1 attrsT x.set]), (48, OR 4 dstepT q)]) ?_
       have hlast := fun h : 0 < q.length => hnq _ (lastD_mem h)
       refine .back [.r [(2, X (Xp' dstepT 48 q ((q.length : Int) - 1) (q.length - 1))), (4, X (Xe dstepT q (q.length - 1))), (5, X (Xn ((((q.getD (q.length - 1) default)).n) + 1))), (6, X (Xp' dstepT 48 q ((q.length : Int) - 1) (q.length - 1))), (8, X (Xs 4 dstepT 48 q (q.length - 1) ({ kind := ((q.getD (q.length - 1) default)).kind, n := ((((q.getD (q.length - 1) default)).n) + 1), attrs := ((q.getD (q.length - 1) default)).attrs, elems := ((q.getD (q.length - 1) default)).elems } : DStep)))], .r [(1, X (Xn ((i : Int) + 1)))], .le (.nR 4 3), .le (.eq 3 (.row 48 q.length) (.row 48 ((q.set (q.length - 1) ({ kind := ((q.getD (q.length - 1) default)).kind, n := ((((q.getD (q.length - 1) default)).n) + 1), attrs := ((q.getD (q.length - 1) default)).attrs, elems := ((q.getD (q.length - 1) default)).elems } : DStep)).length)) (.of_eq (by simp only [List.length_set])))] [(0, 0), (48, 48), (658, 49)] (ih5 (0, (i + 1), (q.set (q.length - 1) ({ kind := ((q.getD (q.length - 1) default)).kind, n := ((((q.getD (q.length - 1) default)).n) + 1), attrs := ((q.getD (q.length - 1) default)).attrs, elems := ((q.getD (q.length - 1) default)).elems } : DStep)), []) ?_ ?_)
       ·
        rw [tailR_K (by omega) (by rcases h8 with h8 | h8; omega; exact h8)] at hDe
        refine ⟨by omega, DI.of_eq ?_ hDe.keep1⟩
        simp only
        rw [hfq]
        unfold keepD
        split
        · rename_i z; first | rfl | (exfalso; rcases h17 with (h | h) | h; omega; exact h z.2.1; (rw [z.2.2] at h; cases h))
        · rename_i z; first | rfl | exact absurd ⟨by omega, h17.1.2, h17.2⟩ z
       ·
        ((try dsimp only); omega)
      ·
       (try simp only [decide_eq_true_eq, decide_eq_false_iff_not, Int.not_lt, Int.not_le, ge_iff_le, Bool.and_eq_true, Bool.and_eq_false_iff, Bool.not_eq_true', Bool.not_eq_false', beq_iff_eq, beq_eq_false_iff_ne, ne_eq] at h17)
       refine .at 562 [(0, 0), (48, 48)] ([(1, .ptr 0 0), (3, .row 48 q.length), (4, VN), (5, VI 0), (6, VI (i : Int)), (7, VI ((q.length : Int) - 1)), (81, VB ((decide (((q.length : Int) - 1) ≥ 0) && ((((q.getD (q.length - 1) default)).kind) == 0)) && (sameL (((q.getD (q.length - 1) default)).attrs) (x.set.getD i default))))], [(0, .box [VL 1 elemsT x.ins, VL 1 boolT x.cut, VL 1 attrsT x.set]), (48, OR 4 dstepT q)]) ?_
       refine .back [.r [(4, X (Xi attrsT x.set (i : Int))), (6, X (Xf [(3, 3)])), (8, X (rowC dstepT [({ kind := 0, n := 1, attrs := (x.set.getD i default), elems := [] } : DStep)] (Xap 4 dstepT 48 q [({ kind := 0, n := 1, attrs := (x.set.getD i default), elems := [] } : DStep)])))], .r [(1, X (Xn ((i : Int) + 1)))], .le (.nR 4 3)] [(0, 0), (48, 48), (666, 49)] (ih5 (0, (i + 1), (q ++ [({ kind := 0, n := 1, attrs := (x.set.getD i default), elems := [] } : DStep)]), []) ?_ ?_)
       ·
        rw [tailR_K (by omega) (by rcases h8 with h8 | h8; omega; exact h8)] at hDe
        refine ⟨by omega, DI.of_eq ?_ hDe.keep1⟩
        simp only
        rw [hfq]
        unfold keepD
        split
        · rename_i z; first | rfl | (exfalso; rcases h17 with (h | h) | h; omega; exact h z.2.1; (rw [z.2.2] at h; cases h))
        · rename_i z; first | rfl | exact absurd ⟨by omega, h17.1.2, h17.2⟩ z
       ·
        ((try dsimp only); omega)
 ·
  (try simp only [decide_eq_true_eq, decide_eq_false_iff_not, Int.not_lt, Int.not_le] at h5)
  exfalso
  omega
end Go.Ch
end
section
set_option linter.unusedVariables false
set_option linter.unusedSimpArgs false
set_option maxRecDepth 100000
set_option maxHeartbeats 4000000
open Go Go.Proofs Go.Ab
namespace Go.Ch
theorem fc_draw (n : Int) (raw : List Int) (tag : ByteArray) (ht : TagOk tag) (hn : 0 ≤ n ∧ n ≤ 10000000) : FC Try.prog 48 [VI n, VL 1 intT raw, VS tag] (app emp []) (VL 4 dstepT (doneD (actR (chgX raw tag n.toNat) 0))) (app emp []) := by
 refine .go Try.f48 ?_
 refine .len 1 (fun hl1 => ?_)
 obtain ⟨hc1, hc2, hc3, hc4, hc5, hc6, hc7, hc8, hc9⟩ := change_ok (raw := raw) ht (n := n.toNat) (by omega)
 refine .loop (α := Nat × Int × (List (List Elem)) × (List Bool) × (List (List Attr))) [.r [], .r [], .r [], .le (.nB 8 0 1), .le (.nB 8 1 1), .le (.nB 8 2 1), .r []] 59 (fun (i, used, I, C, S) => ([(0, VI n), (2, VS tag), (7, .ptr 8 0), (8, .ptr 32 0), (9, VI (i : Int))], [(8, .box [.row 48 I.length, .row 49 C.length, .row 50 S.length]), (32, .box [VL 1 intT raw, VI used]), (48, OR 1 elemsT I), (49, OR 1 boolT C), (50, OR 1 attrsT S)])) (fun (i, used, I, C, S) => (i : Int) ≤ n ∧ 0 ≤ used ∧ used ≤ 3 * i ∧ I.length = i ∧ C.length = i ∧ S.length = i ∧ chgX raw tag n.toNat = chgF raw tag n.toNat (n.toNat - i) used ⟨I, C, S⟩) (fun (i, used, I, C, S) => n.toNat + 1 - i) (0, 0, [], [], []) ?_ ?_
 ·
  exact ⟨by omega, by decide, by omega, rfl, rfl, rfl, rfl⟩
 rintro ⟨i, used, I, C, S⟩ I4 ih4
 try dsimp only at I4
 have r1 := rollU_le raw used
 have r2 := rollU_le raw (rollU raw used)
 have r3 := rollU_le raw (rollU raw (rollU raw used))
 have v1 := rollV_bd raw used (n := 8) (by decide)
 have v2 := rollV_bd raw (rollU raw used) (n := 8) (by decide)
 have v3 := rollV_bd raw (rollU raw (rollU raw used)) (n := 8) (by decide)
 refine .br [.r []] (decide ((i : Int) ≤ n)) (fun h4 => ?_) (fun h4 => ?_)
 ·
  (try simp only [decide_eq_true_eq, decide_eq_false_iff_not, Int.not_lt, Int.not_le] at h4)
  refine .loop (α := Nat × (List Elem)) [.r [], .r [(1, X (Xc3 99 [(0, 32)] (fc_roll raw used 8 (by omega) (by omega) (by omega)) X0)), (2, X (Xn ((rollV raw used 8) - 5))), (3, X (Xmax 0 ((rollV raw used 8) - 5)))], .le (.nR 10 3)] 132 (fun (j, e) => ([(0, VI n), (2, VS tag), (7, .ptr 8 0), (8, .ptr 32 0), (9, VI (i : Int)), (10, .row 131 e.length), (24, VI (max 0 ((rollV raw used 8) - 5))), (25, VI (j : Int))], [(8, .box [.row 48 I.length, .row 49 C.length, .row 50 S.length]), (32, .box [VL 1 intT raw, VI (rollU raw used)]), (48, OR 1 elemsT I), (49, OR 1 boolT C), (50, OR 1 attrsT S), (131, OR 3 elemT e)])) (fun (j, e) => (j : Int) ≤ (max 0 ((rollV raw used 8) - 5)) ∧ e = insL tag i j) (fun (j, e) => ((max 0 ((rollV raw used 8) - 5))).toNat - j) (0, []) ?_ ?_
  ·
   exact ⟨by omega, rfl⟩
  rintro ⟨j, e⟩ I8 ih8
  try dsimp only at I8
  have el : e.length = j := by rw [I8.2]; simp [insL]
  refine .br [.r []] (decide ((j : Int) < (max 0 ((rollV raw used 8) - 5)))) (fun h8 => ?_) (fun h8 => ?_)
  ·
   (try simp only [decide_eq_true_eq, decide_eq_false_iff_not, Int.not_lt, Int.not_le] at h8)
   refine .back [.r [], .r [(3, X (Xn ((i : Int) + (j : Int)))), (4, X (Xrem ((i : Int) + (j : Int)) 26)), (5, X (Xn (65 + (((i : Int) + (j : Int)) % 26)))), (7, X (Xc1 212 (fc_on tag) X0)), (10, X (rowC elemT [({ char := (65 + (((i : Int) + (j : Int)) % 26)), ref := 0, attrs := [({ name := tag, val := { data := #[111, 110] } } : Attr)] } : Elem)] (Xap 3 elemT 131 e [({ char := (65 + (((i : Int) + (j : Int)) % 26)), ref := 0, attrs := [({ name := tag, val := { data := #[111, 110] } } : Attr)] } : Elem)])))], .r [(0, X (Xn ((j : Int) + 1)))]] [(8, 8), (32, 32), (48, 48), (49, 49), (50, 50), (131, 131)] (ih8 ((j + 1), (e ++ [({ char := (65 + (((i : Int) + (j : Int)) % 26)), ref := 0, attrs := [({ name := tag, val := { data := #[111, 110] } } : Attr)] } : Elem)])) ?_ ?_)
   ·
    refine ⟨by omega, ?_⟩
    rw [I8.2]
    unfold insL
    rw [List.range_succ, List.map_append]
    rfl
   ·
    ((try dsimp only); omega)
  ·
   (try simp only [decide_eq_true_eq, decide_eq_false_iff_not, Int.not_lt, Int.not_le] at h8)
   refine .br [.r [(3, X (rowC elemT e X0)), (4, X (rowC elemsT [e] (Xap 1 elemsT 48 I [e])))], .r []] ((i : Int) == n) (fun h13 => ?_) (fun h13 => ?_)
   ·
    (try simp only [beq_iff_eq, beq_eq_false_iff_ne, ne_eq] at h13)
    have hj : insK raw used = j := by unfold insK; omega
    have hX : chgX raw tag n.toNat = ⟨I ++ [e], C, S⟩ := by rw [I4.2.2.2.2.2.2, show n.toNat - i = 0 by omega, chgF, hj, show n.toNat = i by omega, ← I8.2]
    rw [hX] at hc1 hc2 hc3 hc4
    have e1 : ((doneD (actR (chgX raw tag n.toNat) 0)) : List DStep) = (doneD (actR ({ ins := (I ++ [e]), cut := C, set := S } : Act) 0)) := by
     rw [hX]
    exact .finE [.r [(1, X (Xc1 228 (fc_deltaOf ({ ins := (I ++ [e]), cut := C, set := S } : Act) (by assumption) (by assumption) (by assumption) (by assumption)) (rowC elemsT (I ++ [e]) (rowC boolT C (rowC attrsT S X0)))))]] [] (fun z0 => (VL 4 dstepT z0, [])) ((doneD (actR ({ ins := (I ++ [e]), cut := C, set := S } : Act) 0)) : List DStep) ((doneD (actR (chgX raw tag n.toNat) 0)) : List DStep) e1
   ·
    (try simp only [beq_iff_eq, beq_eq_false_iff_ne, ne_eq] at h13)
    have hj : insK raw used = j := by unfold insK; omega
    refine .br [.r [], .r [(1, X (Xc3 236 [(0, 32)] (fc_roll raw (rollU raw used) 8 (by omega) (by omega) (by omega)) X0))], .r []] ((rollV raw (rollU raw used) 8) == 1) (fun h16 => ?_) (fun h16 => ?_)
    ·
     (try simp only [beq_iff_eq, beq_eq_false_iff_ne, ne_eq] at h16)
     refine .back [.r [(0, X (Xc1 260 (fc_on ({ data := #[98, 111, 108, 100] })) X0))], .r [(3, X (Xc3 300 [(0, 32)] (fc_roll raw (rollU raw (rollU raw used)) 8 (by omega) (by omega) (by omega)) X0)), (6, X (rowC boolT [((rollV raw (rollU raw (rollU raw used)) 8) == 0)] (Xap 1 boolT 49 C [((rollV raw (rollU raw (rollU raw used)) 8) == 0)]))), (11, X (rowC attrsT [[({ name := ({ data := #[98, 111, 108, 100] }), val := { data := #[111, 110] } } : Attr)]] (Xap 1 attrsT 50 S [[({ name := ({ data := #[98, 111, 108, 100] }), val := { data := #[111, 110] } } : Attr)]])))], .r [(1, X (Xn ((i : Int) + 1)))]] [(8, 8), (32, 32), (48, 48), (49, 49), (50, 50)] (ih4 ((i + 1), (rollU raw (rollU raw (rollU raw used))), (I ++ [e]), (C ++ [((rollV raw (rollU raw (rollU raw used)) 8) == 0)]), (S ++ [[({ name := ({ data := #[98, 111, 108, 100] }), val := { data := #[111, 110] } } : Attr)]])) ?_ ?_)
     ·
      refine ⟨by omega, by omega, by omega, by simp; omega, by simp; omega, by simp; omega, ?_⟩
      rw [I4.2.2.2.2.2.2, show n.toNat - i = (n.toNat - (i + 1)) + 1 by omega, chgF, show n.toNat - ((n.toNat - (i + 1)) + 1) = i by omega, hj, ← I8.2]
      unfold setL
      (repeat (first | rw [if_pos (by omega)] | rw [if_neg (by omega)]))
     ·
      ((try dsimp only); omega)
    ·
     (try simp only [beq_iff_eq, beq_eq_false_iff_ne, ne_eq] at h16)
     refine .br [.r []] ((rollV raw (rollU raw used) 8) == 2) (fun h18 => ?_) (fun h18 => ?_)
     ·
      (try simp only [beq_iff_eq, beq_eq_false_iff_ne, ne_eq] at h18)
      refine .back [.r [], .r [(3, X (Xc3 324 [(0, 32)] (fc_roll raw (rollU raw (rollU raw used)) 8 (by omega) (by omega) (by omega)) X0)), (6, X (rowC boolT [((rollV raw (rollU raw (rollU raw used)) 8) == 0)] (Xap 1 boolT 49 C [((rollV raw (rollU raw (rollU raw used)) 8) == 0)]))), (10, X (rowC attrT [({ name := { data := #[98, 111, 108, 100] }, val := { data := #[] } } : Attr)] X0)), (11, X (rowC attrsT [[({ name := { data := #[98, 111, 108, 100] }, val := { data := #[] } } : Attr)]] (Xap 1 attrsT 50 S [[({ name := { data := #[98, 111, 108, 100] }, val := { data := #[] } } : Attr)]])))], .r [(1, X (Xn ((i : Int) + 1)))]] [(8, 8), (32, 32), (48, 48), (49, 49), (50, 50)] (ih4 ((i + 1), (rollU raw (rollU raw (rollU raw used))), (I ++ [e]), (C ++ [((rollV raw (rollU raw (rollU raw used)) 8) == 0)]), (S ++ [[({ name := { data := #[98, 111, 108, 100] }, val := { data := #[] } } : Attr)]])) ?_ ?_)
      ·
       refine ⟨by omega, by omega, by omega, by simp; omega, by simp; omega, by simp; omega, ?_⟩
       rw [I4.2.2.2.2.2.2, show n.toNat - i = (n.toNat - (i + 1)) + 1 by omega, chgF, show n.toNat - ((n.toNat - (i + 1)) + 1) = i by omega, hj, ← I8.2]
       unfold setL
       (repeat (first | rw [if_pos (by omega)] | rw [if_neg (by omega)]))
      ·
       ((try dsimp only); omega)
     ·
      (try simp only [beq_iff_eq, beq_eq_false_iff_ne, ne_eq] at h18)
      refine .br [.r []] ((rollV raw (rollU raw used) 8) == 3) (fun h20 => ?_) (fun h20 => ?_)
      ·
       (try simp only [beq_iff_eq, beq_eq_false_iff_ne, ne_eq] at h20)
       refine .back [.r [], .r [(3, X (Xc3 364 [(0, 32)] (fc_roll raw (rollU raw (rollU raw used)) 8 (by omega) (by omega) (by omega)) X0)), (6, X (rowC boolT [((rollV raw (rollU raw (rollU raw used)) 8) == 0)] (Xap 1 boolT 49 C [((rollV raw (rollU raw (rollU raw used)) 8) == 0)]))), (10, X (rowC attrT [({ name := { data := #[98, 111, 108, 100] }, val := tag } : Attr), ({ name := tag, val := { data := #[111, 110] } } : Attr)] X0)), (11, X (rowC attrsT [[({ name := { data := #[98, 111, 108, 100] }, val := tag } : Attr), ({ name := tag, val := { data := #[111, 110] } } : Attr)]] (Xap 1 attrsT 50 S [[({ name := { data := #[98, 111, 108, 100] }, val := tag } : Attr), ({ name := tag, val := { data := #[111, 110] } } : Attr)]])))], .r [(1, X (Xn ((i : Int) + 1)))]] [(8, 8), (32, 32), (48, 48), (49, 49), (50, 50)] (ih4 ((i + 1), (rollU raw (rollU raw (rollU raw used))), (I ++ [e]), (C ++ [((rollV raw (rollU raw (rollU raw used)) 8) == 0)]), (S ++ [[({ name := { data := #[98, 111, 108, 100] }, val := tag } : Attr), ({ name := tag, val := { data := #[111, 110] } } : Attr)]])) ?_ ?_)
       ·
        refine ⟨by omega, by omega, by omega, by simp; omega, by simp; omega, by simp; omega, ?_⟩
        rw [I4.2.2.2.2.2.2, show n.toNat - i = (n.toNat - (i + 1)) + 1 by omega, chgF, show n.toNat - ((n.toNat - (i + 1)) + 1) = i by omega, hj, ← I8.2]
        unfold setL
        (repeat (first | rw [if_pos (by omega)] | rw [if_neg (by omega)]))
       ·
        ((try dsimp only); omega)
      ·
       (try simp only [beq_iff_eq, beq_eq_false_iff_ne, ne_eq] at h20)
       refine .back [.le (.nL 12 2), .r [(3, X (Xc3 316 [(0, 32)] (fc_roll raw (rollU raw (rollU raw used)) 8 (by omega) (by omega) (by omega)) X0)), (6, X (rowC boolT [((rollV raw (rollU raw (rollU raw used)) 8) == 0)] (Xap 1 boolT 49 C [((rollV raw (rollU raw (rollU raw used)) 8) == 0)]))), (11, X (rowC attrsT [[]] (Xap 1 attrsT 50 S [[]])))], .r [(1, X (Xn ((i : Int) + 1)))]] [(8, 8), (32, 32), (48, 48), (49, 49), (50, 50)] (ih4 ((i + 1), (rollU raw (rollU raw (rollU raw used))), (I ++ [e]), (C ++ [((rollV raw (rollU raw (rollU raw used)) 8) == 0)]), (S ++ [[]])) ?_ ?_)
       ·
        refine ⟨by omega, by omega, by omega, by simp; omega, by simp; omega, by simp; omega, ?_⟩
        rw [I4.2.2.2.2.2.2, show n.toNat - i = (n.toNat - (i + 1)) + 1 by omega, chgF, show n.toNat - ((n.toNat - (i + 1)) + 1) = i by omega, hj, ← I8.2]
        unfold setL
        (repeat (first | rw [if_pos (by omega)] | rw [if_neg (by omega)]))
       ·
        ((try dsimp only); omega)
 ·
  (try simp only [decide_eq_true_eq, decide_eq_false_iff_not, Int.not_lt, Int.not_le] at h4)
  exfalso
  omega
end Go.Ch
end
section
set_option linter.unusedVariables false
set_option linter.unusedSimpArgs false
namespace Go.Ch
open Go Go.Ab

variable {w G : DWr} {us : List DU} {T : Nat}
theorem DI.all : ∀ {us : List DU} {w : DWr}, DI w us T G → DI G [] T G
  | [], w, h => by have := h.done; subst this; exact h
  | .K c :: us, w, h => DI.all h.keep1
  | .A e :: us, w, h => DI.all (DI.elems (e := [e]) h)
  | .C :: us, w, h => DI.all h.cut1
theorem ltr_an (s : ByteArray) (n : Nat) : AN n (lettersL s) := fun x hx => by
  obtain ⟨i, _, rfl⟩ := List.mem_map.1 hx
  simp [ltr]
def probeD : List DStep := [⟨1, 0, [], lettersL { data := #[120] }⟩, ⟨2, 1, [], []⟩, ⟨0, 1, [], []⟩]
theorem probe_dn : DN 400000000000 probeD := by
  intro s hs
  simp only [probeD, List.mem_cons, List.not_mem_nil, or_false] at hs
  rcases hs with rfl | rfl | rfl
  · exact ⟨by simp [lettersL, ByteArray.size], by simp, ltr_an _ _⟩
  · exact ⟨by simp, by simp, fun x hx => by cases hx⟩
  · exact ⟨by simp, by simp, fun x hx => by cases hx⟩
theorem probe_facts : partE (lettersL { data := #[97, 98] }) 0 = 0 ∧ DValid probeD ∧ oldD probeD = ((lettersL { data := #[97, 98] }).length : Int) ∧ sameF (rawD (lettersL { data := #[97, 98] }) probeD) (lettersL { data := #[120, 98] }) = true :=
  ⟨by decide +kernel, checkD_iff.1 (by decide +kernel), by decide +kernel, by decide +kernel⟩
end Go.Ch
end
section
set_option linter.unusedVariables false
set_option linter.unusedSimpArgs false
set_option maxRecDepth 100000
set_option maxHeartbeats 4000000
open Go Go.Proofs Go.Ab
namespace Go.Ch
theorem fc_deltas  : FC Try.prog 46 [] (app emp []) (VB true) (app emp []) := by
 refine .go Try.f46 ?_
 obtain ⟨p1, p2, p3, p4⟩ := probe_facts
 have p5 := probe_dn
 have p6 := ltr_an { data := #[97, 98] } 400000000000
 unfold probeD at *
 have e1 : ((true && (sameF (rawD (lettersL ({ data := #[97, 98] })) [({ kind := 1, n := 0, attrs := [], elems := (lettersL ({ data := #[120] })) } : DStep), ({ kind := 2, n := 1, attrs := [], elems := [] } : DStep), ({ kind := 0, n := 1, attrs := [], elems := [] } : DStep)]) (lettersL ({ data := #[120, 98] })))) : Bool) = true := by
  rw [p4]; simp
 exact .finE [.r [], .r [(0, X (Xc1 8 (fc_letters ({ data := #[97, 98] }) (by decide)) X0)), (1, X (Xc1 16 (fc_letters ({ data := #[120] }) (by decide)) X0)), (2, X (Xf [(2, 2)])), (3, X (Xf [(2, 2), (3, 3)])), (4, X (Xf [(2, 2), (3, 3)])), (6, X (Xc1 56 (fc_dApply (lettersL ({ data := #[97, 98] })) [({ kind := 1, n := 0, attrs := [], elems := (lettersL ({ data := #[120] })) } : DStep), ({ kind := 2, n := 1, attrs := [], elems := [] } : DStep), ({ kind := 0, n := 1, attrs := [], elems := [] } : DStep)] (by assumption) (by assumption) (by assumption) (by assumption) (by omega)) (rowC dstepT [({ kind := 1, n := 0, attrs := [], elems := (lettersL ({ data := #[120] })) } : DStep), ({ kind := 2, n := 1, attrs := [], elems := [] } : DStep), ({ kind := 0, n := 1, attrs := [], elems := [] } : DStep)] X0)))], .r [(4, Xg true (Xc1 136 (fc_letters ({ data := #[120, 98] }) (by decide)) X0)), (5, Xv 2 true (Xc0 (fc_sameFlow (rawD (lettersL ({ data := #[97, 98] })) [({ kind := 1, n := 0, attrs := [], elems := (lettersL ({ data := #[120] })) } : DStep), ({ kind := 2, n := 1, attrs := [], elems := [] } : DStep), ({ kind := 0, n := 1, attrs := [], elems := [] } : DStep)]) (lettersL ({ data := #[120, 98] }))) X0)), (6, X (Xk true))]] [] (fun z0 => (VB z0, [])) ((true && (sameF (rawD (lettersL ({ data := #[97, 98] })) [({ kind := 1, n := 0, attrs := [], elems := (lettersL ({ data := #[120] })) } : DStep), ({ kind := 2, n := 1, attrs := [], elems := [] } : DStep), ({ kind := 0, n := 1, attrs := [], elems := [] } : DStep)]) (lettersL ({ data := #[120, 98] })))) : Bool) (true : Bool) e1.symm

end Go.Ch
end
section
set_option linter.unusedVariables false
set_option linter.unusedSimpArgs false
set_option maxRecDepth 100000
set_option maxHeartbeats 4000000
open Go Go.Proofs Go.Ab
namespace Go.Ch
theorem fc_place (l : List AxStep) (p : Int) (hv : Valid l) (hp : 0 ≤ p ∧ p ≤ 2147483647) : FC Try.prog 97 [VL 2 stepT l, VI p] (app emp []) (VI (placeS l p 0 0)) (app emp []) := by
 refine .go Try.f97 ?_
 refine .len 0 (fun hl0 => ?_)
 have ca := check_iff.2 hv
 have hv1 : oldI l ≤ 2147483647 := by have := hv.2.1; unfold oldI; omega
 have hv2 : newI l ≤ 2147483647 := by have := hv.2.2; unfold newI; omega
 have o0 : 0 ≤ oldI l := by unfold oldI; omega
 have o1 : 0 ≤ newI l := by unfold newI; omega
 refine .loop (α := Int × Int × Nat) [.r [], .r [], .r [(1, X (Xl stepT l))]] 48 (fun (fr, to, i) => ([(1, VI p), (5, VI fr), (6, VI to), (9, VL 2 stepT l), (10, VI (l.length : Int)), (11, VI (i : Int))], [])) (fun (fr, to, i) => i ≤ l.length ∧ 0 ≤ fr ∧ 0 ≤ to ∧ fr + oldU (ex (l.drop i)) = oldI l ∧ to + newU (ex (l.drop i)) = newI l ∧ fr ≤ p ∧ placeS l p 0 0 = placeS (l.drop i) p fr to) (fun (fr, to, i) => l.length - i) (0, 0, 0) ?_ ?_
 ·
  exact ⟨by omega, by decide, by decide, by simp [oldI], by simp [newI], by omega, rfl⟩
 rintro ⟨fr, to, i⟩ I3 ih3
 try dsimp only at I3
 refine .br [.r []] (decide ((i : Int) < (l.length : Int))) (fun h3 => ?_) (fun h3 => ?_)
 ·
  (try simp only [decide_eq_true_eq, decide_eq_false_iff_not, Int.not_lt, Int.not_le] at h3)
  have hst := lens_step (l := l) (i := i) (by omega) hv.1
  have hd := drop_ats (l := l) (i := i) (by omega)
  refine .br [.r [(0, X (Xi stepT l (i : Int)))], .r [], .r []] ((((l.getD i default)).kind) == 1) (fun h8 => ?_) (fun h8 => ?_)
  ·
   (try simp only [beq_iff_eq, beq_eq_false_iff_ne, ne_eq] at h8)
   refine .back [.r [(3, X (Xn (to + (((l.getD i default)).n))))], .r [(0, X (Xn ((i : Int) + 1)))]] [] (ih3 (fr, (to + (((l.getD i default)).n)), (i + 1)) ?_ ?_)
   ·
    obtain ⟨s1, s2, s3, s4, s5⟩ := hst
    (first | rw [if_pos (by omega)] at s1 | rw [if_neg (by omega)] at s1)
    (first | rw [if_pos (by omega)] at s2 | rw [if_neg (by omega)] at s2)
    refine ⟨by omega, by omega, by omega, by omega, by omega, by omega, ?_⟩
    rw [I3.2.2.2.2.2.2, hd, placeS]
    ((repeat' split) <;> first | rfl | omega)
   ·
    ((try dsimp only); omega)
  ·
   (try simp only [beq_iff_eq, beq_eq_false_iff_ne, ne_eq] at h8)
   refine .br [.r []] ((((l.getD i default)).kind) == 0) (fun h10 => ?_) (fun h10 => ?_)
   ·
    (try simp only [beq_iff_eq, beq_eq_false_iff_ne, ne_eq] at h10)
    refine .br [.r [(4, X (Xn (fr + (((l.getD i default)).n))))]] (decide (p < (fr + (((l.getD i default)).n)))) (fun h11 => ?_) (fun h11 => ?_)
    ·
     (try simp only [decide_eq_true_eq, decide_eq_false_iff_not, Int.not_lt, Int.not_le] at h11)
     have e1 : ((placeS l p 0 0) : Int) = ((to + p) - fr) := by
      first | (rw [I3.2.2.2.2.2.2, drop_ends (by omega)]; rfl) | (rw [I3.2.2.2.2.2.2, hd, placeS]; ((repeat' split) <;> first | rfl | omega))
     exact .finE [.r [(2, X (Xn (to + p))), (4, X (Xn ((to + p) - fr)))]] [] (fun z0 => (VI z0, [])) (((to + p) - fr) : Int) ((placeS l p 0 0) : Int) e1
    ·
     (try simp only [decide_eq_true_eq, decide_eq_false_iff_not, Int.not_lt, Int.not_le] at h11)
     refine .back [.r [(3, X (Xn (to + (((l.getD i default)).n))))], .r [(3, X (Xn (fr + (((l.getD i default)).n))))], .r [(0, X (Xn ((i : Int) + 1)))]] [] (ih3 ((fr + (((l.getD i default)).n)), (to + (((l.getD i default)).n)), (i + 1)) ?_ ?_)
     ·
      obtain ⟨s1, s2, s3, s4, s5⟩ := hst
      (first | rw [if_pos (by omega)] at s1 | rw [if_neg (by omega)] at s1)
      (first | rw [if_pos (by omega)] at s2 | rw [if_neg (by omega)] at s2)
      refine ⟨by omega, by omega, by omega, by omega, by omega, by omega, ?_⟩
      rw [I3.2.2.2.2.2.2, hd, placeS]
      ((repeat' split) <;> first | rfl | omega)
     ·
      ((try dsimp only); omega)
   ·
    (try simp only [beq_iff_eq, beq_eq_false_iff_ne, ne_eq] at h10)
    refine .br [.r [(4, X (Xn (fr + (((l.getD i default)).n))))]] (decide (p < (fr + (((l.getD i default)).n)))) (fun h6 => ?_) (fun h6 => ?_)
    ·
     (try simp only [decide_eq_true_eq, decide_eq_false_iff_not, Int.not_lt, Int.not_le] at h6)
     have e2 : ((placeS l p 0 0) : Int) = -1 := by
      first | (rw [I3.2.2.2.2.2.2, drop_ends (by omega)]; rfl) | (rw [I3.2.2.2.2.2.2, hd, placeS]; ((repeat' split) <;> first | rfl | omega))
     exact .finE [.r []] [] (fun z0 => (VI z0, [])) (-1 : Int) ((placeS l p 0 0) : Int) e2
    ·
     (try simp only [decide_eq_true_eq, decide_eq_false_iff_not, Int.not_lt, Int.not_le] at h6)
     refine .back [.r [(3, X (Xn (fr + (((l.getD i default)).n))))], .r [(0, X (Xn ((i : Int) + 1)))]] [] (ih3 ((fr + (((l.getD i default)).n)), to, (i + 1)) ?_ ?_)
     ·
      obtain ⟨s1, s2, s3, s4, s5⟩ := hst
      (first | rw [if_pos (by omega)] at s1 | rw [if_neg (by omega)] at s1)
      (first | rw [if_pos (by omega)] at s2 | rw [if_neg (by omega)] at s2)
      refine ⟨by omega, by omega, by omega, by omega, by omega, by omega, ?_⟩
      rw [I3.2.2.2.2.2.2, hd, placeS]
      ((repeat' split) <;> first | rfl | omega)
     ·
      ((try dsimp only); omega)
 ·
  (try simp only [decide_eq_true_eq, decide_eq_false_iff_not, Int.not_lt, Int.not_le] at h3)
  have e3 : ((placeS l p 0 0) : Int) = -1 := by
   first | (rw [I3.2.2.2.2.2.2, drop_ends (by omega)]; rfl) | (rw [I3.2.2.2.2.2.2, hd, placeS]; ((repeat' split) <;> first | rfl | omega))
  exact .finE [.r []] [] (fun z0 => (VI z0, [])) (-1 : Int) ((placeS l p 0 0) : Int) e3

theorem fc_axApply (l : List AxStep) (pl : List Int) (hv : Valid l) (hp : ∀ x ∈ pl, 0 ≤ x ∧ x < oldI l) (hlen : pl.length ≤ 1000000000) : FC Try.prog 44 [VL 2 stepT l, VL 1 intT pl] (app emp []) (.tup [VL 1 intT (List.map (fun x => placeS l x 0 0) pl), VI 0]) (app emp []) := by
 refine .go Try.f44 ?_
 refine .len 0 (fun hl0 => ?_)
 refine .len 1 (fun hl1 => ?_)
 have ca := check_iff.2 hv
 have hv1 : oldI l ≤ 2147483647 := by have := hv.2.1; unfold oldI; omega
 have hv2 : newI l ≤ 2147483647 := by have := hv.2.2; unfold newI; omega
 have o0 : 0 ≤ oldI l := by unfold oldI; omega
 have o1 : 0 ≤ newI l := by unfold newI; omega
 refine .br [.r [], .r [(1, X (Xc0 (fc_axCheck l) X0))], .r []] ((checkX l) != 0) (fun h2 => ?_) (fun h2 => ?_)
 ·
  (try simp only [bne_iff_ne, bne_eq_false_iff_eq, ne_eq] at h2)
  exfalso
  omega
 ·
  (try simp only [bne_iff_ne, bne_eq_false_iff_eq, ne_eq] at h2)
  refine .loop (α := Nat × (List Int)) [.r [(1, X (Xc0 (fc_axLens l (by assumption)) X0))], .r [], .r [(1, X (Xl intT pl))], .le (.nR 9 1)] 145 (fun (i, out) => ([(0, VL 2 stepT l), (7, VI (oldI l)), (9, .row 144 out.length), (22, VL 1 intT pl), (23, VI (pl.length : Int)), (24, VI (i : Int))], [(144, OR 1 intT out)])) (fun (i, out) => i ≤ pl.length ∧ out = (pl.take i).map (fun x => placeS l x 0 0)) (fun (i, out) => pl.length - i) (0, []) ?_ ?_
  ·
   exact ⟨by omega, rfl⟩
  rintro ⟨i, out⟩ I7 ih7
  try dsimp only at I7
  have ol : out.length = i := by rw [I7.2]; simp; omega
  refine .br [.r []] (decide ((i : Int) < (pl.length : Int))) (fun h7 => ?_) (fun h7 => ?_)
  ·
   (try simp only [decide_eq_true_eq, decide_eq_false_iff_not, Int.not_lt, Int.not_le] at h7)
   have hx := hp (pl.getD i default) (by rw [show pl.getD i default = pl[i] by simp [List.getD, List.getElem?_eq_getElem (show i < pl.length by omega)]]; exact List.getElem_mem _)
   refine .br [.r [(0, X (Xi intT pl (i : Int)))], .r [(5, Xv 2 (!(decide ((pl.getD i default) < 0))) X0), (6, X (Xk' (decide ((pl.getD i default) < 0))))]] (decide ((pl.getD i default) < 0) || decide ((pl.getD i default) ≥ (oldI l))) (fun h9 => ?_) (fun h9 => ?_)
   ·
    (try simp only [decide_eq_true_eq, decide_eq_false_iff_not, Int.not_lt, Int.not_le, ge_iff_le, Bool.or_eq_true, Bool.or_eq_false_iff] at h9)
    exfalso
    omega
   ·
    (try simp only [decide_eq_true_eq, decide_eq_false_iff_not, Int.not_lt, Int.not_le, ge_iff_le, Bool.or_eq_true, Bool.or_eq_false_iff] at h9)
    refine .back [.r [(3, X (Xc0 (fc_place l (pl.getD i default) (by assumption) (by omega)) X0)), (5, X (rowC intT [(placeS l (pl.getD i default) 0 0)] (Xap 1 intT 144 out [(placeS l (pl.getD i default) 0 0)])))], .r [(0, X (Xn ((i : Int) + 1)))]] [(144, 144)] (ih7 ((i + 1), (out ++ [(placeS l (pl.getD i default) 0 0)])) ?_ ?_)
    ·
     refine ⟨by omega, ?_⟩
     rw [I7.2, List.take_succ_eq_append_getElem (show i < pl.length by omega), List.map_append]
     simp [List.getD, List.getElem?_eq_getElem (show i < pl.length by omega)]
    ·
     ((try dsimp only); omega)
  ·
   (try simp only [decide_eq_true_eq, decide_eq_false_iff_not, Int.not_lt, Int.not_le] at h7)
   have e1 : ((List.map (fun x => placeS l x 0 0) pl) : List Int) = out := by
    rw [I7.2, List.take_of_length_le (by omega)]
   exact .finE [.r [], .le (.fr 4 [(out.length : Nat) = (List.map intT out).length] ⟨lm, trivial⟩)] [] (fun z0 => (.tup [VL 1 intT z0, VI 0], [])) (out : List Int) ((List.map (fun x => placeS l x 0 0) pl) : List Int) e1

end Go.Ch
end
section
set_option linter.unusedVariables false
set_option linter.unusedSimpArgs false
set_option maxRecDepth 100000
set_option maxHeartbeats 4000000
open Go Go.Proofs Go.Ab
namespace Go.Ch
theorem fc_axes  : FC Try.prog 35 [] (app emp []) (VB true) (app emp []) := by
 refine .go Try.f35 ?_
 obtain ⟨P1, P2, P3, P4⟩ := probeX
 have P5 := check_iff.2 (joinX_ok P1 P2 P3).1
 have e1 : (((true && (((joinX [({ kind := 0, n := 1 } : AxStep), ({ kind := 1, n := 2 } : AxStep)] [({ kind := 0, n := 2 } : AxStep), ({ kind := 2, n := 1 } : AxStep)]).length : Int) == 2)) && (((((joinX [({ kind := 0, n := 1 } : AxStep), ({ kind := 1, n := 2 } : AxStep)] [({ kind := 0, n := 2 } : AxStep), ({ kind := 2, n := 1 } : AxStep)]).getD 1 default)).kind) == 1 && (((((joinX [({ kind := 0, n := 1 } : AxStep), ({ kind := 1, n := 2 } : AxStep)] [({ kind := 0, n := 2 } : AxStep), ({ kind := 2, n := 1 } : AxStep)]).getD 1 default)).n) == 1 && true))) : Bool) = true := by
  rw [P4]; simp
 exact .finE [.r [], .r [(6, X (Xc1 56 (fc_axJoin [({ kind := 0, n := 1 } : AxStep), ({ kind := 1, n := 2 } : AxStep)] [({ kind := 0, n := 2 } : AxStep), ({ kind := 2, n := 1 } : AxStep)] (by assumption) (by assumption) (by assumption) (by assumption)) (rowC stepT [({ kind := 0, n := 1 } : AxStep), ({ kind := 1, n := 2 } : AxStep)] (rowC stepT [({ kind := 0, n := 2 } : AxStep), ({ kind := 2, n := 1 } : AxStep)] X0))))], .r [(4, Xv 1 true (Xl stepT (joinX [({ kind := 0, n := 1 } : AxStep), ({ kind := 1, n := 2 } : AxStep)] [({ kind := 0, n := 2 } : AxStep), ({ kind := 2, n := 1 } : AxStep)]))), (5, Xv 1 true X0), (6, X (Xk true)), (9, Xv 1 (true && (((joinX [({ kind := 0, n := 1 } : AxStep), ({ kind := 1, n := 2 } : AxStep)] [({ kind := 0, n := 2 } : AxStep), ({ kind := 2, n := 1 } : AxStep)]).length : Int) == 2)) (Xi stepT (joinX [({ kind := 0, n := 1 } : AxStep), ({ kind := 1, n := 2 } : AxStep)] [({ kind := 0, n := 2 } : AxStep), ({ kind := 2, n := 1 } : AxStep)]) 1)), (10, Xv 1 (true && (((joinX [({ kind := 0, n := 1 } : AxStep), ({ kind := 1, n := 2 } : AxStep)] [({ kind := 0, n := 2 } : AxStep), ({ kind := 2, n := 1 } : AxStep)]).length : Int) == 2)) X0), (12, Xv 2 (true && (((joinX [({ kind := 0, n := 1 } : AxStep), ({ kind := 1, n := 2 } : AxStep)] [({ kind := 0, n := 2 } : AxStep), ({ kind := 2, n := 1 } : AxStep)]).length : Int) == 2)) X0), (13, X (Xk (true && (((joinX [({ kind := 0, n := 1 } : AxStep), ({ kind := 1, n := 2 } : AxStep)] [({ kind := 0, n := 2 } : AxStep), ({ kind := 2, n := 1 } : AxStep)]).length : Int) == 2))))]] [] (fun z0 => (VB z0, [])) (((true && (((joinX [({ kind := 0, n := 1 } : AxStep), ({ kind := 1, n := 2 } : AxStep)] [({ kind := 0, n := 2 } : AxStep), ({ kind := 2, n := 1 } : AxStep)]).length : Int) == 2)) && (((((joinX [({ kind := 0, n := 1 } : AxStep), ({ kind := 1, n := 2 } : AxStep)] [({ kind := 0, n := 2 } : AxStep), ({ kind := 2, n := 1 } : AxStep)]).getD 1 default)).kind) == 1 && (((((joinX [({ kind := 0, n := 1 } : AxStep), ({ kind := 1, n := 2 } : AxStep)] [({ kind := 0, n := 2 } : AxStep), ({ kind := 2, n := 1 } : AxStep)]).getD 1 default)).n) == 1 && true))) : Bool) (true : Bool) e1.symm

end Go.Ch
end
section
set_option linter.unusedVariables false
set_option linter.unusedSimpArgs false
set_option maxRecDepth 100000
set_option maxHeartbeats 4000000
open Go Go.Proofs Go.Ab
namespace Go.Ch
structure KI (a : List AxStep) (i : Nat) (last : Int) : Prop where
  lo : -1 ≤ last
  hi : last ≤ 10000000000
  at_ : last = -1 ∨ ∃ q, 0 ≤ q ∧ q < (i : Int) ∧ placeS a q 0 0 = last ∧ 0 ≤ last
theorem KI.next {a : List AxStep} {i : Nat} {last : Int} (h : KI a i last) (hv : Valid a) : gapS a i false 0 0 ≤ gapS a i true 0 0 ∧ last + 1 ≤ gapS a i false 0 0 ∧ (0 ≤ placeS a i 0 0 → gapS a i true 0 0 ≤ placeS a i 0 0) ∧ -1 ≤ placeS a i 0 0 ∧ placeS a i 0 0 ≤ 2147483647 ∧
    (placeS a i 0 0 < 0 → KI a (i + 1) last) ∧ (0 ≤ placeS a i 0 0 → KI a (i + 1) (placeS a i 0 0)) := by
  have g1 := gap_mono hv.1 i 0 0 0 (Int.le_refl _)
  have g0 := gap_ge hv.1 i false 0 0
  have p1 := place_ge hv.1 i 0 0 (Int.le_refl _) (by omega)
  have p2 := place_le hv.1 i 0 0 (Int.le_refl _) (by omega)
  have hn := hv.2.2
  refine ⟨g1, ?_, fun h0 => gap_place hv.1 i 0 0 (by omega) h0, p1, by omega, fun hlt => ⟨h.lo, h.hi, ?_⟩, fun h0 => ⟨by omega, by omega, .inr ⟨i, by omega, by omega, rfl, h0⟩⟩⟩
  · rcases h.at_ with e | ⟨q, q1, q2, q3, q4⟩
    · omega
    · have := place_gap hv.1 q i 0 0 q1 q2 (by omega)
      omega
  · rcases h.at_ with e | ⟨q, q1, q2, q3, q4⟩
    · exact .inl e
    · exact .inr ⟨q, q1, by omega, q3, q4⟩

end Go.Ch
end
section
set_option linter.unusedVariables false
set_option linter.unusedSimpArgs false
set_option maxRecDepth 100000
set_option maxHeartbeats 4000000
open Go Go.Proofs Go.Ab
namespace Go.Ch
theorem fc_dAxis (d : List DStep) (hv : DValid d) (hd : DN 400000000000 d) : FC Try.prog 74 [VL 4 dstepT d] (app emp []) (.tup [VL 2 stepT (axD d), VI 0]) (app emp []) := by
 refine .go Try.f74 ?_
 refine .len 0 (fun hl0 => ?_)
 have hc := checkD_iff.2 hv
 have hdl := dlen hv.1.all
 have hv1 := hv.2.1
 have hv2 := hv.2.2
 refine .br [.r [], .r [(1, X (Xc0 (fc_dCheck d (by assumption)) X0))], .r []] ((checkD d) != 0) (fun h2 => ?_) (fun h2 => ?_)
 ·
  (try simp only [bne_iff_ne, bne_eq_false_iff_eq, ne_eq] at h2)
  exfalso
  omega
 ·
  (try simp only [bne_iff_ne, bne_eq_false_iff_eq, ne_eq] at h2)
  refine .loop (α := Nat × (List AxStep)) [.r [], .r [(1, X (Xl dstepT d))], .le (.nR 5 2)] 89 (fun (i, o) => ([(5, .row 88 o.length), (14, VL 4 dstepT d), (15, VI (d.length : Int)), (16, VI (i : Int))], [(88, OR 2 stepT o)])) (fun (i, o) => i ≤ d.length ∧ axF o (d.drop i) = axD d ∧ AxB o i) (fun (i, o) => d.length - i) (0, []) ?_ ?_
  ·
   exact ⟨by omega, rfl, AxB.start⟩
  rintro ⟨i, o⟩ I6 ih6
  try dsimp only at I6
  have ol := I6.2.2.len
  refine .br [.r []] (decide ((i : Int) < (d.length : Int))) (fun h6 => ?_) (fun h6 => ?_)
  ·
   (try simp only [decide_eq_true_eq, decide_eq_false_iff_not, Int.not_lt, Int.not_le] at h6)
   have hm := getD_mem' (l := d) (k := i) (by omega)
   obtain ⟨hk, hn1, hn2, _⟩ := stepD_sz (step_iff.2 (hv.1.all _ hm))
   obtain ⟨hz1, hz2⟩ := szD_valid hv hm
   have hN := I6.2.2.next ⟨hz1, hz2⟩ ⟨hn1, hn2⟩
   have hF := (axF_at (d := d) (i := i) (by omega) o).symm.trans I6.2.1
   have hla := fun h => I6.2.2.last h
   unfold axPut at hN hF
   refine .br [.r [(0, X (Xi dstepT d (i : Int)))], .r [(2, X (Xn ((o.length : Int) - 1)))], .r [(5, Xv 1 ((((d.getD i default)).kind) == 0) X0), (6, X (Xk ((((d.getD i default)).kind) == 0))), (10, Xv 2 (((((d.getD i default)).kind) == 0) && decide (((o.length : Int) - 1) ≥ 0)) (Xp' stepT 88 o ((o.length : Int) - 1) (o.length - 1))), (11, Xv 1 (((((d.getD i default)).kind) == 0) && decide (((o.length : Int) - 1) ≥ 0)) X0), (12, Xv 1 (((((d.getD i default)).kind) == 0) && decide (((o.length : Int) - 1) ≥ 0)) (Xe stepT o (o.length - 1))), (13, Xv 1 (((((d.getD i default)).kind) == 0) && decide (((o.length : Int) - 1) ≥ 0)) X0), (14, X (Xk (((((d.getD i default)).kind) == 0) && decide (((o.length : Int) - 1) ≥ 0))))]] ((((((d.getD i default)).kind) == 0) && decide (((o.length : Int) - 1) ≥ 0)) && ((((o.getD (o.length - 1) default)).kind) == 0)) (fun h9 => ?_) (fun h9 => ?_)
   ·
    (try simp only [decide_eq_true_eq, decide_eq_false_iff_not, Int.not_lt, Int.not_le, ge_iff_le, Bool.and_eq_true, Bool.and_eq_false_iff, Bool.not_eq_true', Bool.not_eq_false', beq_iff_eq, beq_eq_false_iff_ne, ne_eq] at h9)
    have hla2 := hla (by omega)
    rw [if_pos ⟨h9.1.1, by omega, h9.2⟩] at hN hF
    refine .back [.r [(2, X (Xp' stepT 88 o ((o.length : Int) - 1) (o.length - 1))), (4, X (Xe stepT o (o.length - 1))), (7, X (Xn ((((o.getD (o.length - 1) default)).n) + (((d.getD i default)).n)))), (8, X (Xp' stepT 88 o ((o.length : Int) - 1) (o.length - 1))), (10, X (Xs 2 stepT 88 o (o.length - 1) ({ kind := ((o.getD (o.length - 1) default)).kind, n := ((((o.getD (o.length - 1) default)).n) + (((d.getD i default)).n)) } : AxStep)))], .r [(0, X (Xn ((i : Int) + 1)))], .le (.eq 5 (.row 88 o.length) (.row 88 ((o.set (o.length - 1) ({ kind := ((o.getD (o.length - 1) default)).kind, n := ((((o.getD (o.length - 1) default)).n) + (((d.getD i default)).n)) } : AxStep)).length)) (.of_eq (by simp only [List.length_set])))] [(88, 88)] (ih6 ((i + 1), (o.set (o.length - 1) ({ kind := ((o.getD (o.length - 1) default)).kind, n := ((((o.getD (o.length - 1) default)).n) + (((d.getD i default)).n)) } : AxStep))) ?_ ?_)
    ·
     exact ⟨by omega, hF, hN⟩
    ·
     ((try dsimp only); omega)
   ·
    (try simp only [decide_eq_true_eq, decide_eq_false_iff_not, Int.not_lt, Int.not_le, ge_iff_le, Bool.and_eq_true, Bool.and_eq_false_iff, Bool.not_eq_true', Bool.not_eq_false', beq_iff_eq, beq_eq_false_iff_ne, ne_eq] at h9)
    have hno : ¬ ((d.getD i default).kind = 0 ∧ 0 < o.length ∧ (o.getD (o.length - 1) default).kind = 0) := by rintro ⟨q1, q2, q3⟩; rcases h9 with (h9 | h9) | h9 <;> omega
    rw [if_neg hno] at hN hF
    refine .back [.r [(4, X (Xc0 (fc_size ((d.getD i default))) X0)), (7, X (rowC stepT [({ kind := ((d.getD i default)).kind, n := (szD ((d.getD i default))) } : AxStep)] (Xap 2 stepT 88 o [({ kind := ((d.getD i default)).kind, n := (szD ((d.getD i default))) } : AxStep)])))], .r [(0, X (Xn ((i : Int) + 1)))]] [(88, 88)] (ih6 ((i + 1), (o ++ [({ kind := ((d.getD i default)).kind, n := (szD ((d.getD i default))) } : AxStep)])) ?_ ?_)
    ·
     exact ⟨by omega, hF, hN⟩
    ·
     ((try dsimp only); omega)
  ·
   (try simp only [decide_eq_true_eq, decide_eq_false_iff_not, Int.not_lt, Int.not_le] at h6)
   have ho := I6.2.1
   rw [axF_end (by omega)] at ho
   have e1 : ((axD d) : List AxStep) = o := by
    rw [ho]
   exact .finE [.r [], .le (.fr 2 [(o.length : Nat) = (List.map stepT o).length] ⟨lm, trivial⟩)] [] (fun z0 => (.tup [VL 2 stepT z0, VI 0], [])) (o : List AxStep) ((axD d) : List AxStep) e1
end Go.Ch
end
section
set_option linter.unusedVariables false
set_option linter.unusedSimpArgs false
set_option maxRecDepth 100000
set_option maxHeartbeats 4000000
open Go Go.Proofs Go.Ab
namespace Go.Ch
theorem fc_lawAxis (n : Int) (raw : List Int) : FC Try.prog 19 [VI n, VL 1 intT raw] (app emp []) (VB true) (app emp []) := by
 refine .go Try.f19 ?_
 refine .len 1 (fun hl1 => ?_)
 have tx := tag_x
 obtain ⟨m, hm⟩ : ∃ z, withinI n 1 26 = z := ⟨_, rfl⟩
 have hmb := withinI_bd n (lo := 1) (hi := 26) (by decide)
 rw [hm] at hmb
 refine .br [.r [], .r [(0, X (Xc0 fc_deltas X0)), (3, Xg (!false) (Xc0 fc_axes X0)), (4, Xv 1 (!false) X0), (5, X (Xk' false))]] (false || false) (fun h1 => ?_) (fun h1 => ?_)
 ·
  (try simp only [Bool.or_eq_true, Bool.or_eq_false_iff] at h1)
  exfalso
  simp at h1
 ·
  (try simp only [Bool.or_eq_true, Bool.or_eq_false_iff] at h1)
  refine .loop (α := Nat × (List Elem)) [.r [(1, X (Xc0 (fc_within n 1 26 (by omega)) X0))], .le (.eq 0 (VI (withinI n 1 26)) (VI m) (.of_eq (by rw [hm]))), .r [], .r [], .le (.nR 5 3)] 105 (fun (i, o) => ([(0, VI m), (1, VL 1 intT raw), (5, .row 104 o.length), (25, VI m), (26, VI (i : Int))], [(104, OR 3 elemT o)])) (fun (i, o) => (i : Int) ≤ m ∧ o = abcL i) (fun (i, o) => m.toNat - i) (0, []) ?_ ?_
  ·
   exact ⟨by omega, rfl⟩
  rintro ⟨i, o⟩ I6 ih6
  try dsimp only at I6
  have ol0 : o.length = i := by rw [I6.2, abc_len]
  refine .br [.r []] (decide ((i : Int) < m)) (fun h6 => ?_) (fun h6 => ?_)
  ·
   (try simp only [decide_eq_true_eq, decide_eq_false_iff_not, Int.not_lt, Int.not_le] at h6)
   refine .back [.r [], .r [(2, X (Xn (97 + (i : Int)))), (3, X (Xf [(2, 2)])), (5, X (rowC elemT [({ char := (97 + (i : Int)), ref := 0, attrs := [] } : Elem)] (Xap 3 elemT 104 o [({ char := (97 + (i : Int)), ref := 0, attrs := [] } : Elem)])))], .r [(0, X (Xn ((i : Int) + 1)))]] [(104, 104)] (ih6 ((i + 1), (o ++ [({ char := (97 + (i : Int)), ref := 0, attrs := [] } : Elem)])) ?_ ?_)
   ·
    refine ⟨by omega, ?_⟩
    rw [I6.2, abc_succ]
   ·
    ((try dsimp only); omega)
  ·
   (try simp only [decide_eq_true_eq, decide_eq_false_iff_not, Int.not_lt, Int.not_le] at h6)
   have hco := change_ok (raw := raw) tag_x (n := Int.toNat m) (by omega)
   have hcc := fun h => chg_char (raw := raw) (tag := ({ data := #[120] })) (n := Int.toNat m) (d := (doneD (actR (chgX raw ({ data := #[120] }) (Int.toNat m)) 0))) h
   obtain ⟨d, hA⟩ : ∃ z, (doneD (actR (chgX raw ({ data := #[120] }) (Int.toNat m)) 0)) = z := ⟨_, rfl⟩
   rw [hA] at hco hcc
   obtain ⟨_, _, _, _, va, oa, da, na, wa⟩ := hco
   have hch := hcc wa
   have da4 := da.mono (n := 400000000000) (by decide)
   have ho : o = abcL m.toNat := by rw [I6.2]; congr 1; omega
   have ol : (o.length : Int) = m := by rw [ho, abc_len]; omega
   have hp := abc_ok (n := m.toNat) (by omega)
   have han := abc_an m.toNat 400000000000
   rw [← ho] at hp han
   obtain ⟨ax1, ax2, ax3, ax4⟩ := axD_ok va
   obtain ⟨g, hg0⟩ : ∃ z, rawD o d = z := ⟨_, rfl⟩
   have hgl := rawD_new va (f := o) (by omega)
   rw [hg0] at hgl
   refine .br [.r [(2, X (Xc1 129 (fc_draw m raw ({ data := #[120] }) (by assumption) (by omega)) X0))], .le (.eq 7 (VL 4 dstepT (doneD (actR (chgX raw ({ data := #[120] }) (Int.toNat m)) 0))) (VL 4 dstepT d) (.of_eq (by rw [hA]))), .r [(2, X (Xc1 161 (fc_dApply o d (by assumption) (by assumption) (by assumption) (by assumption) (by omega)) (rowC elemT o X0)))], .le (.eq 8 (VL 3 elemT (rawD o d)) (VL 3 elemT g) (.of_eq (by rw [hg0]))), .r [(1, X (Xc1 217 (fc_dAxis d (by assumption) (by assumption)) X0))], .r [(4, Xv 1 (!false) X0), (5, X (Xk' false))]] (false || false) (fun h13 => ?_) (fun h13 => ?_)
   ·
    (try simp only [Bool.or_eq_true, Bool.or_eq_false_iff] at h13)
    exfalso
    simp at h13
   ·
    (try simp only [Bool.or_eq_true, Bool.or_eq_false_iff] at h13)
    refine .loop (α := Nat) [.r []] 329 (fun i2 => ([(5, .row 104 o.length), (8, VL 3 elemT g), (10, VL 2 stepT (axD d)), (56, VI m), (57, VI (i2 : Int))], [(104, OF 3 elemT o)])) (fun i2 => (i2 : Int) ≤ m) (fun i2 => m.toNat - i2) (0 : Nat) ?_ ?_
    ·
     show _ ≤ _; omega
    rintro i2 I16 ih16
    try dsimp only at I16
    refine .br [.r []] (decide ((i2 : Int) < m)) (fun h16 => ?_) (fun h16 => ?_)
    ·
     (try simp only [decide_eq_true_eq, decide_eq_false_iff_not, Int.not_lt, Int.not_le] at h16)
     obtain ⟨p, hpp⟩ : ∃ z, placeS (axD d) (i2 : Int) 0 0 = z := ⟨_, rfl⟩
     have hin : ∀ x ∈ [(i2 : Int)], 0 ≤ x ∧ x < oldI (axD d) := fun x hx => by rw [List.mem_singleton] at hx; omega
     have hlaw := axis_law va (f := o) (by omega) (i := i2) (by omega)
     rw [hpp, hg0] at hlaw
     have hpl : ([p] : List Int).getD 0 default = p := rfl
     have hpb : -1 ≤ p ∧ p < (g.length : Int) := by rcases hlaw with q | ⟨k, q1, q2, _⟩ <;> omega
     have hch2 : 0 ≤ p → (g.getD p.toNat default).char = (o.getD i2 default).char := fun h0 => by
       rcases hlaw with q | ⟨k, q1, q2, q3⟩
       · omega
       · rw [show p.toNat = k by omega]; exact q3
     have hch2 := fun _ : Unit => hch2
     clear hlaw
     have hil : ([(i2 : Int)] : List Int).length = 1 := rfl
     have hpl1 : ([p] : List Int).length = 1 := rfl
     refine .br [.r [], .r [(3, X (Xc1 377 (fc_axApply (axD d) [(i2 : Int)] (by assumption) (by assumption) (by omega)) (rowC intT [(i2 : Int)] X0)))], .le (.eq 13 (VL 1 intT (List.map (fun x => placeS (axD d) x 0 0) [(i2 : Int)])) (VL 1 intT [p]) (.of_eq (by rw [← hpp]; rfl))), .r [(4, Xv 1 (!false) (Xl intT [p])), (5, Xv 1 (!false) X0), (6, X (Xk' false)), (9, Xv 1 (!(false || (([p].length : Int) != 1))) (Xi intT [p] 0)), (10, Xv 1 (!(false || (([p].length : Int) != 1))) X0), (12, Xv 1 (!(false || (([p].length : Int) != 1))) (Xl elemT g)), (13, Xv 2 (!(false || (([p].length : Int) != 1))) X0), (14, X (Xk' (false || (([p].length : Int) != 1))))]] ((false || (([p].length : Int) != 1)) || decide (([p].getD 0 default) ≥ (g.length : Int))) (fun h19 => ?_) (fun h19 => ?_)
     ·
      (try simp only [decide_eq_true_eq, decide_eq_false_iff_not, Int.not_lt, Int.not_le, ge_iff_le, Bool.or_eq_true, Bool.or_eq_false_iff, bne_iff_ne, bne_eq_false_iff_eq, ne_eq] at h19)
      exfalso
      simp at h19; omega
     ·
      (try simp only [decide_eq_true_eq, decide_eq_false_iff_not, Int.not_lt, Int.not_le, ge_iff_le, Bool.or_eq_true, Bool.or_eq_false_iff, bne_iff_ne, bne_eq_false_iff_eq, ne_eq] at h19)
      refine .loop (α := Bool × Nat) [.r [], .r [(1, X (Xl elemT g))]] 577 (fun (b, j) => ([(5, .row 104 o.length), (8, VL 3 elemT g), (10, VL 2 stepT (axD d)), (12, VI (i2 : Int)), (13, VL 1 intT [p]), (15, VB b), (56, VI m), (57, VI (i2 : Int)), (83, VI (g.length : Int)), (84, VI (j : Int))], [(104, OF 3 elemT o)])) (fun (b, j) => j ≤ g.length ∧ b = decide (0 ≤ p ∧ p < (j : Int))) (fun (b, j) => g.length - j) (false, 0) ?_ ?_
      ·
       refine ⟨by omega, ?_⟩
       rw [decide_eq_false (by omega)]
      rintro ⟨b, j⟩ I23 ih23
      try dsimp only at I23
      refine .br [.r []] (decide ((j : Int) < (g.length : Int))) (fun h23 => ?_) (fun h23 => ?_)
      ·
       (try simp only [decide_eq_true_eq, decide_eq_false_iff_not, Int.not_lt, Int.not_le] at h23)
       refine .back [.r [], .r [(4, Xv 2 (!b) (Xi elemT g (j : Int))), (5, Xv 1 (!b) X0), (6, Xv 1 (!b) X0), (9, Xv 2 (!b) (Xp elemT o (i2 : Int))), (10, Xv 1 (!b) X0), (11, Xv 1 (!b) (Xe elemT o i2)), (12, Xv 2 (!b) X0), (13, Xv 1 (!b) X0), (16, Xv 1 ((!b) && ((((g.getD j default)).char) == (((o.getD i2 default)).char))) (Xi intT [p] 0) (fun hg => by (try simp only [Bool.not_eq_true', Bool.not_eq_false', Bool.and_eq_true, Bool.and_eq_false_iff, beq_iff_eq, beq_eq_false_iff_ne, ne_eq] at hg); exact ⟨(by decide), (by simp)⟩)), (17, Xv 1 ((!b) && ((((g.getD j default)).char) == (((o.getD i2 default)).char))) X0), (18, Xv 2 ((!b) && ((((g.getD j default)).char) == (((o.getD i2 default)).char))) X0), (19, Xka (!b) ((((g.getD j default)).char) == (((o.getD i2 default)).char))), (20, X (Xk' b))], .r [(0, X (Xn ((j : Int) + 1)))]] [(104, 104)] (ih23 ((b || (((((g.getD j default)).char) == (((o.getD i2 default)).char)) && ((j : Int) == ([p].getD 0 default)))), (j + 1)) ?_ ?_)
       ·
        refine ⟨by omega, ?_⟩
        rw [I23.2, hpl]
        by_cases e : (j : Int) = p
        · have c := hch2 () (by omega)
          rw [show p.toNat = j by omega] at c
          rw [c, decide_eq_true (show 0 ≤ p ∧ p < ((j + 1 : Nat) : Int) by omega), beq_iff_eq.2 e, beq_self_eq_true]; simp
        · rw [beq_eq_false_iff_ne.2 e, Bool.and_false, Bool.or_false]
          exact decide_eq_decide.2 (by omega)
       ·
        ((try dsimp only); omega)
      ·
       (try simp only [decide_eq_true_eq, decide_eq_false_iff_not, Int.not_lt, Int.not_le] at h23)
       refine .br [.r [(2, X (Xi intT [p] 0))]] (!(b == decide (([p].getD 0 default) ≥ 0))) (fun h27 => ?_) (fun h27 => ?_)
       ·
        (try simp only [decide_eq_true_eq, decide_eq_false_iff_not, Int.not_lt, Int.not_le, ge_iff_le, Bool.not_eq_true', Bool.not_eq_false', beq_iff_eq, beq_eq_false_iff_ne, ne_eq] at h27)
        exfalso
        rw [I23.2, hpl] at h27
        have q : decide (0 ≤ p ∧ p < (j : Int)) = decide (p ≥ 0) := decide_eq_decide.2 (by omega)
        rw [q] at h27; simp at h27
       ·
        (try simp only [decide_eq_true_eq, decide_eq_false_iff_not, Int.not_lt, Int.not_le, ge_iff_le, Bool.not_eq_true', Bool.not_eq_false', beq_iff_eq, beq_eq_false_iff_ne, ne_eq] at h27)
        refine .back [.r [(0, X (Xn ((i2 : Int) + 1)))]] [(104, 104)] (ih16 ((i2 + 1) : Nat) ?_ ?_)
        ·
         show _ ≤ _; omega
        ·
         ((try dsimp only); omega)
    ·
     (try simp only [decide_eq_true_eq, decide_eq_false_iff_not, Int.not_lt, Int.not_le] at h16)
     exact .fin [.r []] []
end Go.Ch
end
section
set_option linter.unusedVariables false
set_option linter.unusedSimpArgs false
namespace Go.Proofs.Ytbdbibmbfmlobaa.frame
open Go Go.Proofs
def chs (l : List Nat) : List Char := l.map Char.ofNat
def w1 : List Char := chs [104, 97, 114, 110, 101, 115, 115]
def w2 : List Char := chs [102, 99, 57, 53, 99, 99, 54, 48, 52, 99, 55, 51, 55, 49, 100, 51, 97, 56, 102, 99, 55, 97, 51, 57, 52, 52, 50, 100, 100, 57, 102, 97, 97, 99, 52, 99, 99, 102, 50, 53, 100, 98, 52, 98, 52, 52, 50, 100, 56, 50, 102, 102, 97, 49, 97, 50, 48, 51, 57, 48, 102, 97, 101, 102]
def w3 : List Char := chs [99, 117, 116]
def sp : Char := Char.ofNat 32
theorem ws_sp (r : List Char) : wordsSigns (sp :: r) = [] :: wordsSigns r := rfl
theorem ws_c (c : Char) (r : List Char) (h : c ≠ sp) : wordsSigns (c :: r) = match wordsSigns r with
    | w :: ws => (c :: w) :: ws
    | [] => [[c]] := by
  rw [wordsSigns.eq_def]
  split
  · rename_i e; cases e
  · rename_i e; simp only [List.cons.injEq] at e; exact absurd e.1 h
  · rename_i e; simp only [List.cons.injEq] at e; obtain ⟨rfl, rfl⟩ := e; rfl
theorem ws_app : ∀ (a : List Char), (a.all fun c => c != sp) = true → ∀ r, wordsSigns (a ++ sp :: r) = a :: wordsSigns r
  | [], _, r => ws_sp r
  | c :: a, h, r => by
    simp only [List.all_cons, Bool.and_eq_true, bne_iff_ne] at h
    rw [List.cons_append, ws_c _ _ h.1, ws_app a h.2 r]
theorem tl (l : List Char) : (String.ofList l).toList = l := String.toList_ofList
theorem k1 : ("harness" : String).toList = w1 := tl w1
theorem k2 : ("cut" : String).toList = w3 := tl w3
theorem k3 : ("gc" : String).toList = chs [103, 99] := tl (chs [103, 99])
theorem k4 : ("spec" : String).toList = chs [115, 112, 101, 99] := tl (chs [115, 112, 101, 99])
theorem k5 : ("carried" : String).toList = chs [99, 97, 114, 114, 105, 101, 100] := tl (chs [99, 97, 114, 114, 105, 101, 100])
theorem lifts (r : List (List Char)) : stripLifts liftWords (w3 :: r) = ([], w3 :: r) := by
  unfold liftWords
  simp only [stripLifts]
  have key : ∀ l : List Nat, (w3 == chs l) = false → ∀ (s : String), s = String.ofList (chs l) → (w3 == s.toList) = false := fun l h s e => by rw [e, tl]; exact h
  rw [if_neg (by rw [key [102, 105, 110, 97, 108, 115] (by kernel_rfl) "finals" rfl]; decide)]
  rw [if_neg (by rw [key [114, 101, 102, 108, 101, 99, 116, 114, 111, 119, 115] (by kernel_rfl) "reflectrows" rfl]; decide)]
  rw [if_neg (by rw [key [108, 101, 97, 110, 114, 111, 119, 115] (by kernel_rfl) "leanrows" rfl]; decide)]
  rw [if_neg (by rw [key [111, 110, 101, 98, 117, 105, 108, 100] (by kernel_rfl) "onebuild" rfl]; decide)]
  rw [if_neg (by rw [key [112, 117, 98, 108, 105, 99, 115, 117, 109, 115] (by kernel_rfl) "publicsums" rfl]; decide)]
  rw [if_neg (by rw [key [101, 113, 103, 117, 97, 114, 100] (by kernel_rfl) "eqguard" rfl]; decide)]
  rw [if_neg (by rw [key [111, 119, 110, 117, 110, 115, 97, 102, 101] (by kernel_rfl) "ownunsafe" rfl]; decide)]
  rw [if_neg (by rw [key [108, 105, 98, 98, 101, 115, 105, 100, 101] (by kernel_rfl) "libbeside" rfl]; decide)]
  rw [if_neg (by rw [key [111, 119, 110, 98, 101, 115, 105, 100, 101] (by kernel_rfl) "ownbeside" rfl]; decide)]
  rw [if_neg (by rw [key [114, 101, 102, 108, 98, 101, 115, 105, 100, 101] (by kernel_rfl) "reflbeside" rfl]; decide)]
  rw [if_neg (by rw [key [97, 108, 105, 97, 115, 101, 115] (by kernel_rfl) "aliases" rfl]; decide)]
  rw [if_neg (by rw [key [97, 102, 116, 101, 114, 105, 110, 105, 116] (by kernel_rfl) "afterinit" rfl]; decide)]
  rw [if_neg (by rw [key [99, 114, 99, 112, 108, 97, 105, 110] (by kernel_rfl) "crcplain" rfl]; decide)]
  rw [if_neg (by rw [key [114, 111, 97, 100, 117, 110, 115, 97, 102, 101] (by kernel_rfl) "roadunsafe" rfl]; decide)]
  rw [if_neg (by rw [key [102, 109, 116, 104, 97, 110, 100, 111, 110] (by kernel_rfl) "fmthandon" rfl]; decide)]
theorem words {P : Program} {rest : List Char} (h : P.initOrder.toList = w1 ++ sp :: (w2 ++ sp :: (w3 ++ sp :: rest))) : behindMainWord (wordsSigns P.initOrder.toList) = w3 :: wordsSigns rest := by
  rw [h, ws_app w1 (by kernel_rfl), ws_app w2 (by kernel_rfl), ws_app w3 (by kernel_rfl)]
  unfold behindMainWord
  rw [k1]
  exact if_pos (by kernel_rfl)
theorem may {P : Program} {rest : List Char} (h : P.initOrder.toList = w1 ++ sp :: (w2 ++ sp :: (w3 ++ sp :: rest))) (hl : P.laysLater = false) (hb : P.bearsReflect = false) (hd : P.doorFits [] = true) : P.mayEnter = true := by
  unfold Program.mayEnter
  rw [words h]
  simp only [lifts, k2, k3, k4, k5, hl, hb, hd]
  have h1 : (w3 == chs [103, 99]) = false := by kernel_rfl
  have h2 : (w3 == chs [115, 112, 101, 99]) = false := by kernel_rfl
  have h3 : (w3 == chs [99, 97, 114, 114, 105, 101, 100]) = false := by kernel_rfl
  rw [h1, h2, h3]
  simp
theorem fin {P : Program} {rest : List Char} (h : P.initOrder.toList = w1 ++ sp :: (w2 ++ sp :: (w3 ++ sp :: rest))) : P.liftsFinal = false := by
  unfold Program.liftsFinal Program.headLifts
  rw [words h]
  simp only [lifts, k2, k5]
  have h3 : (w3 == chs [99, 97, 114, 114, 105, 101, 100]) = false := by kernel_rfl
  simp [h3]
theorem mk {P : Program} {rest : List Char} (h : P.initOrder.toList = w1 ++ sp :: (w2 ++ sp :: (w3 ++ sp :: rest))) : P.make = some .cut := by
  unfold Program.make
  rw [words h]
  simp only [k2, k3, k4, k5]
  have h1 : (w3 == chs [103, 99]) = false := by kernel_rfl
  have h2 : (w3 == chs [115, 112, 101, 99]) = false := by kernel_rfl
  rw [h1, h2]
  simp
theorem head : Try.pinned.checked.prog.initOrder = String.ofList (w1 ++ sp :: (w2 ++ sp :: (w3 ++ sp :: chs [97, 116, 32, 99, 104, 97, 110, 99, 101, 114, 121, 47, 99, 104, 97, 110, 99, 101, 114, 121, 107, 101, 101, 112, 49, 46, 83, 112, 97, 110, 83, 105, 122, 101, 115, 65, 100, 100, 32, 99, 104, 97, 110, 99, 101, 114, 121, 47, 99, 104, 97, 110, 99, 101, 114, 121, 107, 101, 101, 112, 49, 46, 65, 116, 116, 114, 85, 110, 100, 111, 82, 101, 115, 116, 111, 114, 101, 115, 32, 99, 104, 97, 110, 99, 101, 114, 121, 47, 99, 104, 97, 110, 99, 101, 114, 121, 107, 101, 101, 112, 49, 46, 65, 116, 116, 114, 66, 101, 116, 119, 101, 101, 110, 76, 101, 97, 100, 115, 32, 99, 104, 97, 110, 99, 101, 114, 121, 47, 99, 104, 97, 110, 99, 101, 114, 121, 107, 101, 101, 112, 49, 46, 65, 116, 116, 114, 80, 97, 105, 114, 77, 101, 101, 116, 115, 32, 99, 104, 97, 110, 99, 101, 114, 121, 47, 99, 104, 97, 110, 99, 101, 114, 121, 107, 101, 101, 112, 49, 46, 65, 120, 105, 115, 74, 111, 105, 110, 65, 115, 115, 111, 99, 105, 97, 116, 101, 115, 32, 99, 104, 97, 110, 99, 101, 114, 121, 47, 99, 104, 97, 110, 99, 101, 114, 121, 107, 101, 101, 112, 49, 46, 65, 120, 105, 115, 80, 97, 105, 114, 77, 101, 101, 116, 115, 32, 99, 104, 97, 110, 99, 101, 114, 121, 47, 99, 104, 97, 110, 99, 101, 114, 121, 107, 101, 101, 112, 49, 46, 65, 120, 105, 115, 80, 108, 97, 99, 101, 115, 75, 101, 101, 112, 79, 114, 100, 101, 114, 32, 99, 104, 97, 110, 99, 101, 114, 121, 47, 99, 104, 97, 110, 99, 101, 114, 121, 107, 101, 101, 112, 49, 46, 68, 101, 108, 116, 97, 84, 105, 100, 121, 65, 99, 116, 115, 32, 99, 104, 97, 110, 99, 101, 114, 121, 47, 99, 104, 97, 110, 99, 101, 114, 121, 107, 101, 101, 112, 49, 46, 68, 101, 108, 116, 97, 85, 110, 100, 111, 82, 101, 115, 116, 111, 114, 101, 115, 32, 99, 104, 97, 110, 99, 101, 114, 121, 47, 99, 104, 97, 110, 99, 101, 114, 121, 107, 101, 101, 112, 49, 46, 68, 101, 108, 116, 97, 74, 111, 105, 110, 65, 99, 116, 115, 32, 99, 104, 97, 110, 99, 101, 114, 121, 47, 99, 104, 97, 110, 99, 101, 114, 121, 107, 101, 101, 112, 49, 46, 68, 101, 108, 116, 97, 80, 97, 105, 114, 77, 101, 101, 116, 115, 32, 99, 104, 97, 110, 99, 101, 114, 121, 47, 99, 104, 97, 110, 99, 101, 114, 121, 107, 101, 101, 112, 49, 46, 68, 105, 102, 102, 66, 111, 116, 104, 87, 97, 121, 115, 32, 99, 104, 97, 110, 99, 101, 114, 121, 47, 99, 104, 97, 110, 99, 101, 114, 121, 107, 101, 101, 112, 49, 46, 84, 114, 97, 99, 107, 65, 99, 99, 101, 112, 116, 83, 104, 111, 119, 115, 32, 99, 104, 97, 110, 99, 101, 114, 121, 47, 99, 104, 97, 110, 99, 101, 114, 121, 107, 101, 101, 112, 49, 46, 83, 112, 97, 110, 84, 104, 114, 111, 117, 103, 104, 67, 111, 110, 116, 97, 105, 110, 115, 32, 99, 104, 97, 110, 99, 101, 114, 121, 47, 99, 104, 97, 110, 99, 101, 114, 121, 107, 101, 101, 112, 49, 46, 77, 101, 114, 103, 101, 79, 110, 101, 83, 105, 100, 101, 100, 32, 99, 104, 97, 110, 99, 101, 114, 121, 47, 99, 104, 97, 110, 99, 101, 114, 121, 107, 101, 101, 112, 49, 46, 77, 101, 114, 103, 101, 69, 120, 99, 104, 97, 110, 103, 101, 100, 32, 99, 104, 97, 110, 99, 101, 114, 121, 47, 99, 104, 97, 110, 99, 101, 114, 121, 107, 101, 101, 112, 49, 46, 68, 101, 108, 116, 97, 65, 120, 105, 115, 65, 103, 114, 101, 101, 115]))) := by kernel_rfl
set_option maxRecDepth 100000 in
theorem headL : Try.pinned.checked.prog.initOrder.toList = w1 ++ sp :: (w2 ++ sp :: (w3 ++ sp :: chs [97, 116, 32, 99, 104, 97, 110, 99, 101, 114, 121, 47, 99, 104, 97, 110, 99, 101, 114, 121, 107, 101, 101, 112, 49, 46, 83, 112, 97, 110, 83, 105, 122, 101, 115, 65, 100, 100, 32, 99, 104, 97, 110, 99, 101, 114, 121, 47, 99, 104, 97, 110, 99, 101, 114, 121, 107, 101, 101, 112, 49, 46, 65, 116, 116, 114, 85, 110, 100, 111, 82, 101, 115, 116, 111, 114, 101, 115, 32, 99, 104, 97, 110, 99, 101, 114, 121, 47, 99, 104, 97, 110, 99, 101, 114, 121, 107, 101, 101, 112, 49, 46, 65, 116, 116, 114, 66, 101, 116, 119, 101, 101, 110, 76, 101, 97, 100, 115, 32, 99, 104, 97, 110, 99, 101, 114, 121, 47, 99, 104, 97, 110, 99, 101, 114, 121, 107, 101, 101, 112, 49, 46, 65, 116, 116, 114, 80, 97, 105, 114, 77, 101, 101, 116, 115, 32, 99, 104, 97, 110, 99, 101, 114, 121, 47, 99, 104, 97, 110, 99, 101, 114, 121, 107, 101, 101, 112, 49, 46, 65, 120, 105, 115, 74, 111, 105, 110, 65, 115, 115, 111, 99, 105, 97, 116, 101, 115, 32, 99, 104, 97, 110, 99, 101, 114, 121, 47, 99, 104, 97, 110, 99, 101, 114, 121, 107, 101, 101, 112, 49, 46, 65, 120, 105, 115, 80, 97, 105, 114, 77, 101, 101, 116, 115, 32, 99, 104, 97, 110, 99, 101, 114, 121, 47, 99, 104, 97, 110, 99, 101, 114, 121, 107, 101, 101, 112, 49, 46, 65, 120, 105, 115, 80, 108, 97, 99, 101, 115, 75, 101, 101, 112, 79, 114, 100, 101, 114, 32, 99, 104, 97, 110, 99, 101, 114, 121, 47, 99, 104, 97, 110, 99, 101, 114, 121, 107, 101, 101, 112, 49, 46, 68, 101, 108, 116, 97, 84, 105, 100, 121, 65, 99, 116, 115, 32, 99, 104, 97, 110, 99, 101, 114, 121, 47, 99, 104, 97, 110, 99, 101, 114, 121, 107, 101, 101, 112, 49, 46, 68, 101, 108, 116, 97, 85, 110, 100, 111, 82, 101, 115, 116, 111, 114, 101, 115, 32, 99, 104, 97, 110, 99, 101, 114, 121, 47, 99, 104, 97, 110, 99, 101, 114, 121, 107, 101, 101, 112, 49, 46, 68, 101, 108, 116, 97, 74, 111, 105, 110, 65, 99, 116, 115, 32, 99, 104, 97, 110, 99, 101, 114, 121, 47, 99, 104, 97, 110, 99, 101, 114, 121, 107, 101, 101, 112, 49, 46, 68, 101, 108, 116, 97, 80, 97, 105, 114, 77, 101, 101, 116, 115, 32, 99, 104, 97, 110, 99, 101, 114, 121, 47, 99, 104, 97, 110, 99, 101, 114, 121, 107, 101, 101, 112, 49, 46, 68, 105, 102, 102, 66, 111, 116, 104, 87, 97, 121, 115, 32, 99, 104, 97, 110, 99, 101, 114, 121, 47, 99, 104, 97, 110, 99, 101, 114, 121, 107, 101, 101, 112, 49, 46, 84, 114, 97, 99, 107, 65, 99, 99, 101, 112, 116, 83, 104, 111, 119, 115, 32, 99, 104, 97, 110, 99, 101, 114, 121, 47, 99, 104, 97, 110, 99, 101, 114, 121, 107, 101, 101, 112, 49, 46, 83, 112, 97, 110, 84, 104, 114, 111, 117, 103, 104, 67, 111, 110, 116, 97, 105, 110, 115, 32, 99, 104, 97, 110, 99, 101, 114, 121, 47, 99, 104, 97, 110, 99, 101, 114, 121, 107, 101, 101, 112, 49, 46, 77, 101, 114, 103, 101, 79, 110, 101, 83, 105, 100, 101, 100, 32, 99, 104, 97, 110, 99, 101, 114, 121, 47, 99, 104, 97, 110, 99, 101, 114, 121, 107, 101, 101, 112, 49, 46, 77, 101, 114, 103, 101, 69, 120, 99, 104, 97, 110, 103, 101, 100, 32, 99, 104, 97, 110, 99, 101, 114, 121, 47, 99, 104, 97, 110, 99, 101, 114, 121, 107, 101, 101, 112, 49, 46, 68, 101, 108, 116, 97, 65, 120, 105, 115, 65, 103, 114, 101, 101, 115])) := by rw [head, tl]
theorem later : Try.pinned.checked.prog.laysLater = false := by kernel_rfl
theorem refl : Try.pinned.checked.prog.bearsReflect = false := by kernel_rfl
theorem door : Try.pinned.checked.prog.doorFits [] = true := by kernel_rfl
theorem mayEnter : Try.pinned.checked.prog.mayEnter = true := may headL later refl door
theorem made : Try.pinned.checked.prog.make = some .cut := mk headL
theorem laid : laidOutB Try.pinned.checked.prog = true := by kernel_rfl
theorem rowed : mapsRowed Try.pinned.checked.prog = true := by kernel_rfl
theorem noStops : Try.pinned.checked.prog.stops = [] := by kernel_rfl
theorem noKnobs : Try.pinned.checked.prog.stopKnobs = [] := by kernel_rfl
theorem heard : Try.pinned.checked.prog.stopsHeard = true := by kernel_rfl
theorem keys : Try.pinned.checked.prog.plainKeys = true := by kernel_rfl
theorem liftsNo : Try.pinned.checked.prog.liftsFinal = false := fin headL
end Go.Proofs.Ytbdbibmbfmlobaa.frame
end
