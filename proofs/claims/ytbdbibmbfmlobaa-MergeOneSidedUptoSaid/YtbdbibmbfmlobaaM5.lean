/- Parts of the proof: ChFlow2, ChDelta, ChDelta2, ChDelta3, DeltaWrite, ChDelta4, DeltaFold, DeltaUndo, ChDelta5, DeltaAct, ChDelta6, AxisPlain, AxisSteps, AxisRead, ChAxis, DeltaChange, ChDelta7, DeltaLaws, DeltaJoin, DeltaPair, ChDelta9, ChDelta10, DeltaRead, DeltaRuns, DeltaJD, DeltaJF, DeltaPD, DeltaTidy, DeltaTB, DeltaTL, AttrPut. -/
import Derived.Test.YtbdbibmbfmlobaaM1
import Derived.Test.YtbdbibmbfmlobaaM2
import Derived.Test.YtbdbibmbfmlobaaM3
import Derived.Test.YtbdbibmbfmlobaaM4
import Derived.Test.YtbdbibmbfmlobaaProg
section
set_option linter.unusedVariables false
set_option linter.unusedSimpArgs false
set_option maxRecDepth 100000
set_option maxHeartbeats 4000000
open Go Go.Proofs Go.Ab
namespace Go.Ch
theorem set_fill {α : Type} [Inhabited α] {l : List α} {i n : Nat} {z x : α} (hn : n = l.length) (hi : i < n) (hx : x = l.getD i default) : (l.take i ++ List.replicate (n - i) z).set i x = l.take (i + 1) ++ List.replicate (n - (i + 1)) z := by
  subst hn
  have h1 : (l.take i).length = i := by simp; omega
  rw [List.set_append, if_neg (by omega), h1, Nat.sub_self, show l.length - i = (l.length - (i + 1)) + 1 by omega, List.replicate_succ, List.set_cons_zero, List.take_succ_eq_append_getElem hi, hx, List.append_assoc]
  simp only [List.getD, List.getElem?_eq_getElem hi, Option.getD_some]
  rfl

theorem fc_copy (l : List Elem) (hn : l.length ≤ 1000000000000) (hs : AN 400000000000 l) : FC Try.prog 137 [VL 3 elemT l] (app emp []) (VL 3 elemT l) (app emp []) := by
 refine .go Try.f137 ?_
 refine .len 0 (fun hl0 => ?_)
 refine .loop (α := Nat × (List Elem)) [.r [], .r [(1, X (Xl elemT l)), (2, X (Xmz 3 elemT 24 (l.length : Int) (l.length : Int) ({ char := 0, ref := 0, attrs := [] } : Elem) [TI 0, TI 0, TN] ⟨.inl rfl, ⟨.inl rfl, ⟨tw_nil (by decide), trivial⟩⟩⟩))], .r [(1, X (Xl elemT l))]] 64 (fun (i, o) => ([(3, .row 24 l.length), (9, VL 3 elemT l), (10, VI (l.length : Int)), (11, VI (i : Int))], [(24, OR 3 elemT o)])) (fun (i, o) => i ≤ l.length ∧ o = l.take i ++ List.replicate (l.length - i) ({ char := 0, ref := 0, attrs := [] } : Elem)) (fun (i, o) => l.length - i) (0, (List.replicate l.length ({ char := 0, ref := 0, attrs := [] } : Elem))) ?_ ?_
 ·
  exact ⟨by omega, by simp⟩
 rintro ⟨i, o⟩ I3 ih3
 try dsimp only at I3
 have ol : o.length = l.length := by rw [I3.2]; simp; omega
 refine .br [.r []] (decide ((i : Int) < (l.length : Int))) (fun h3 => ?_) (fun h3 => ?_)
 ·
  (try simp only [decide_eq_true_eq, decide_eq_false_iff_not, Int.not_lt, Int.not_le] at h3)
  have hx := hs _ (getDE_mem (l := l) (k := i) (by omega))
  refine .back [.r [(1, X (Xi elemT l (i : Int)))], .r [(8, X (Xan attrT 184 (((l.getD i default)).attrs))), (10, X (Xpn l.length elemT o (i : Int))), (11, X (rowC attrT (((l.getD i default)).attrs) (Xsn l.length 3 elemT 24 o i ((l.getD i default)) [(184, OF 2 attrT (((l.getD i default)).attrs))])))], .r [(0, X (Xn ((i : Int) + 1)))]] [(24, 24)] (ih3 ((i + 1), (o.set i ((l.getD i default)))) ?_ ?_)
  ·
   refine ⟨by omega, ?_⟩
   rw [I3.2]
   exact set_fill rfl (by omega) rfl
  ·
   ((try dsimp only); omega)
 ·
  (try simp only [decide_eq_true_eq, decide_eq_false_iff_not, Int.not_lt, Int.not_le] at h3)
  have e1 : (l : List Elem) = o := by
   rw [I3.2, List.take_of_length_le (by omega), show l.length - i = 0 by omega]; simp
  exact .finE [.r [], .le (.fr 2 [(l.length : Nat) = (List.map elemT o).length] ⟨lm, trivial⟩)] [] (fun z0 => (VL 3 elemT z0, [])) (o : List Elem) (l : List Elem) e1

def ltr (s : ByteArray) (i : Nat) : Elem := ⟨(byt s i : Int), 0, []⟩
def lettersL (s : ByteArray) : List Elem := (List.range s.size).map (ltr s)

theorem fc_letters (s : ByteArray) (hs : s.size ≤ 1000000000) : FC Try.prog 98 [VS s] (app emp []) (VL 3 elemT (lettersL s)) (app emp []) := by
 refine .go Try.f98 ?_
 refine .loop (α := Nat × (List Elem)) [.r [], .r [], .r [], .le (.nR 3 3)] 41 (fun (i, o) => ([(0, VS s), (3, .row 40 o.length), (6, VI (s.size : Int)), (7, VI (i : Int))], [(40, OR 3 elemT o)])) (fun (i, o) => i ≤ s.size ∧ o = (List.range i).map (ltr s)) (fun (i, o) => s.size - i) (0, []) ?_ ?_
 ·
  exact ⟨by omega, rfl⟩
 rintro ⟨i, o⟩ I3 ih3
 try dsimp only at I3
 have ol : o.length = i := by rw [I3.2]; simp
 refine .br [.r []] (decide ((i : Int) < (s.size : Int))) (fun h3 => ?_) (fun h3 => ?_)
 ·
  (try simp only [decide_eq_true_eq, decide_eq_false_iff_not, Int.not_lt, Int.not_le] at h3)
  refine .back [.r [], .r [(3, X (Xb s (i : Int))), (4, X (Xn ((((s[i]?).getD 0).toNat : Nat) : Int)) (by have := UInt8.toNat_lt ((s[i]?).getD 0); omega)), (5, X (Xf [(2, 2)])), (7, X (rowC elemT [({ char := ((((s[i]?).getD 0).toNat : Nat) : Int), ref := 0, attrs := [] } : Elem)] (Xap 3 elemT 40 o [({ char := ((((s[i]?).getD 0).toNat : Nat) : Int), ref := 0, attrs := [] } : Elem)])))], .r [(0, X (Xn ((i : Int) + 1)))]] [(40, 40)] (ih3 ((i + 1), (o ++ [({ char := ((((s[i]?).getD 0).toNat : Nat) : Int), ref := 0, attrs := [] } : Elem)])) ?_ ?_)
  ·
   refine ⟨by omega, ?_⟩
   rw [I3.2, List.range_succ, List.map_append]
   rfl
  ·
   ((try dsimp only); omega)
 ·
  (try simp only [decide_eq_true_eq, decide_eq_false_iff_not, Int.not_lt, Int.not_le] at h3)
  have e1 : ((lettersL s) : List Elem) = o := by
   rw [I3.2, show i = s.size by omega]; rfl
  exact .finE [.r [], .le (.fr 2 [(o.length : Nat) = (List.map elemT o).length] ⟨lm, trivial⟩)] [] (fun z0 => (VL 3 elemT z0, [])) (o : List Elem) ((lettersL s) : List Elem) e1

end Go.Ch
end
section
set_option linter.unusedVariables false
set_option linter.unusedSimpArgs false
set_option maxRecDepth 100000
set_option maxHeartbeats 4000000
open Go Go.Proofs Go.Ab
namespace Go.Ch
theorem fc_step (x : DStep) : FC Try.prog 102 [.t (dstepT x)] (app emp []) (VI (stepD x)) (app emp []) := by
 refine .go Try.f102 ?_
 refine .br [.r [], .r [], .r []] (x.kind == 0) (fun h2 => ?_) (fun h2 => ?_)
 ·
  (try simp only [beq_iff_eq, beq_eq_false_iff_ne, ne_eq] at h2)
  refine .br [] (x.kind == 0) (fun h2 => ?_) (fun h2 => ?_)
  ·
   (try simp only [beq_iff_eq, beq_eq_false_iff_ne, ne_eq] at h2)
   refine .br [.r [(2, X (Xl elemT x.elems)), (6, Xv 1 (!(decide ((x.elems.length : Int) > 0))) X0), (7, Xv 1 (!(decide ((x.elems.length : Int) > 0))) X0), (8, Xv 1 (!(decide ((x.elems.length : Int) > 0))) X0), (10, Xv 1 ((!(decide ((x.elems.length : Int) > 0))) && (x.kind == 2)) X0), (11, Xv 1 ((!(decide ((x.elems.length : Int) > 0))) && (x.kind == 2)) (Xl attrT x.attrs)), (12, Xv 1 ((!(decide ((x.elems.length : Int) > 0))) && (x.kind == 2)) X0), (13, Xka (!(decide ((x.elems.length : Int) > 0))) (x.kind == 2)), (14, X (Xk' (decide ((x.elems.length : Int) > 0))))]] (decide ((x.elems.length : Int) > 0) || ((x.kind == 2) && decide ((x.attrs.length : Int) > 0))) (fun h4 => ?_) (fun h4 => ?_)
   ·
    (try simp only [decide_eq_true_eq, decide_eq_false_iff_not, Int.not_lt, Int.not_le, gt_iff_lt, Bool.and_eq_true, Bool.and_eq_false_iff, Bool.not_eq_true', Bool.not_eq_false', Bool.or_eq_true, Bool.or_eq_false_iff, beq_iff_eq, beq_eq_false_iff_ne, ne_eq] at h4)
    have e1 : ((stepD x) : Int) = 4 := by
     unfold stepD; ((repeat' split) <;> first | rfl | omega | (simp_all; done) | (simp_all; omega))
    exact .finE [.r []] [] (fun z0 => (VI z0, [])) (4 : Int) ((stepD x) : Int) e1
   ·
    (try simp only [decide_eq_true_eq, decide_eq_false_iff_not, Int.not_lt, Int.not_le, gt_iff_lt, Bool.and_eq_true, Bool.and_eq_false_iff, Bool.not_eq_true', Bool.not_eq_false', Bool.or_eq_true, Bool.or_eq_false_iff, beq_iff_eq, beq_eq_false_iff_ne, ne_eq] at h4)
    refine .br [.r [(5, Xv 1 (!(decide (x.n < 1))) X0), (6, Xv 1 (!(decide (x.n < 1))) X0), (7, X (Xk' (decide (x.n < 1))))]] (decide (x.n < 1) || decide (x.n > 2147483647)) (fun h6 => ?_) (fun h6 => ?_)
    ·
     (try simp only [decide_eq_true_eq, decide_eq_false_iff_not, Int.not_lt, Int.not_le, gt_iff_lt, Bool.or_eq_true, Bool.or_eq_false_iff] at h6)
     have e2 : ((stepD x) : Int) = 2 := by
      unfold stepD; ((repeat' split) <;> first | rfl | omega | (simp_all; done) | (simp_all; omega))
     exact .finE [.r []] [] (fun z0 => (VI z0, [])) (2 : Int) ((stepD x) : Int) e2
    ·
     (try simp only [decide_eq_true_eq, decide_eq_false_iff_not, Int.not_lt, Int.not_le, gt_iff_lt, Bool.or_eq_true, Bool.or_eq_false_iff] at h6)
     have e3 : ((stepD x) : Int) = (chkA true x.attrs 0) := by
      unfold stepD; ((repeat' split) <;> first | rfl | omega | (simp_all; done) | (simp_all; omega))
     exact .finE [.r [(2, X (Xc0 (fc_acheckChange x.attrs) X0))]] [] (fun z0 => (VI z0, [])) ((chkA true x.attrs 0) : Int) ((stepD x) : Int) e3
  ·
   (try simp only [beq_iff_eq, beq_eq_false_iff_ne, ne_eq] at h2)
   refine .br [.r []] (x.kind == 1) (fun h9 => ?_) (fun h9 => ?_)
   ·
    (try simp only [beq_iff_eq, beq_eq_false_iff_ne, ne_eq] at h9)
    refine .br [.r [(5, Xv 1 (!(x.n != 0)) X0), (6, Xv 1 (!(x.n != 0)) (Xl attrT x.attrs)), (7, Xv 1 (!(x.n != 0)) X0), (8, X (Xk' (x.n != 0)))]] ((x.n != 0) || decide ((x.attrs.length : Int) > 0)) (fun h10 => ?_) (fun h10 => ?_)
    ·
     (try simp only [decide_eq_true_eq, decide_eq_false_iff_not, Int.not_lt, Int.not_le, gt_iff_lt, Bool.or_eq_true, Bool.or_eq_false_iff, bne_iff_ne, bne_eq_false_iff_eq, ne_eq] at h10)
     have e4 : ((stepD x) : Int) = 4 := by
      unfold stepD; ((repeat' split) <;> first | rfl | omega | (simp_all; done) | (simp_all; omega))
     exact .finE [.r []] [] (fun z0 => (VI z0, [])) (4 : Int) ((stepD x) : Int) e4
    ·
     (try simp only [decide_eq_true_eq, decide_eq_false_iff_not, Int.not_lt, Int.not_le, gt_iff_lt, Bool.or_eq_true, Bool.or_eq_false_iff, bne_iff_ne, bne_eq_false_iff_eq, ne_eq] at h10)
     refine .br [.r [(2, X (Xl elemT x.elems))]] ((x.elems.length : Int) == 0) (fun h12 => ?_) (fun h12 => ?_)
     ·
      (try simp only [beq_iff_eq, beq_eq_false_iff_ne, ne_eq] at h12)
      have e5 : ((stepD x) : Int) = 11 := by
       unfold stepD; ((repeat' split) <;> first | rfl | omega | (simp_all; done) | (simp_all; omega))
      exact .finE [.r []] [] (fun z0 => (VI z0, [])) (11 : Int) ((stepD x) : Int) e5
     ·
      (try simp only [beq_iff_eq, beq_eq_false_iff_ne, ne_eq] at h12)
      have e6 : ((stepD x) : Int) = (partE x.elems 0) := by
       unfold stepD; ((repeat' split) <;> first | rfl | omega | (simp_all; done) | (simp_all; omega))
      exact .finE [.r [(2, X (Xc0 (fc_checkPart x.elems) X0))]] [] (fun z0 => (VI z0, [])) ((partE x.elems 0) : Int) ((stepD x) : Int) e6
   ·
    (try simp only [beq_iff_eq, beq_eq_false_iff_ne, ne_eq] at h9)
    have e7 : ((stepD x) : Int) = 8 := by
     unfold stepD; ((repeat' split) <;> first | rfl | omega | (simp_all; done) | (simp_all; omega))
    exact .finE [.r []] [] (fun z0 => (VI z0, [])) (8 : Int) ((stepD x) : Int) e7
 ·
  (try simp only [beq_iff_eq, beq_eq_false_iff_ne, ne_eq] at h2)
  refine .br [.r []] (x.kind == 2) (fun h3 => ?_) (fun h3 => ?_)
  ·
   (try simp only [beq_iff_eq, beq_eq_false_iff_ne, ne_eq] at h3)
   refine .br [.r [(2, X (Xl elemT x.elems)), (6, Xv 1 (!(decide ((x.elems.length : Int) > 0))) X0), (7, Xv 1 (!(decide ((x.elems.length : Int) > 0))) X0), (8, Xv 1 (!(decide ((x.elems.length : Int) > 0))) X0), (10, Xv 1 ((!(decide ((x.elems.length : Int) > 0))) && (x.kind == 2)) X0), (11, Xv 1 ((!(decide ((x.elems.length : Int) > 0))) && (x.kind == 2)) (Xl attrT x.attrs)), (12, Xv 1 ((!(decide ((x.elems.length : Int) > 0))) && (x.kind == 2)) X0), (13, Xka (!(decide ((x.elems.length : Int) > 0))) (x.kind == 2)), (14, X (Xk' (decide ((x.elems.length : Int) > 0))))]] (decide ((x.elems.length : Int) > 0) || ((x.kind == 2) && decide ((x.attrs.length : Int) > 0))) (fun h4 => ?_) (fun h4 => ?_)
   ·
    (try simp only [decide_eq_true_eq, decide_eq_false_iff_not, Int.not_lt, Int.not_le, gt_iff_lt, Bool.and_eq_true, Bool.and_eq_false_iff, Bool.not_eq_true', Bool.not_eq_false', Bool.or_eq_true, Bool.or_eq_false_iff, beq_iff_eq, beq_eq_false_iff_ne, ne_eq] at h4)
    have e8 : ((stepD x) : Int) = 4 := by
     unfold stepD; ((repeat' split) <;> first | rfl | omega | (simp_all; done) | (simp_all; omega))
    exact .finE [.r []] [] (fun z0 => (VI z0, [])) (4 : Int) ((stepD x) : Int) e8
   ·
    (try simp only [decide_eq_true_eq, decide_eq_false_iff_not, Int.not_lt, Int.not_le, gt_iff_lt, Bool.and_eq_true, Bool.and_eq_false_iff, Bool.not_eq_true', Bool.not_eq_false', Bool.or_eq_true, Bool.or_eq_false_iff, beq_iff_eq, beq_eq_false_iff_ne, ne_eq] at h4)
    refine .br [.r [(5, Xv 1 (!(decide (x.n < 1))) X0), (6, Xv 1 (!(decide (x.n < 1))) X0), (7, X (Xk' (decide (x.n < 1))))]] (decide (x.n < 1) || decide (x.n > 2147483647)) (fun h6 => ?_) (fun h6 => ?_)
    ·
     (try simp only [decide_eq_true_eq, decide_eq_false_iff_not, Int.not_lt, Int.not_le, gt_iff_lt, Bool.or_eq_true, Bool.or_eq_false_iff] at h6)
     have e9 : ((stepD x) : Int) = 2 := by
      unfold stepD; ((repeat' split) <;> first | rfl | omega | (simp_all; done) | (simp_all; omega))
     exact .finE [.r []] [] (fun z0 => (VI z0, [])) (2 : Int) ((stepD x) : Int) e9
    ·
     (try simp only [decide_eq_true_eq, decide_eq_false_iff_not, Int.not_lt, Int.not_le, gt_iff_lt, Bool.or_eq_true, Bool.or_eq_false_iff] at h6)
     have e10 : ((stepD x) : Int) = (chkA true x.attrs 0) := by
      unfold stepD; ((repeat' split) <;> first | rfl | omega | (simp_all; done) | (simp_all; omega))
     exact .finE [.r [(2, X (Xc0 (fc_acheckChange x.attrs) X0))]] [] (fun z0 => (VI z0, [])) ((chkA true x.attrs 0) : Int) ((stepD x) : Int) e10
  ·
   (try simp only [beq_iff_eq, beq_eq_false_iff_ne, ne_eq] at h3)
   refine .br [.r []] (x.kind == 1) (fun h9 => ?_) (fun h9 => ?_)
   ·
    (try simp only [beq_iff_eq, beq_eq_false_iff_ne, ne_eq] at h9)
    refine .br [.r [(5, Xv 1 (!(x.n != 0)) X0), (6, Xv 1 (!(x.n != 0)) (Xl attrT x.attrs)), (7, Xv 1 (!(x.n != 0)) X0), (8, X (Xk' (x.n != 0)))]] ((x.n != 0) || decide ((x.attrs.length : Int) > 0)) (fun h10 => ?_) (fun h10 => ?_)
    ·
     (try simp only [decide_eq_true_eq, decide_eq_false_iff_not, Int.not_lt, Int.not_le, gt_iff_lt, Bool.or_eq_true, Bool.or_eq_false_iff, bne_iff_ne, bne_eq_false_iff_eq, ne_eq] at h10)
     have e11 : ((stepD x) : Int) = 4 := by
      unfold stepD; ((repeat' split) <;> first | rfl | omega | (simp_all; done) | (simp_all; omega))
     exact .finE [.r []] [] (fun z0 => (VI z0, [])) (4 : Int) ((stepD x) : Int) e11
    ·
     (try simp only [decide_eq_true_eq, decide_eq_false_iff_not, Int.not_lt, Int.not_le, gt_iff_lt, Bool.or_eq_true, Bool.or_eq_false_iff, bne_iff_ne, bne_eq_false_iff_eq, ne_eq] at h10)
     refine .br [.r [(2, X (Xl elemT x.elems))]] ((x.elems.length : Int) == 0) (fun h12 => ?_) (fun h12 => ?_)
     ·
      (try simp only [beq_iff_eq, beq_eq_false_iff_ne, ne_eq] at h12)
      have e12 : ((stepD x) : Int) = 11 := by
       unfold stepD; ((repeat' split) <;> first | rfl | omega | (simp_all; done) | (simp_all; omega))
      exact .finE [.r []] [] (fun z0 => (VI z0, [])) (11 : Int) ((stepD x) : Int) e12
     ·
      (try simp only [beq_iff_eq, beq_eq_false_iff_ne, ne_eq] at h12)
      have e13 : ((stepD x) : Int) = (partE x.elems 0) := by
       unfold stepD; ((repeat' split) <;> first | rfl | omega | (simp_all; done) | (simp_all; omega))
      exact .finE [.r [(2, X (Xc0 (fc_checkPart x.elems) X0))]] [] (fun z0 => (VI z0, [])) ((partE x.elems 0) : Int) ((stepD x) : Int) e13
   ·
    (try simp only [beq_iff_eq, beq_eq_false_iff_ne, ne_eq] at h9)
    have e14 : ((stepD x) : Int) = 8 := by
     unfold stepD; ((repeat' split) <;> first | rfl | omega | (simp_all; done) | (simp_all; omega))
    exact .finE [.r []] [] (fun z0 => (VI z0, [])) (8 : Int) ((stepD x) : Int) e14

theorem fc_size (x : DStep) : FC Try.prog 125 [.t (dstepT x)] (app emp []) (VI (szD x)) (app emp []) := by
 refine .go Try.f125 ?_
 refine .br [.r [], .r []] (x.kind == 1) (fun h1 => ?_) (fun h1 => ?_)
 ·
  (try simp only [beq_iff_eq, beq_eq_false_iff_ne, ne_eq] at h1)
  have e1 : ((szD x) : Int) = (x.elems.length : Int) := by
   unfold szD; ((repeat' split) <;> first | rfl | omega | (simp_all; done) | (simp_all; omega))
  exact .finE [.r [(2, X (Xl elemT x.elems))]] [] (fun z0 => (VI z0, [])) ((x.elems.length : Int) : Int) ((szD x) : Int) e1
 ·
  (try simp only [beq_iff_eq, beq_eq_false_iff_ne, ne_eq] at h1)
  have e2 : ((szD x) : Int) = x.n := by
   unfold szD; ((repeat' split) <;> first | rfl | omega | (simp_all; done) | (simp_all; omega))
  exact .finE [.r []] [] (fun z0 => (VI z0, [])) (x.n : Int) ((szD x) : Int) e2

theorem fc_dCheck (l : List DStep) (hd : DN 400000000000 l) : FC Try.prog 109 [VL 4 dstepT l] (app emp []) (VI (checkD l)) (app emp []) := by
 refine .go Try.f109 ?_
 refine .len 0 (fun hl0 => ?_)
 refine .loop (α := Int × Int × Nat) [.r [], .r [], .r [(1, X (Xl dstepT l))]] 48 (fun (b, a, i) => ([(0, VL 4 dstepT l), (3, VI b), (4, VI a), (9, VL 4 dstepT l), (10, VI (l.length : Int)), (11, VI (i : Int))], [])) (fun (b, a, i) => i ≤ l.length ∧ 0 ≤ b ∧ b ≤ 2147483648 ∧ 0 ≤ a ∧ a ≤ 2147483648 ∧ checkD l = chkD l i b a) (fun (b, a, i) => l.length - i) (0, 0, 0) ?_ ?_
 ·
  exact ⟨by omega, by decide, by decide, by decide, by decide, rfl⟩
 rintro ⟨b, a, i⟩ I3 ih3
 try dsimp only at I3
 refine .br [.r []] (decide ((i : Int) < (l.length : Int))) (fun h3 => ?_) (fun h3 => ?_)
 ·
  (try simp only [decide_eq_true_eq, decide_eq_false_iff_not, Int.not_lt, Int.not_le] at h3)
  refine .br [.r [(1, X (Xi dstepT l (i : Int)))], .r [(1, X (Xc0 (fc_step ((l.getD i default))) X0))], .r []] ((stepD ((l.getD i default))) != 0) (fun h6 => ?_) (fun h6 => ?_)
  ·
   (try simp only [bne_iff_ne, bne_eq_false_iff_eq, ne_eq] at h6)
   have e1 : ((checkD l) : Int) = (stepD ((l.getD i default))) := by
    rw [I3.2.2.2.2.2, chkD]; ((repeat' split) <;> first | rfl | omega | (simp_all; done) | (simp_all; omega))
   exact .finE [.r []] [] (fun z0 => (VI z0, [])) ((stepD ((l.getD i default))) : Int) ((checkD l) : Int) e1
  ·
   (try simp only [bne_iff_ne, bne_eq_false_iff_eq, ne_eq] at h6)
   have hz := stepD_sz (s := l.getD i default) (by omega)
   obtain ⟨hx, _, _⟩ := hd.at_ (k := i) (by omega)
   refine .br [.r []] (decide ((i : Int) > 0)) (fun h8 => ?_) (fun h8 => ?_)
   ·
    (try simp only [decide_eq_true_eq, decide_eq_false_iff_not, Int.not_lt, Int.not_le, gt_iff_lt] at h8)
    refine .br [.r [(2, X (Xn ((i : Int) - 1))), (3, X (Xi' dstepT l ((i : Int) - 1) (i - 1)))], .r [(7, Xv 1 ((((l.getD (i - 1) default)).kind) == (((l.getD i default)).kind)) X0), (8, Xv 1 ((((l.getD (i - 1) default)).kind) == (((l.getD i default)).kind)) X0), (9, Xv 1 ((((l.getD (i - 1) default)).kind) == (((l.getD i default)).kind)) X0), (11, Xv 1 (((((l.getD (i - 1) default)).kind) == (((l.getD i default)).kind)) && !((((l.getD i default)).kind) != 0)) X0), (13, Xv 1 (((((l.getD (i - 1) default)).kind) == (((l.getD i default)).kind)) && !((((l.getD i default)).kind) != 0)) X0), (14, Xv 2 (((((l.getD (i - 1) default)).kind) == (((l.getD i default)).kind)) && !((((l.getD i default)).kind) != 0)) (Xc0 (fc_attrSame (((l.getD (i - 1) default)).attrs) (((l.getD i default)).attrs)) X0)), (15, Xko ((((l.getD (i - 1) default)).kind) == (((l.getD i default)).kind)) ((((l.getD i default)).kind) != 0)), (16, X (Xk ((((l.getD (i - 1) default)).kind) == (((l.getD i default)).kind)))), (19, Xv 1 (!(((((l.getD (i - 1) default)).kind) == (((l.getD i default)).kind)) && (((((l.getD i default)).kind) != 0) || (sameL (((l.getD (i - 1) default)).attrs) (((l.getD i default)).attrs))))) X0), (20, Xv 1 (!(((((l.getD (i - 1) default)).kind) == (((l.getD i default)).kind)) && (((((l.getD i default)).kind) != 0) || (sameL (((l.getD (i - 1) default)).attrs) (((l.getD i default)).attrs))))) X0), (21, Xv 1 (!(((((l.getD (i - 1) default)).kind) == (((l.getD i default)).kind)) && (((((l.getD i default)).kind) != 0) || (sameL (((l.getD (i - 1) default)).attrs) (((l.getD i default)).attrs))))) X0), (23, Xv 1 ((!(((((l.getD (i - 1) default)).kind) == (((l.getD i default)).kind)) && (((((l.getD i default)).kind) != 0) || (sameL (((l.getD (i - 1) default)).attrs) (((l.getD i default)).attrs))))) && ((((l.getD (i - 1) default)).kind) == 2)) X0), (24, Xv 1 ((!(((((l.getD (i - 1) default)).kind) == (((l.getD i default)).kind)) && (((((l.getD i default)).kind) != 0) || (sameL (((l.getD (i - 1) default)).attrs) (((l.getD i default)).attrs))))) && ((((l.getD (i - 1) default)).kind) == 2)) X0), (25, Xka (!(((((l.getD (i - 1) default)).kind) == (((l.getD i default)).kind)) && (((((l.getD i default)).kind) != 0) || (sameL (((l.getD (i - 1) default)).attrs) (((l.getD i default)).attrs))))) ((((l.getD (i - 1) default)).kind) == 2)), (26, X (Xk' (((((l.getD (i - 1) default)).kind) == (((l.getD i default)).kind)) && (((((l.getD i default)).kind) != 0) || (sameL (((l.getD (i - 1) default)).attrs) (((l.getD i default)).attrs))))))]] ((((((l.getD (i - 1) default)).kind) == (((l.getD i default)).kind)) && (((((l.getD i default)).kind) != 0) || (sameL (((l.getD (i - 1) default)).attrs) (((l.getD i default)).attrs)))) || (((((l.getD (i - 1) default)).kind) == 2) && ((((l.getD i default)).kind) == 1))) (fun h10 => ?_) (fun h10 => ?_)
    ·
     (try simp only [Bool.and_eq_true, Bool.and_eq_false_iff, Bool.not_eq_true', Bool.not_eq_false', Bool.or_eq_true, Bool.or_eq_false_iff, beq_iff_eq, beq_eq_false_iff_ne, ne_eq, bne_iff_ne, bne_eq_false_iff_eq] at h10)
     have e2 : ((checkD l) : Int) = 5 := by
      rw [I3.2.2.2.2.2, chkD, if_pos (by omega), if_neg (by omega), if_pos ⟨by omega, adjD_yes.2 h10⟩]
     exact .finE [.r []] [] (fun z0 => (VI z0, [])) (5 : Int) ((checkD l) : Int) e2
    ·
     (try simp only [Bool.and_eq_true, Bool.and_eq_false_iff, Bool.not_eq_true', Bool.not_eq_false', Bool.or_eq_true, Bool.or_eq_false_iff, beq_iff_eq, beq_eq_false_iff_ne, ne_eq, bne_iff_ne, bne_eq_false_iff_eq] at h10)
     refine .br [.r []] ((((l.getD i default)).kind) != 1) (fun h12 => ?_) (fun h12 => ?_)
     ·
      (try simp only [bne_iff_ne, bne_eq_false_iff_eq, ne_eq] at h12)
      refine .br [.r [(3, X (Xn (b + (((l.getD i default)).n)))), (4, X (Xmin (b + (((l.getD i default)).n)) 2147483648))], .r []] ((((l.getD i default)).kind) != 2) (fun h14 => ?_) (fun h14 => ?_)
      ·
       (try simp only [bne_iff_ne, bne_eq_false_iff_eq, ne_eq] at h14)
       refine .at 528 [(80, 80)] ([(0, VL 4 dstepT l), (3, VI (min (b + (((l.getD i default)).n)) 2147483648)), (4, VI a), (6, .ptr 80 0), (9, VL 4 dstepT l), (10, VI (l.length : Int)), (11, VI (i : Int)), (65, VB ((((l.getD i default)).kind) != 2))], [(80, .box [VI (((l.getD i default)).kind), VI (((l.getD i default)).n), VL 2 attrT (((l.getD i default)).attrs), VL 3 elemT (((l.getD i default)).elems)])]) ?_
       refine .back [.r [(2, X (Xc0 (fc_size ((l.getD i default))) X0)), (3, X (Xn (a + (szD ((l.getD i default)))))), (4, X (Xmin (a + (szD ((l.getD i default)))) 2147483648))], .r [(0, X (Xn ((i : Int) + 1)))]] [] (ih3 ((min (b + (((l.getD i default)).n)) 2147483648), (min (a + (szD ((l.getD i default)))) 2147483648), (i + 1)) ?_ ?_)
       ·
        refine ⟨by omega, by omega, by omega, by omega, by omega, ?_⟩
        rw [I3.2.2.2.2.2, chkD, if_pos (by omega), if_neg (by omega), if_neg (by first | omega | exact fun hh => adjD_no h10 hh.2)]
        ((repeat' split) <;> first | rfl | omega | (simp_all; done) | (simp_all; omega))
       ·
        ((try dsimp only); omega)
      ·
       (try simp only [bne_iff_ne, bne_eq_false_iff_eq, ne_eq] at h14)
       refine .at 528 [(80, 80)] ([(0, VL 4 dstepT l), (3, VI (min (b + (((l.getD i default)).n)) 2147483648)), (4, VI a), (6, .ptr 80 0), (9, VL 4 dstepT l), (10, VI (l.length : Int)), (11, VI (i : Int)), (65, VB ((((l.getD i default)).kind) != 2))], [(80, .box [VI (((l.getD i default)).kind), VI (((l.getD i default)).n), VL 2 attrT (((l.getD i default)).attrs), VL 3 elemT (((l.getD i default)).elems)])]) ?_
       refine .back [.r [(0, X (Xn ((i : Int) + 1)))]] [] (ih3 ((min (b + (((l.getD i default)).n)) 2147483648), a, (i + 1)) ?_ ?_)
       ·
        refine ⟨by omega, by omega, by omega, by omega, by omega, ?_⟩
        rw [I3.2.2.2.2.2, chkD, if_pos (by omega), if_neg (by omega), if_neg (by first | omega | exact fun hh => adjD_no h10 hh.2)]
        ((repeat' split) <;> first | rfl | omega | (simp_all; done) | (simp_all; omega))
       ·
        ((try dsimp only); omega)
     ·
      (try simp only [bne_iff_ne, bne_eq_false_iff_eq, ne_eq] at h12)
      refine .br [.r []] ((((l.getD i default)).kind) != 2) (fun h14 => ?_) (fun h14 => ?_)
      ·
       (try simp only [bne_iff_ne, bne_eq_false_iff_eq, ne_eq] at h14)
       refine .at 480 [(80, 80)] ([(0, VL 4 dstepT l), (3, VI b), (4, VI a), (6, .ptr 80 0), (9, VL 4 dstepT l), (10, VI (l.length : Int)), (11, VI (i : Int)), (65, VB ((((l.getD i default)).kind) != 2))], [(80, .box [VI (((l.getD i default)).kind), VI (((l.getD i default)).n), VL 2 attrT (((l.getD i default)).attrs), VL 3 elemT (((l.getD i default)).elems)])]) ?_
       refine .back [.r [(2, X (Xc0 (fc_size ((l.getD i default))) X0)), (3, X (Xn (a + (szD ((l.getD i default)))))), (4, X (Xmin (a + (szD ((l.getD i default)))) 2147483648))], .r [(0, X (Xn ((i : Int) + 1)))]] [] (ih3 (b, (min (a + (szD ((l.getD i default)))) 2147483648), (i + 1)) ?_ ?_)
       ·
        refine ⟨by omega, by omega, by omega, by omega, by omega, ?_⟩
        rw [I3.2.2.2.2.2, chkD, if_pos (by omega), if_neg (by omega), if_neg (by first | omega | exact fun hh => adjD_no h10 hh.2)]
        ((repeat' split) <;> first | rfl | omega | (simp_all; done) | (simp_all; omega))
       ·
        ((try dsimp only); omega)
      ·
       (try simp only [bne_iff_ne, bne_eq_false_iff_eq, ne_eq] at h14)
       refine .at 480 [(80, 80)] ([(0, VL 4 dstepT l), (3, VI b), (4, VI a), (6, .ptr 80 0), (9, VL 4 dstepT l), (10, VI (l.length : Int)), (11, VI (i : Int)), (65, VB ((((l.getD i default)).kind) != 2))], [(80, .box [VI (((l.getD i default)).kind), VI (((l.getD i default)).n), VL 2 attrT (((l.getD i default)).attrs), VL 3 elemT (((l.getD i default)).elems)])]) ?_
       refine .back [.r [(0, X (Xn ((i : Int) + 1)))]] [] (ih3 (b, a, (i + 1)) ?_ ?_)
       ·
        refine ⟨by omega, by omega, by omega, by omega, by omega, ?_⟩
        rw [I3.2.2.2.2.2, chkD, if_pos (by omega), if_neg (by omega), if_neg (by first | omega | exact fun hh => adjD_no h10 hh.2)]
        ((repeat' split) <;> first | rfl | omega | (simp_all; done) | (simp_all; omega))
       ·
        ((try dsimp only); omega)
   ·
    (try simp only [decide_eq_true_eq, decide_eq_false_iff_not, Int.not_lt, Int.not_le, gt_iff_lt] at h8)
    refine .br [.r []] ((((l.getD i default)).kind) != 1) (fun h12 => ?_) (fun h12 => ?_)
    ·
     (try simp only [bne_iff_ne, bne_eq_false_iff_eq, ne_eq] at h12)
     refine .br [.r [(3, X (Xn (b + (((l.getD i default)).n)))), (4, X (Xmin (b + (((l.getD i default)).n)) 2147483648))], .r []] ((((l.getD i default)).kind) != 2) (fun h14 => ?_) (fun h14 => ?_)
     ·
      (try simp only [bne_iff_ne, bne_eq_false_iff_eq, ne_eq] at h14)
      refine .back [.r [(2, X (Xc0 (fc_size ((l.getD i default))) X0)), (3, X (Xn (a + (szD ((l.getD i default)))))), (4, X (Xmin (a + (szD ((l.getD i default)))) 2147483648))], .r [(0, X (Xn ((i : Int) + 1)))]] [] (ih3 ((min (b + (((l.getD i default)).n)) 2147483648), (min (a + (szD ((l.getD i default)))) 2147483648), (i + 1)) ?_ ?_)
      ·
       refine ⟨by omega, by omega, by omega, by omega, by omega, ?_⟩
       rw [I3.2.2.2.2.2, chkD, if_pos (by omega), if_neg (by omega), if_neg (by first | omega | exact fun hh => adjD_no h10 hh.2)]
       ((repeat' split) <;> first | rfl | omega | (simp_all; done) | (simp_all; omega))
      ·
       ((try dsimp only); omega)
     ·
      (try simp only [bne_iff_ne, bne_eq_false_iff_eq, ne_eq] at h14)
      refine .back [.r [(0, X (Xn ((i : Int) + 1)))]] [] (ih3 ((min (b + (((l.getD i default)).n)) 2147483648), a, (i + 1)) ?_ ?_)
      ·
       refine ⟨by omega, by omega, by omega, by omega, by omega, ?_⟩
       rw [I3.2.2.2.2.2, chkD, if_pos (by omega), if_neg (by omega), if_neg (by first | omega | exact fun hh => adjD_no h10 hh.2)]
       ((repeat' split) <;> first | rfl | omega | (simp_all; done) | (simp_all; omega))
      ·
       ((try dsimp only); omega)
    ·
     (try simp only [bne_iff_ne, bne_eq_false_iff_eq, ne_eq] at h12)
     refine .br [.r []] ((((l.getD i default)).kind) != 2) (fun h14 => ?_) (fun h14 => ?_)
     ·
      (try simp only [bne_iff_ne, bne_eq_false_iff_eq, ne_eq] at h14)
      refine .back [.r [(2, X (Xc0 (fc_size ((l.getD i default))) X0)), (3, X (Xn (a + (szD ((l.getD i default)))))), (4, X (Xmin (a + (szD ((l.getD i default)))) 2147483648))], .r [(0, X (Xn ((i : Int) + 1)))]] [] (ih3 (b, (min (a + (szD ((l.getD i default)))) 2147483648), (i + 1)) ?_ ?_)
      ·
       refine ⟨by omega, by omega, by omega, by omega, by omega, ?_⟩
       rw [I3.2.2.2.2.2, chkD, if_pos (by omega), if_neg (by omega), if_neg (by first | omega | exact fun hh => adjD_no h10 hh.2)]
       ((repeat' split) <;> first | rfl | omega | (simp_all; done) | (simp_all; omega))
      ·
       ((try dsimp only); omega)
     ·
      (try simp only [bne_iff_ne, bne_eq_false_iff_eq, ne_eq] at h14)
      refine .back [.r [(0, X (Xn ((i : Int) + 1)))]] [] (ih3 (b, a, (i + 1)) ?_ ?_)
      ·
       refine ⟨by omega, by omega, by omega, by omega, by omega, ?_⟩
       rw [I3.2.2.2.2.2, chkD, if_pos (by omega), if_neg (by omega), if_neg (by first | omega | exact fun hh => adjD_no h10 hh.2)]
       ((repeat' split) <;> first | rfl | omega | (simp_all; done) | (simp_all; omega))
      ·
       ((try dsimp only); omega)
 ·
  (try simp only [decide_eq_true_eq, decide_eq_false_iff_not, Int.not_lt, Int.not_le] at h3)
  refine .br [.r [(4, Xv 1 (!(decide (b > 2147483647))) X0), (5, X (Xk' (decide (b > 2147483647))))]] (decide (b > 2147483647) || decide (a > 2147483647)) (fun h17 => ?_) (fun h17 => ?_)
  ·
   (try simp only [decide_eq_true_eq, decide_eq_false_iff_not, Int.not_lt, Int.not_le, gt_iff_lt, Bool.or_eq_true, Bool.or_eq_false_iff] at h17)
   have e3 : ((checkD l) : Int) = 3 := by
    rw [I3.2.2.2.2.2, chkD]; ((repeat' split) <;> first | rfl | omega | (simp_all; done) | (simp_all; omega))
   exact .finE [.r []] [] (fun z0 => (VI z0, [])) (3 : Int) ((checkD l) : Int) e3
  ·
   (try simp only [decide_eq_true_eq, decide_eq_false_iff_not, Int.not_lt, Int.not_le, gt_iff_lt, Bool.or_eq_true, Bool.or_eq_false_iff] at h17)
   have e4 : ((checkD l) : Int) = 0 := by
    rw [I3.2.2.2.2.2, chkD]; ((repeat' split) <;> first | rfl | omega | (simp_all; done) | (simp_all; omega))
   exact .finE [.r []] [] (fun z0 => (VI z0, [])) (0 : Int) ((checkD l) : Int) e4

end Go.Ch
end
section
set_option linter.unusedVariables false
set_option linter.unusedSimpArgs false
set_option maxRecDepth 100000
set_option maxHeartbeats 4000000
open Go Go.Proofs Go.Ab
namespace Go.Ch
def DSz (l : List DStep) : Prop := ∀ s ∈ l, Szd s.attrs ∧ SzE s.elems
theorem DSz.at_ {l : List DStep} (h : DSz l) {k : Nat} (hk : k < l.length) : Szd (l.getD k default).attrs ∧ SzE (l.getD k default).elems := by
  refine h _ ?_
  rw [show l.getD k default = l[k] by simp [List.getD, List.getElem?_eq_getElem hk]]
  exact List.getElem_mem hk

end Go.Ch
end
section
set_option linter.unusedVariables false
set_option linter.unusedSimpArgs false
set_option maxRecDepth 100000
set_option maxHeartbeats 4000000
open Go Go.Proofs Go.Ab
namespace Go.Ch
end Go.Ch
end
section
set_option linter.unusedVariables false
set_option linter.unusedSimpArgs false
namespace Go.Ch
open Go Go.Ab

structure DWr where
  out : List DStep
  add : List Elem
  cut : Int
def flushD (w : DWr) : List DStep := w.out ++ (if 0 < w.add.length then [⟨1, 0, [], w.add⟩] else []) ++ (if 0 < w.cut then [⟨2, w.cut, [], []⟩] else [])
def keepD (l : List DStep) (n : Int) (c : List Attr) : List DStep :=
  if 0 < l.length ∧ (l.getD (l.length - 1) default).kind = 0 ∧ sameL (l.getD (l.length - 1) default).attrs c = true then
    l.set (l.length - 1) ⟨(l.getD (l.length - 1) default).kind, (l.getD (l.length - 1) default).n + n, (l.getD (l.length - 1) default).attrs, (l.getD (l.length - 1) default).elems⟩
  else l ++ [⟨0, n, c, []⟩]
theorem flushD_len (w : DWr) : (flushD w).length ≤ w.out.length + 2 := by
  unfold flushD; simp only [List.length_append]; split <;> split <;> simp
theorem keepD_len (l : List DStep) (n : Int) (c : List Attr) : (keepD l n c).length ≤ l.length + 1 := by
  unfold keepD; split <;> simp
/-- A step without the bound on its count. -/
def DOkW (s : DStep) : Prop :=
  (s.kind = 1 ∧ s.n = 0 ∧ s.attrs = [] ∧ s.elems ≠ [] ∧ ∀ x ∈ s.elems, elemE x = 0) ∨
  ((s.kind = 0 ∨ s.kind = 2) ∧ s.elems = [] ∧ (s.kind = 2 → s.attrs = []) ∧ 1 ≤ s.n ∧ VG true s.attrs)
def AdjOk : List DStep → Prop
  | [] => True
  | [_] => True
  | s :: t :: l => adjD s t = false ∧ AdjOk (t :: l)
theorem adj_snoc : ∀ {l : List DStep} {s : DStep}, AdjOk l → (∀ t, l.getLast? = some t → adjD t s = false) → AdjOk (l ++ [s])
  | [], s, _, _ => trivial
  | [x], s, _, h => ⟨h x rfl, trivial⟩
  | x :: y :: l, s, hf, h => ⟨hf.1, adj_snoc (l := y :: l) hf.2 (fun t ht => h t (by simpa [List.getLast?_cons_cons] using ht))⟩
theorem adjD_eq' {w x x' : DStep} (k : x'.kind = x.kind) (a : x'.attrs = x.attrs) : adjD w x' = adjD w x := by unfold adjD; rw [k, a]
theorem adj_last : ∀ {l : List DStep} {s s' : DStep}, AdjOk (l ++ [s]) → s'.kind = s.kind → s'.attrs = s.attrs → AdjOk (l ++ [s'])
  | [], s, s', _, _, _ => trivial
  | [x], s, s', h, k, a => ⟨by rw [adjD_eq' k a]; exact h.1, trivial⟩
  | x :: y :: l, s, s', h, k, a => ⟨h.1, adj_last (l := y :: l) h.2 k a⟩
theorem dform_of : ∀ {l : List DStep}, (∀ s ∈ l, DOk s) → AdjOk l → DForm l
  | [], _, _ => trivial
  | [s], h, _ => h s (by simp)
  | s :: t :: l, h, k => ⟨h s (by simp), k.1, dform_of (fun x hx => h x (by simp at hx ⊢; exact .inr hx)) k.2⟩
theorem okW {s : DStep} (h : DOk s) : DOkW s := by
  rcases h with h | ⟨a, b, c, d, e, f⟩
  · exact .inl h
  · exact .inr ⟨a, b, c, d, f⟩
theorem oSW {s : DStep} (h : DOkW s) : 0 ≤ oS s ∧ 0 ≤ nS s ∧ (s.kind ≠ 1 → oS s = s.n) ∧ 0 ≤ s.n := by
  unfold oS nS szD
  rcases h with ⟨k, n, a, e, _⟩ | ⟨k, _, _, n1, _⟩
  · have : 0 < s.elems.length := List.length_pos_iff.2 e
    rw [if_pos k, if_neg (by omega), if_pos k]
    exact ⟨Int.le_refl _, by omega, fun q => absurd k q, by omega⟩
  · have k1 : ¬ s.kind = 1 := by omega
    simp only [if_neg k1]
    refine ⟨by omega, by (split <;> omega), fun _ => trivial, by omega⟩
theorem sumsW : ∀ {l : List DStep}, (∀ s ∈ l, DOkW s) → 0 ≤ oldD l ∧ 0 ≤ newD l ∧ ∀ s ∈ l, s.kind ≠ 1 → s.n ≤ oldD l
  | [], _ => ⟨Int.le_refl _, Int.le_refl _, fun s hs => by cases hs⟩
  | s :: l, h => by
    have h1 := oSW (h s (by simp))
    have h2 := sumsW (l := l) (fun t ht => h t (by simp [ht]))
    simp only [oldD, newD]
    refine ⟨by omega, by omega, fun t ht k => ?_⟩
    rcases List.mem_cons.1 ht with rfl | ht
    · have := h1.2.2.1 k; omega
    · have := h2.2.2 t ht k; omega
theorem valid_of {l : List DStep} (h : ∀ s ∈ l, DOkW s) (ha : AdjOk l) (h1 : oldD l ≤ 2147483647) (h2 : newD l ≤ 2147483647) : DValid l := by
  refine ⟨dform_of (fun s hs => ?_) ha, h1, h2⟩
  rcases h s hs with q | ⟨a, b, c, d, e⟩
  · exact .inl q
  · have := (sumsW h).2.2 s hs (by omega)
    exact .inr ⟨a, b, c, d, by omega, e⟩
theorem oldN_app (u v : List DU) : oldN (u ++ v) = oldN u + oldN v := by
  induction u with
  | nil => simp [oldN]
  | cons x u ih => cases x <;> simp [oldN, ih] <;> omega
theorem newN_app (u v : List DU) : newN (u ++ v) = newN u + newN v := by
  induction u with
  | nil => simp [newN]
  | cons x u ih => cases x <;> simp [newN, ih] <;> omega
theorem lens_As (e : List Elem) : oldN (e.map .A) = 0 ∧ newN (e.map .A) = e.length := by
  induction e with
  | nil => exact ⟨rfl, rfl⟩
  | cons x e ih => simp [oldN, newN, ih]
theorem lens_Cs (n : Nat) : oldN (List.replicate n .C) = n ∧ newN (List.replicate n .C) = 0 := by
  induction n with
  | zero => exact ⟨rfl, rfl⟩
  | succ n ih => simp [List.replicate_succ, oldN, newN, ih]
theorem lens_Ks (n : Nat) (c : List Attr) : oldN (List.replicate n (.K c)) = n ∧ newN (List.replicate n (.K c)) = n := by
  induction n with
  | zero => exact ⟨rfl, rfl⟩
  | succ n ih => simp [List.replicate_succ, oldN, newN, ih]
theorem lens_S {s : DStep} (h : DOkW s) : (oldN (exS s) : Int) = oS s ∧ (newN (exS s) : Int) = nS s := by
  unfold exS oS nS szD
  rcases h with ⟨k, n, a, e, _⟩ | ⟨k, _, _, n1, _⟩
  · rw [if_pos k, if_pos k, if_neg (by omega), if_pos k, (lens_As _).1, (lens_As _).2]; exact ⟨rfl, rfl⟩
  · have k1 : ¬ s.kind = 1 := by omega
    by_cases k2 : s.kind = 2
    · simp only [if_neg k1, if_pos k2]
      rw [(lens_Cs _).1, (lens_Cs _).2]; omega
    · simp only [if_neg k1, if_neg k2]
      rw [(lens_Ks _ _).1, (lens_Ks _ _).2]; omega
theorem lens_D : ∀ {l : List DStep}, (∀ s ∈ l, DOkW s) → (oldN (exD l) : Int) = oldD l ∧ (newN (exD l) : Int) = newD l
  | [], _ => ⟨rfl, rfl⟩
  | s :: l, h => by
    have h1 := lens_S (h s (by simp))
    have h2 := lens_D (l := l) (fun t ht => h t (by simp [ht]))
    simp only [exD, oldD, newD]
    rw [oldN_app, newN_app]
    omega
def exDW (w : DWr) : List DU := exD w.out ++ (w.add.map .A ++ List.replicate w.cut.toNat .C)
structure GoodD (w : DWr) : Prop where
  ok : ∀ s ∈ w.out, DOkW s
  adj : AdjOk w.out
  last : ∀ t, w.out.getLast? = some t → t.kind = 0
  add : ∀ x ∈ w.add, elemE x = 0
  cut : 0 ≤ w.cut
theorem goodD0 : GoodD ⟨[], [], 0⟩ := ⟨fun s h => (by cases h), trivial, fun t h => (by cases h), fun x h => (by cases h), Int.le_refl _⟩
theorem flushD_ex {w : DWr} (h : GoodD w) : exD (flushD w) = exDW w := by
  have h2 := h.cut
  unfold flushD exDW
  rw [exD_app, exD_app, List.append_assoc]
  congr 2
  · split
    · simp [exD, exS]
    · rw [show w.add = [] from len0.1 (by omega)]; rfl
  · split
    · simp [exD, exS]
    · rw [show w.cut.toNat = 0 by omega]; rfl
theorem adj_1 {t s : DStep} (h : t.kind ≠ s.kind) (h2 : ¬ (t.kind = 2 ∧ s.kind = 1)) : adjD t s = false := by
  cases e : adjD t s
  · rfl
  · rcases adjD_yes.1 e with ⟨a, _⟩ | a
    · exact absurd a h
    · exact absurd a h2
theorem vg_nil : VG true [] := (chk_iff (e := true) (l := [])).1 (by rw [chkA]; rfl)
theorem flushD_ok {w : DWr} (h : GoodD w) : (∀ s ∈ flushD w, DOkW s) ∧ AdjOk (flushD w) := by
  have h2 := h.cut
  have o1 : 0 < w.add.length → DOkW ⟨1, 0, [], w.add⟩ := fun q => .inl ⟨rfl, rfl, rfl, List.length_pos_iff.1 q, h.add⟩
  have o2 : 0 < w.cut → DOkW ⟨2, w.cut, [], []⟩ := fun q => .inr ⟨.inr rfl, rfl, fun _ => rfl, q, vg_nil⟩
  refine ⟨fun s hs => ?_, ?_⟩
  · unfold flushD at hs
    simp only [List.mem_append] at hs
    rcases hs with (hs | hs) | hs
    · exact h.ok s hs
    · split at hs
      · rename_i q; rw [List.mem_singleton] at hs; subst hs; exact o1 q
      · cases hs
    · split at hs
      · rename_i q; rw [List.mem_singleton] at hs; subst hs; exact o2 q
      · cases hs
  · unfold flushD
    by_cases ha : 0 < w.add.length
    · rw [if_pos ha]
      have f1 : AdjOk (w.out ++ [⟨1, 0, [], w.add⟩]) := adj_snoc h.adj (fun t ht => by
        have := h.last t ht
        exact adj_1 (by simp only; omega) (by omega))
      by_cases hc : 0 < w.cut
      · rw [if_pos hc]
        refine adj_snoc f1 (fun t ht => ?_)
        rw [List.getLast?_concat] at ht
        cases ht
        exact adj_1 (by show (1 : Int) ≠ 2; decide) (by show ¬ ((1 : Int) = 2 ∧ (2 : Int) = 1); decide)
      · rw [if_neg hc, List.append_nil]; exact f1
    · rw [if_neg ha, List.append_nil]
      by_cases hc : 0 < w.cut
      · rw [if_pos hc]
        refine adj_snoc h.adj (fun t ht => ?_)
        have := h.last t ht
        exact adj_1 (by simp only; omega) (by omega)
      · rw [if_neg hc, List.append_nil]; exact h.adj
theorem lastD {l : List DStep} (h : 0 < l.length) : l = l.take (l.length - 1) ++ [l.getD (l.length - 1) default] := by
  conv => lhs; rw [← List.take_append_drop (l.length - 1) l]
  congr 1
  rw [List.drop_eq_getElem_cons (by omega), List.drop_eq_nil_of_le (by omega)]
  simp [List.getD, List.getElem?_eq_getElem (show l.length - 1 < l.length by omega)]
theorem lastD_mem {l : List DStep} (h : 0 < l.length) : l.getD (l.length - 1) default ∈ l := by
  rw [show l.getD (l.length - 1) default = l[l.length - 1] by simp [List.getD, List.getElem?_eq_getElem (show l.length - 1 < l.length by omega)]]
  exact List.getElem_mem _
theorem setD {l : List DStep} (h : 0 < l.length) (s : DStep) : l.set (l.length - 1) s = l.take (l.length - 1) ++ [s] := by
  rw [List.set_eq_take_append_cons_drop, if_pos (by omega), List.drop_eq_nil_of_le (by omega)]
theorem keepD_ok {l : List DStep} {n : Int} {c : List Attr} (ho : ∀ s ∈ l, DOkW s) (hf : AdjOk l) (hn : 1 ≤ n) (hc : VG true c) :
    (∀ s ∈ keepD l n c, DOkW s) ∧ AdjOk (keepD l n c) ∧ (∀ t, (keepD l n c).getLast? = some t → t.kind = 0) ∧ exD (keepD l n c) = exD l ++ List.replicate n.toNat (.K c) := by
  unfold keepD
  split
  · rename_i hc
    obtain ⟨h0, hk, ha⟩ := hc
    rw [sameL_eq] at ha
    generalize hx : l.getD (l.length - 1) default = x at hk ha ⊢
    have hl := lastD h0
    rw [hx] at hl
    rw [setD h0]
    have hox : DOkW x := ho x (by rw [hl]; simp)
    have hx2 : x.elems = [] ∧ 1 ≤ x.n ∧ VG true x.attrs := by
      rcases hox with ⟨k, _⟩ | ⟨_, a, _, b, d⟩
      · omega
      · exact ⟨a, b, d⟩
    refine ⟨fun s hs => ?_, adj_last (s := x) (by rw [← hl]; exact hf) rfl rfl, fun t ht => ?_, ?_⟩
    · rw [List.mem_append] at hs
      rcases hs with hs | hs
      · exact ho s (List.mem_of_mem_take hs)
      · rw [List.mem_singleton] at hs; subst hs
        exact .inr ⟨.inl hk, hx2.1, fun q => by simp only at q; omega, by simp only; omega, hx2.2.2⟩
    · rw [List.getLast?_concat] at ht; cases ht; exact hk
    · conv => rhs; rw [hl]
      rw [exD_app, exD_app, List.append_assoc]
      congr 1
      simp only [exD, List.append_nil, exS]
      rw [if_neg (by omega), if_neg (by omega), if_neg (by omega), if_neg (by omega), ha, show (x.n + n).toNat = x.n.toNat + n.toNat by omega]
      exact List.replicate_append_replicate.symm
  · rename_i hq
    refine ⟨fun s hs => ?_, adj_snoc hf (fun t ht => ?_), fun t ht => ?_, by rw [exD_app]; simp [exD, exS]⟩
    · rw [List.mem_append] at hs
      rcases hs with hs | hs
      · exact ho s hs
      · rw [List.mem_singleton] at hs; subst hs
        exact .inr ⟨.inl rfl, rfl, fun q => (by cases q), hn, hc⟩
    · have h0 : 0 < l.length := by
        rcases l with _ | ⟨y, l⟩
        · cases ht
        · simp
      have hl : l.getLast? = some (l.getD (l.length - 1) default) := by
        conv => lhs; rw [lastD h0]
        rw [List.getLast?_concat]
      rw [hl] at ht
      cases ht
      cases e : adjD (l.getD (l.length - 1) default) ⟨0, n, c, []⟩
      · rfl
      · rcases adjD_yes.1 e with ⟨a, b | b⟩ | ⟨_, b⟩
        · exact absurd rfl b
        · exact absurd ⟨h0, a, b⟩ hq
        · cases b
    · rw [List.getLast?_concat] at ht; cases ht; rfl
theorem GoodD.keep {w : DWr} {n : Int} {c : List Attr} (h : GoodD w) (hn : 1 ≤ n) (hc : VG true c) :
    GoodD ⟨keepD (flushD w) n c, [], 0⟩ ∧ exDW ⟨keepD (flushD w) n c, [], 0⟩ = exDW w ++ List.replicate n.toNat (.K c) := by
  obtain ⟨q1, q2, q3, q4⟩ := keepD_ok (flushD_ok h).1 (flushD_ok h).2 hn hc
  refine ⟨⟨q1, q2, q3, fun x hx => (by cases hx), Int.le_refl _⟩, ?_⟩
  rw [← flushD_ex h, ← q4]
  simp [exDW]
theorem GoodD.elems {w : DWr} {e : List Elem} (h : GoodD w) (he : ∀ x ∈ e, elemE x = 0) :
    GoodD ⟨w.out, w.add ++ e, w.cut⟩ ∧ DSw (exDW ⟨w.out, w.add ++ e, w.cut⟩) (exDW w ++ e.map .A) := by
  refine ⟨⟨h.ok, h.adj, h.last, fun x hx => ?_, h.cut⟩, ?_⟩
  · rcases List.mem_append.1 hx with hx | hx
    · exact h.add x hx
    · exact he x hx
  · unfold exDW
    simp only [List.map_append, List.append_assoc]
    refine .left _ (.left _ ?_)
    have := dsw_Cs_As w.cut.toNat e []
    simp only [List.append_nil] at this
    exact .symm this
theorem GoodD.cuts {w : DWr} {n : Int} (h : GoodD w) (hn : 0 ≤ n) :
    GoodD ⟨w.out, w.add, w.cut + n⟩ ∧ exDW ⟨w.out, w.add, w.cut + n⟩ = exDW w ++ List.replicate n.toNat .C := by
  have h2 := h.cut
  refine ⟨⟨h.ok, h.adj, h.last, h.add, by simp only; omega⟩, ?_⟩
  unfold exDW
  simp only [List.append_assoc]
  rw [show (w.cut + n).toNat = w.cut.toNat + n.toNat by omega, ← List.replicate_append_replicate]
theorem GoodD.valid {w : DWr} {u : List DU} (h : GoodD w) (hs : DSw (exDW w) u) (h1 : oldN u ≤ 2147483647) (h2 : newN u ≤ 2147483647) :
    DValid (flushD w) ∧ DSw (exD (flushD w)) u ∧ oldD (flushD w) = oldN u ∧ newD (flushD w) = newN u := by
  have hk := flushD_ok h
  have he := flushD_ex h
  have hl := dsw_lens hs
  have hd := lens_D hk.1
  rw [he] at hd
  refine ⟨valid_of hk.1 hk.2 (by omega) (by omega), by rw [he]; exact hs, by omega, by omega⟩
end Go.Ch
end
section
set_option linter.unusedVariables false
set_option linter.unusedSimpArgs false
set_option maxRecDepth 100000
set_option maxHeartbeats 4000000
open Go Go.Proofs Go.Ab
namespace Go.Ch
theorem fc_dFlush (o : List DStep) (a : List Elem) (c : Int) (ho : o.length ≤ 100000000000) : FC Try.prog 135 [.ptr 0 0] (app emp [(0, .box [.row 1 o.length, .row 2 a.length, VI c]), (1, OR 4 dstepT o), (2, OR 3 elemT a)]) (.tup []) (app emp [(0, .box [.row 1 ((flushD ⟨o, a, c⟩).length), .row 3 0, VI 0]), (1, OR 4 dstepT (flushD ⟨o, a, c⟩)), (2, OF 3 elemT a), (3, OR 3 elemT [])]) := by
 refine .go Try.f135 ?_
 refine .br [.r []] (decide ((a.length : Int) > 0)) (fun h0 => ?_) (fun h0 => ?_)
 ·
  (try simp only [decide_eq_true_eq, decide_eq_false_iff_not, Int.not_lt, Int.not_le, gt_iff_lt] at h0)
  refine .br [.r [(9, X (Xf [(2, 2)])), (10, X (rowC elemT a X0)), (11, X (rowC dstepT [({ kind := 1, n := 0, attrs := [], elems := a } : DStep)] (Xap 4 dstepT 1 o [({ kind := 1, n := 0, attrs := [], elems := a } : DStep)])))], .r []] (decide (c > 0)) (fun h2 => ?_) (fun h2 => ?_)
  ·
   (try simp only [decide_eq_true_eq, decide_eq_false_iff_not, Int.not_lt, Int.not_le, gt_iff_lt] at h2)
   have e1 : ((flushD ⟨o, a, c⟩).length : Nat) = ((o ++ [({ kind := 1, n := 0, attrs := [], elems := a } : DStep)]) ++ [({ kind := 2, n := c, attrs := [], elems := [] } : DStep)]).length := by
    unfold flushD; simp only; (repeat (first | rw [if_pos (by omega)] | rw [if_neg (by omega)])); try simp
   have e2 : ((flushD ⟨o, a, c⟩) : List DStep) = ((o ++ [({ kind := 1, n := 0, attrs := [], elems := a } : DStep)]) ++ [({ kind := 2, n := c, attrs := [], elems := [] } : DStep)]) := by
    unfold flushD; simp only; (repeat (first | rw [if_pos (by omega)] | rw [if_neg (by omega)])); try simp
   exact .finE [.r [(9, X (Xf [(2, 2), (3, 3)])), (11, X (rowC dstepT [({ kind := 2, n := c, attrs := [], elems := [] } : DStep)] (Xap 4 dstepT 1 (o ++ [({ kind := 1, n := 0, attrs := [], elems := a } : DStep)]) [({ kind := 2, n := c, attrs := [], elems := [] } : DStep)])))], .r [], .le (.nB 0 1 3)] [(0, 0), (1, 1), (2, 2), (395, 3)] (fun (z0, z1) => (.tup [], [(0, .box [.row 1 z0, .row 3 0, VI 0]), (1, OR 4 dstepT z1), (2, OF 3 elemT a), (3, OR 3 elemT [])])) ((((o ++ [({ kind := 1, n := 0, attrs := [], elems := a } : DStep)]) ++ [({ kind := 2, n := c, attrs := [], elems := [] } : DStep)]).length : Nat), (((o ++ [({ kind := 1, n := 0, attrs := [], elems := a } : DStep)]) ++ [({ kind := 2, n := c, attrs := [], elems := [] } : DStep)]) : List DStep)) (((flushD ⟨o, a, c⟩).length : Nat), ((flushD ⟨o, a, c⟩) : List DStep)) (pr e1 e2)
  ·
   (try simp only [decide_eq_true_eq, decide_eq_false_iff_not, Int.not_lt, Int.not_le, gt_iff_lt] at h2)
   have e3 : ((flushD ⟨o, a, c⟩).length : Nat) = (o ++ [({ kind := 1, n := 0, attrs := [], elems := a } : DStep)]).length := by
    unfold flushD; simp only; (repeat (first | rw [if_pos (by omega)] | rw [if_neg (by omega)])); try simp
   have e4 : ((flushD ⟨o, a, c⟩) : List DStep) = (o ++ [({ kind := 1, n := 0, attrs := [], elems := a } : DStep)]) := by
    unfold flushD; simp only; (repeat (first | rw [if_pos (by omega)] | rw [if_neg (by omega)])); try simp
   exact .finE [.r [], .le (.nB 0 1 3)] [(0, 0), (1, 1), (2, 2), (275, 3)] (fun (z0, z1) => (.tup [], [(0, .box [.row 1 z0, .row 3 0, VI 0]), (1, OR 4 dstepT z1), (2, OF 3 elemT a), (3, OR 3 elemT [])])) (((o ++ [({ kind := 1, n := 0, attrs := [], elems := a } : DStep)]).length : Nat), ((o ++ [({ kind := 1, n := 0, attrs := [], elems := a } : DStep)]) : List DStep)) (((flushD ⟨o, a, c⟩).length : Nat), ((flushD ⟨o, a, c⟩) : List DStep)) (pr e3 e4)
 ·
  (try simp only [decide_eq_true_eq, decide_eq_false_iff_not, Int.not_lt, Int.not_le, gt_iff_lt] at h0)
  refine .br [.r []] (decide (c > 0)) (fun h2 => ?_) (fun h2 => ?_)
  ·
   (try simp only [decide_eq_true_eq, decide_eq_false_iff_not, Int.not_lt, Int.not_le, gt_iff_lt] at h2)
   have e5 : ((flushD ⟨o, a, c⟩).length : Nat) = (o ++ [({ kind := 2, n := c, attrs := [], elems := [] } : DStep)]).length := by
    unfold flushD; simp only; (repeat (first | rw [if_pos (by omega)] | rw [if_neg (by omega)])); try simp
   have e6 : ((flushD ⟨o, a, c⟩) : List DStep) = (o ++ [({ kind := 2, n := c, attrs := [], elems := [] } : DStep)]) := by
    unfold flushD; simp only; (repeat (first | rw [if_pos (by omega)] | rw [if_neg (by omega)])); try simp
   exact .finE [.r [(9, X (Xf [(2, 2), (3, 3)])), (11, X (rowC dstepT [({ kind := 2, n := c, attrs := [], elems := [] } : DStep)] (Xap 4 dstepT 1 o [({ kind := 2, n := c, attrs := [], elems := [] } : DStep)])))], .r [], .le (.nB 0 1 3), .le (.fz 2)] [(0, 0), (1, 1), (2, 2), (275, 3)] (fun (z0, z1) => (.tup [], [(0, .box [.row 1 z0, .row 3 0, VI 0]), (1, OR 4 dstepT z1), (2, OF 3 elemT a), (3, OR 3 elemT [])])) (((o ++ [({ kind := 2, n := c, attrs := [], elems := [] } : DStep)]).length : Nat), ((o ++ [({ kind := 2, n := c, attrs := [], elems := [] } : DStep)]) : List DStep)) (((flushD ⟨o, a, c⟩).length : Nat), ((flushD ⟨o, a, c⟩) : List DStep)) (pr e5 e6)
  ·
   (try simp only [decide_eq_true_eq, decide_eq_false_iff_not, Int.not_lt, Int.not_le, gt_iff_lt] at h2)
   have e7 : ((flushD ⟨o, a, c⟩).length : Nat) = o.length := by
    unfold flushD; simp only; (repeat (first | rw [if_pos (by omega)] | rw [if_neg (by omega)])); try simp
   have e8 : ((flushD ⟨o, a, c⟩) : List DStep) = o := by
    unfold flushD; simp only; (repeat (first | rw [if_pos (by omega)] | rw [if_neg (by omega)])); try simp
   exact .finE [.r [], .le (.nB 0 1 3), .le (.fz 2)] [(0, 0), (1, 1), (2, 2), (155, 3)] (fun (z0, z1) => (.tup [], [(0, .box [.row 1 z0, .row 3 0, VI 0]), (1, OR 4 dstepT z1), (2, OF 3 elemT a), (3, OR 3 elemT [])])) ((o.length : Nat), (o : List DStep)) (((flushD ⟨o, a, c⟩).length : Nat), ((flushD ⟨o, a, c⟩) : List DStep)) (pr e7 e8)

theorem fc_dElems (o : List DStep) (a : List Elem) (c : Int) (e : List Elem) (hs : AN 400000000000 e) (ho : a.length + e.length ≤ 100000000000) : FC Try.prog 104 [.ptr 0 0, VL 3 elemT e] (app emp [(0, .box [.row 1 o.length, .row 2 a.length, VI c]), (1, OR 4 dstepT o), (2, OR 3 elemT a)]) (.tup []) (app emp [(0, .box [.row 1 o.length, .row 2 ((a ++ e).length), VI c]), (1, OR 4 dstepT o), (2, OR 3 elemT (a ++ e))]) := by
 refine .go Try.f104 ?_
 refine .len 1 (fun hl1 => ?_)
 exact .fin [.r [(6, X (Xc1 51 (fc_copy e (by omega) (by assumption)) X0)), (7, X (Xap 3 elemT 2 a e))]] [(0, 0), (1, 1), (2, 2)]

theorem kbd {l : List DStep} (h : ∀ s ∈ l, 0 ≤ s.n ∧ s.n ≤ 10000000000) : ∀ s ∈ l, 0 ≤ s.n ∧ s.n ≤ 1000000000000000000 := fun s hs => by have := h s hs; omega

theorem fc_dKeep (o : List DStep) (a : List Elem) (c : Int) (n : Int) (l : List Attr) (ho : o.length ≤ 100000000000) (hl : l.length ≤ 400000000000) (hn : 1 ≤ n ∧ n ≤ 100000000000) (hk : ∀ s ∈ flushD ⟨o, a, c⟩, 0 ≤ s.n ∧ s.n ≤ 1000000000000000000) : FC Try.prog 103 [.ptr 0 0, VI n, VL 2 attrT l] (app emp [(0, .box [.row 1 o.length, .row 2 a.length, VI c]), (1, OR 4 dstepT o), (2, OR 3 elemT a)]) (.tup []) (app emp [(0, .box [.row 1 ((keepD (flushD ⟨o, a, c⟩) n l).length), .row 3 0, VI 0]), (1, OR 4 dstepT (keepD (flushD ⟨o, a, c⟩) n l)), (2, OF 3 elemT a), (3, OR 3 elemT [])]) := by
 refine .go Try.f103 ?_
 refine .len 2 (fun hl2 => ?_)
 have hfl := flushD_len ⟨o, a, c⟩
 simp only at hfl
 refine .br [.r []] (n == 0) (fun h0 => ?_) (fun h0 => ?_)
 ·
  (try simp only [beq_iff_eq, beq_eq_false_iff_ne, ne_eq] at h0)
  exfalso
  omega
 ·
  (try simp only [beq_iff_eq, beq_eq_false_iff_ne, ne_eq] at h0)
  have hlast := fun h : 0 < (flushD ⟨o, a, c⟩).length => hk _ (lastD_mem h)
  refine .br [.r [(1, X (Xc3 27 [(0, 0), (1, 1), (2, 2)] (fc_dFlush o a c (by omega)) X0))], .r [(5, X (Xn (((flushD ⟨o, a, c⟩).length : Int) - 1)))], .r [(4, Xv 1 (decide ((((flushD ⟨o, a, c⟩).length : Int) - 1) ≥ 0)) X0), (5, Xv 1 (decide ((((flushD ⟨o, a, c⟩).length : Int) - 1) ≥ 0)) X0), (6, Xv 1 (decide ((((flushD ⟨o, a, c⟩).length : Int) - 1) ≥ 0)) X0), (8, Xv 2 (decide ((((flushD ⟨o, a, c⟩).length : Int) - 1) ≥ 0)) (Xp' dstepT 1 (flushD ⟨o, a, c⟩) (((flushD ⟨o, a, c⟩).length : Int) - 1) (((flushD ⟨o, a, c⟩).length) - 1))), (9, Xv 1 (decide ((((flushD ⟨o, a, c⟩).length : Int) - 1) ≥ 0)) X0), (10, Xv 1 (decide ((((flushD ⟨o, a, c⟩).length : Int) - 1) ≥ 0)) (Xe dstepT (flushD ⟨o, a, c⟩) (((flushD ⟨o, a, c⟩).length) - 1))), (11, Xv 1 (decide ((((flushD ⟨o, a, c⟩).length : Int) - 1) ≥ 0)) X0), (12, X (Xk (decide ((((flushD ⟨o, a, c⟩).length : Int) - 1) ≥ 0)))), (15, Xv 1 (decide ((((flushD ⟨o, a, c⟩).length : Int) - 1) ≥ 0) && (((((flushD ⟨o, a, c⟩).getD (((flushD ⟨o, a, c⟩).length) - 1) default)).kind) == 0)) X0), (16, Xv 1 (decide ((((flushD ⟨o, a, c⟩).length : Int) - 1) ≥ 0) && (((((flushD ⟨o, a, c⟩).getD (((flushD ⟨o, a, c⟩).length) - 1) default)).kind) == 0)) X0), (17, Xv 1 (decide ((((flushD ⟨o, a, c⟩).length : Int) - 1) ≥ 0) && (((((flushD ⟨o, a, c⟩).getD (((flushD ⟨o, a, c⟩).length) - 1) default)).kind) == 0)) X0), (19, Xv 2 (decide ((((flushD ⟨o, a, c⟩).length : Int) - 1) ≥ 0) && (((((flushD ⟨o, a, c⟩).getD (((flushD ⟨o, a, c⟩).length) - 1) default)).kind) == 0)) (Xp' dstepT 1 (flushD ⟨o, a, c⟩) (((flushD ⟨o, a, c⟩).length : Int) - 1) (((flushD ⟨o, a, c⟩).length) - 1))), (20, Xv 1 (decide ((((flushD ⟨o, a, c⟩).length : Int) - 1) ≥ 0) && (((((flushD ⟨o, a, c⟩).getD (((flushD ⟨o, a, c⟩).length) - 1) default)).kind) == 0)) X0), (21, Xv 1 (decide ((((flushD ⟨o, a, c⟩).length : Int) - 1) ≥ 0) && (((((flushD ⟨o, a, c⟩).getD (((flushD ⟨o, a, c⟩).length) - 1) default)).kind) == 0)) (Xe dstepT (flushD ⟨o, a, c⟩) (((flushD ⟨o, a, c⟩).length) - 1))), (23, Xv 2 (decide ((((flushD ⟨o, a, c⟩).length : Int) - 1) ≥ 0) && (((((flushD ⟨o, a, c⟩).getD (((flushD ⟨o, a, c⟩).length) - 1) default)).kind) == 0)) (Xc0 (fc_attrSame ((((flushD ⟨o, a, c⟩).getD (((flushD ⟨o, a, c⟩).length) - 1) default)).attrs) l) X0)), (24, X (Xk (decide ((((flushD ⟨o, a, c⟩).length : Int) - 1) ≥ 0) && (((((flushD ⟨o, a, c⟩).getD (((flushD ⟨o, a, c⟩).length) - 1) default)).kind) == 0))))]] ((decide ((((flushD ⟨o, a, c⟩).length : Int) - 1) ≥ 0) && (((((flushD ⟨o, a, c⟩).getD (((flushD ⟨o, a, c⟩).length) - 1) default)).kind) == 0)) && (sameL ((((flushD ⟨o, a, c⟩).getD (((flushD ⟨o, a, c⟩).length) - 1) default)).attrs) l)) (fun h3 => ?_) (fun h3 => ?_)
  ·
   (try simp only [decide_eq_true_eq, decide_eq_false_iff_not, Int.not_lt, Int.not_le, ge_iff_le, Bool.and_eq_true, Bool.and_eq_false_iff, Bool.not_eq_true', Bool.not_eq_false', beq_iff_eq, beq_eq_false_iff_ne, ne_eq] at h3)
   have e1 : ((keepD (flushD ⟨o, a, c⟩) n l).length : Nat) = (flushD ⟨o, a, c⟩).length := by
    unfold keepD; ((repeat' split) <;> first | rfl | omega | (simp_all; done) | (simp_all; omega))
   have e2 : ((keepD (flushD ⟨o, a, c⟩) n l) : List DStep) = ((flushD ⟨o, a, c⟩).set (((flushD ⟨o, a, c⟩).length) - 1) ({ kind := (((flushD ⟨o, a, c⟩).getD (((flushD ⟨o, a, c⟩).length) - 1) default)).kind, n := (((((flushD ⟨o, a, c⟩).getD (((flushD ⟨o, a, c⟩).length) - 1) default)).n) + n), attrs := (((flushD ⟨o, a, c⟩).getD (((flushD ⟨o, a, c⟩).length) - 1) default)).attrs, elems := (((flushD ⟨o, a, c⟩).getD (((flushD ⟨o, a, c⟩).length) - 1) default)).elems } : DStep)) := by
    unfold keepD; ((repeat' split) <;> first | rfl | omega | (simp_all; done) | (simp_all; omega))
   exact .finE [.r [(5, X (Xp' dstepT 1 (flushD ⟨o, a, c⟩) (((flushD ⟨o, a, c⟩).length : Int) - 1) (((flushD ⟨o, a, c⟩).length) - 1))), (7, X (Xe dstepT (flushD ⟨o, a, c⟩) (((flushD ⟨o, a, c⟩).length) - 1))), (9, X (Xn (((((flushD ⟨o, a, c⟩).getD (((flushD ⟨o, a, c⟩).length) - 1) default)).n) + n))), (10, X (Xp' dstepT 1 (flushD ⟨o, a, c⟩) (((flushD ⟨o, a, c⟩).length : Int) - 1) (((flushD ⟨o, a, c⟩).length) - 1))), (12, X (Xs 4 dstepT 1 (flushD ⟨o, a, c⟩) (((flushD ⟨o, a, c⟩).length) - 1) ({ kind := (((flushD ⟨o, a, c⟩).getD (((flushD ⟨o, a, c⟩).length) - 1) default)).kind, n := (((((flushD ⟨o, a, c⟩).getD (((flushD ⟨o, a, c⟩).length) - 1) default)).n) + n), attrs := (((flushD ⟨o, a, c⟩).getD (((flushD ⟨o, a, c⟩).length) - 1) default)).attrs, elems := (((flushD ⟨o, a, c⟩).getD (((flushD ⟨o, a, c⟩).length) - 1) default)).elems } : DStep)))]] [(0, 0), (1, 1), (2, 2), (27, 3)] (fun (z0, z1) => (.tup [], [(0, .box [.row 1 z0, .row 3 0, VI 0]), (1, OR 4 dstepT z1), (2, OF 3 elemT a), (3, OR 3 elemT [])])) (((flushD ⟨o, a, c⟩).length : Nat), (((flushD ⟨o, a, c⟩).set (((flushD ⟨o, a, c⟩).length) - 1) ({ kind := (((flushD ⟨o, a, c⟩).getD (((flushD ⟨o, a, c⟩).length) - 1) default)).kind, n := (((((flushD ⟨o, a, c⟩).getD (((flushD ⟨o, a, c⟩).length) - 1) default)).n) + n), attrs := (((flushD ⟨o, a, c⟩).getD (((flushD ⟨o, a, c⟩).length) - 1) default)).attrs, elems := (((flushD ⟨o, a, c⟩).getD (((flushD ⟨o, a, c⟩).length) - 1) default)).elems } : DStep)) : List DStep)) (((keepD (flushD ⟨o, a, c⟩) n l).length : Nat), ((keepD (flushD ⟨o, a, c⟩) n l) : List DStep)) (pr e1 e2)
  ·
   (try simp only [decide_eq_true_eq, decide_eq_false_iff_not, Int.not_lt, Int.not_le, ge_iff_le, Bool.and_eq_true, Bool.and_eq_false_iff, Bool.not_eq_true', Bool.not_eq_false', beq_iff_eq, beq_eq_false_iff_ne, ne_eq] at h3)
   have e3 : ((keepD (flushD ⟨o, a, c⟩) n l).length : Nat) = ((flushD ⟨o, a, c⟩) ++ [({ kind := 0, n := n, attrs := l, elems := [] } : DStep)]).length := by
    unfold keepD; ((repeat' split) <;> first | rfl | omega | (simp_all; done) | (simp_all; omega))
   have e4 : ((keepD (flushD ⟨o, a, c⟩) n l) : List DStep) = ((flushD ⟨o, a, c⟩) ++ [({ kind := 0, n := n, attrs := l, elems := [] } : DStep)]) := by
    unfold keepD; ((repeat' split) <;> first | rfl | omega | (simp_all; done) | (simp_all; omega))
   exact .finE [.r [(7, X (Xan attrT 347 l)), (8, X (Xf [(3, 3)])), (9, X (rowC attrT l X0)), (10, X (rowC dstepT [({ kind := 0, n := n, attrs := l, elems := [] } : DStep)] (Xap 4 dstepT 1 (flushD ⟨o, a, c⟩) [({ kind := 0, n := n, attrs := l, elems := [] } : DStep)])))]] [(0, 0), (1, 1), (2, 2), (27, 3)] (fun (z0, z1) => (.tup [], [(0, .box [.row 1 z0, .row 3 0, VI 0]), (1, OR 4 dstepT z1), (2, OF 3 elemT a), (3, OR 3 elemT [])])) ((((flushD ⟨o, a, c⟩) ++ [({ kind := 0, n := n, attrs := l, elems := [] } : DStep)]).length : Nat), (((flushD ⟨o, a, c⟩) ++ [({ kind := 0, n := n, attrs := l, elems := [] } : DStep)]) : List DStep)) (((keepD (flushD ⟨o, a, c⟩) n l).length : Nat), ((keepD (flushD ⟨o, a, c⟩) n l) : List DStep)) (pr e3 e4)

theorem fc_dDone (o : List DStep) (a : List Elem) (c : Int) (ho : o.length ≤ 100000000000) (hc : checkD (flushD ⟨o, a, c⟩) = 0) (hd : DN 400000000000 (flushD ⟨o, a, c⟩)) : FC Try.prog 105 [.ptr 0 0] (app emp [(0, .box [.row 1 o.length, .row 2 a.length, VI c]), (1, OR 4 dstepT o), (2, OR 3 elemT a)]) (.tup [.row 1 ((flushD ⟨o, a, c⟩).length), VI 0]) (app emp [(0, .box [.row 1 ((flushD ⟨o, a, c⟩).length), .row 3 0, VI 0]), (1, OR 4 dstepT (flushD ⟨o, a, c⟩)), (2, OF 3 elemT a), (3, OR 3 elemT [])]) := by
 refine .go Try.f105 ?_
 refine .br [.r [], .r [(1, X (Xc3 27 [(0, 0), (1, 1), (2, 2)] (fc_dFlush o a c (by omega)) X0))], .r [(4, X (Xc0 (fc_dCheck (flushD ⟨o, a, c⟩) (by assumption)) (rowC dstepT (flushD ⟨o, a, c⟩) X0)))]] ((checkD (flushD ⟨o, a, c⟩)) != 0) (fun h2 => ?_) (fun h2 => ?_)
 ·
  (try simp only [bne_iff_ne, bne_eq_false_iff_eq, ne_eq] at h2)
  exfalso
  omega
 ·
  (try simp only [bne_iff_ne, bne_eq_false_iff_eq, ne_eq] at h2)
  exact .fin [.r []] [(0, 0), (1, 1), (2, 2), (27, 3)]
end Go.Ch
end
section
set_option linter.unusedVariables false
set_option linter.unusedSimpArgs false
namespace Go.Ch
open Go Go.Ab

def putU (w : DWr) : DU → DWr
  | .K c => ⟨keepD (flushD w) 1 c, [], 0⟩
  | .A e => ⟨w.out, w.add ++ [e], w.cut⟩
  | .C => ⟨w.out, w.add, w.cut + 1⟩
def foldD (w : DWr) : List DU → DWr
  | [] => w
  | u :: us => foldD (putU w u) us
theorem foldD_As (e : List Elem) (us : List DU) : ∀ w : DWr, foldD w (e.map .A ++ us) = foldD ⟨w.out, w.add ++ e, w.cut⟩ us := by
  induction e with
  | nil => intro w; simp
  | cons x e ih => intro w; simp only [List.map_cons, List.cons_append, foldD, putU]; rw [ih]; simp
theorem foldD_Cs (n : Nat) (us : List DU) : ∀ w : DWr, foldD w (List.replicate n .C ++ us) = foldD ⟨w.out, w.add, w.cut + n⟩ us := by
  induction n with
  | zero => intro w; simp
  | succ n ih => intro w; simp only [List.replicate_succ, List.cons_append, foldD, putU]; rw [ih]; simp only; rw [show w.cut + 1 + (n : Int) = w.cut + ((n + 1 : Nat) : Int) by omega]
theorem flushD_nil (l : List DStep) : flushD ⟨l, [], 0⟩ = l := by simp [flushD]
theorem keepD_keepD {l : List DStep} {m n : Int} {c : List Attr} : keepD (keepD l m c) n c = keepD l (m + n) c := by
  unfold keepD
  by_cases h : 0 < l.length ∧ (l.getD (l.length - 1) default).kind = 0 ∧ sameL (l.getD (l.length - 1) default).attrs c = true
  · rw [if_pos h, if_pos h, setD h.1, setD h.1]
    generalize l.getD (l.length - 1) default = x at *
    have e : ∀ y : DStep, (List.take (l.length - 1) l ++ [y]).getD ((List.take (l.length - 1) l ++ [y]).length - 1) default = y := fun y => by simp
    rw [e, if_pos ⟨by simp, h.2.1, h.2.2⟩, setD (by simp)]
    have t : ∀ y : DStep, (List.take (l.length - 1) l ++ [y]).take ((List.take (l.length - 1) l ++ [y]).length - 1) = List.take (l.length - 1) l := fun y => by simp
    rw [t, Int.add_assoc]
  · rw [if_neg h, if_neg h]
    have e : ∀ y : DStep, (l ++ [y]).getD ((l ++ [y]).length - 1) default = y := fun y => by simp
    rw [e, if_pos ⟨by simp, rfl, sameL_self c⟩, setD (by simp)]
    simp
theorem foldD_Ks (c : List Attr) (us : List DU) : ∀ (n : Nat) (w : DWr), foldD w (List.replicate (n + 1) (.K c) ++ us) = foldD ⟨keepD (flushD w) ((n + 1 : Nat) : Int) c, [], 0⟩ us
  | 0, w => by simp [foldD, putU]
  | n + 1, w => by
    rw [List.replicate_succ, List.cons_append, foldD, foldD_Ks c us n]
    simp only [putU]
    rw [flushD_nil, keepD_keepD, show (1 : Int) + ((n + 1 : Nat) : Int) = ((n + 1 + 1 : Nat) : Int) by omega]
def UnitOk : DU → Prop
  | .K c => VG true c ∧ c.length ≤ 400000000000
  | .A e => elemE e = 0 ∧ e.attrs.length ≤ 400000000000
  | .C => True
/-- Bounds of what the writer holds. -/
structure WBd (w : DWr) : Prop where
  out : DN 400000000000 w.out
  add : AN 400000000000 w.add
theorem WBd.flush {w : DWr} (h : WBd w) (hl : w.add.length ≤ 400000000000) : DN 400000000000 (flushD w) := by
  intro s hs
  unfold flushD at hs
  simp only [List.mem_append] at hs
  rcases hs with (hs | hs) | hs
  · exact h.out s hs
  · split at hs
    · rw [List.mem_singleton] at hs; subst hs; exact ⟨hl, by simp, h.add⟩
    · cases hs
  · split at hs
    · rw [List.mem_singleton] at hs; subst hs; exact ⟨by simp, by simp, fun x hx => by cases hx⟩
    · cases hs
theorem WBd.keep {w : DWr} {n : Int} {c : List Attr} (h : WBd w) (hl : w.add.length ≤ 400000000000) (hc : c.length ≤ 400000000000) : WBd ⟨keepD (flushD w) n c, [], 0⟩ := by
  have hf := h.flush hl
  refine ⟨fun s hs => ?_, fun x hx => by cases hx⟩
  simp only at hs
  unfold keepD at hs
  split at hs
  · rename_i q
    rw [setD q.1, List.mem_append] at hs
    rcases hs with hs | hs
    · exact hf s (List.mem_of_mem_take hs)
    · rw [List.mem_singleton] at hs; subst hs
      have := hf _ (lastD_mem q.1)
      exact this
  · rw [List.mem_append] at hs
    rcases hs with hs | hs
    · exact hf s hs
    · rw [List.mem_singleton] at hs; subst hs; exact ⟨by simp, hc, fun x hx => by cases hx⟩
theorem exS_len {s : DStep} (h : DOkW s) : 1 ≤ (exS s).length ∧ (s.kind ≠ 1 → s.n ≤ (exS s).length) ∧ 0 ≤ s.n ∧ (s.kind = 1 → s.n = 0) := by
  unfold exS
  rcases h with ⟨k, n, a, e, _⟩ | ⟨k, _, _, n1, _⟩
  · rw [if_pos k, List.length_map]
    have : 0 < s.elems.length := List.length_pos_iff.2 e
    exact ⟨this, fun q => absurd k q, by omega, fun _ => n⟩
  · have k1 : ¬ s.kind = 1 := by omega
    rw [if_neg k1]
    refine ⟨?_, fun _ => ?_, by omega, fun q => absurd q k1⟩ <;> split <;> simp <;> omega
theorem exD_len : ∀ {l : List DStep}, (∀ s ∈ l, DOkW s) → l.length ≤ (exD l).length ∧ ∀ s ∈ l, 0 ≤ s.n ∧ s.n ≤ ((exD l).length : Int)
  | [], _ => ⟨Nat.le_refl _, fun s hs => by cases hs⟩
  | s :: l, h => by
    have h1 := exS_len (h s (by simp))
    have h2 := exD_len (l := l) (fun t ht => h t (by simp [ht]))
    simp only [exD, List.length_append, List.length_cons]
    refine ⟨by omega, fun t ht => ?_⟩
    rcases List.mem_cons.1 ht with rfl | ht
    · refine ⟨h1.2.2.1, ?_⟩
      by_cases k : t.kind = 1
      · have := h1.2.2.2 k; omega
      · have := h1.2.1 k; omega
    · have := h2.2 t ht; omega
/-- The writer, what it is still to be fed, how much that is in all, and where it ends. -/
structure DI (w : DWr) (us : List DU) (T : Nat) (G : DWr) : Prop where
  good : GoodD w
  wb : WBd w
  units : ∀ u ∈ us, UnitOk u
  len : (exDW w).length + us.length = T
  small : T ≤ 8589934592
  eq : foldD w us = G
variable {w G : DWr} {us : List DU} {T : Nat}
theorem DI.bd (h : DI w us T G) : w.out.length ≤ T ∧ w.add.length ≤ T ∧ 0 ≤ w.cut ∧ w.cut ≤ T ∧ us.length ≤ T ∧ T ≤ 8589934592 ∧ w.add.length + us.length ≤ T ∧ w.cut + us.length ≤ T := by
  have h1 := (exD_len h.good.ok).1
  have h2 := h.good.cut
  have h3 := h.len
  have h4 := h.small
  unfold exDW at h3
  simp only [List.length_append, List.length_replicate, List.length_map] at h3
  omega
theorem DI.fl (h : DI w us T G) : (∀ s ∈ flushD w, 0 ≤ s.n ∧ s.n ≤ 10000000000) ∧ DN 400000000000 (flushD w) := by
  have hb := h.bd
  refine ⟨fun s hs => ?_, h.wb.flush (by omega)⟩
  have h1 := (exD_len (flushD_ok h.good).1).2 s hs
  rw [flushD_ex h.good] at h1
  have h3 := h.len
  omega
theorem DI.keep {n : Nat} {c : List Attr} (h : DI w (List.replicate (n + 1) (.K c) ++ us) T G) : DI ⟨keepD (flushD w) ((n + 1 : Nat) : Int) c, [], 0⟩ us T G := by
  have hu := h.units (.K c) (by rw [List.replicate_succ]; simp)
  have hb := h.bd
  obtain ⟨g1, g2⟩ := h.good.keep (n := ((n + 1 : Nat) : Int)) (by omega) hu.1
  refine ⟨g1, h.wb.keep (by omega) hu.2, fun u hu => h.units u (by simp [hu]), ?_, h.small, ?_⟩
  · have h3 := h.len
    rw [g2]
    simp only [List.length_append, List.length_replicate] at h3 ⊢
    omega
  · rw [← h.eq, foldD_Ks]
theorem dsw_len {u v : List DU} (h : DSw u v) : u.length = v.length := by
  induction h with
  | refl u => rfl
  | cons x _ ih => simp [ih]
  | swap e u => rfl
  | symm _ ih => exact ih.symm
  | trans _ _ a b => exact a.trans b
theorem DI.elems {e : List Elem} (h : DI w (e.map .A ++ us) T G) : DI ⟨w.out, w.add ++ e, w.cut⟩ us T G := by
  have hu : ∀ x ∈ e, UnitOk (.A x) := fun x hx => h.units (.A x) (by simp [hx])
  obtain ⟨g1, g2⟩ := h.good.elems (e := e) (fun x hx => (hu x hx).1)
  refine ⟨g1, ⟨h.wb.out, fun x hx => ?_⟩, fun u hu => h.units u (by simp [hu]), ?_, h.small, ?_⟩
  · rcases List.mem_append.1 hx with hx | hx
    · exact h.wb.add x hx
    · exact (hu x hx).2
  · have h3 := h.len
    rw [dsw_len g2]
    simp only [List.length_append, List.length_map] at h3 ⊢
    omega
  · rw [← h.eq, foldD_As]
theorem DI.cuts {n : Nat} (h : DI w (List.replicate n .C ++ us) T G) : DI ⟨w.out, w.add, w.cut + n⟩ us T G := by
  obtain ⟨g1, g2⟩ := h.good.cuts (n := (n : Int)) (by omega)
  refine ⟨g1, ⟨h.wb.out, h.wb.add⟩, fun u hu => h.units u (by simp [hu]), ?_, h.small, ?_⟩
  · have h3 := h.len
    rw [g2]
    simp only [List.length_append, List.length_replicate] at h3 ⊢
    omega
  · rw [← h.eq, foldD_Cs]
theorem DI.done (h : DI w [] T G) : w = G := h.eq
def doneD (us : List DU) : List DStep := flushD (foldD ⟨[], [], 0⟩ us)
theorem DI.start (h : ∀ u ∈ us, UnitOk u) (hs : us.length ≤ 8589934592) : DI ⟨[], [], 0⟩ us us.length (foldD ⟨[], [], 0⟩ us) :=
  ⟨goodD0, ⟨fun s h => (by cases h), fun x h => (by cases h)⟩, h, by simp [exDW, exD], hs, rfl⟩
theorem foldD_ok : ∀ (us : List DU) (w : DWr), GoodD w → (∀ u ∈ us, UnitOk u) → GoodD (foldD w us) ∧ DSw (exDW (foldD w us)) (exDW w ++ us)
  | [], w, h, _ => ⟨h, by simp only [foldD, List.append_nil]; exact .refl _⟩
  | u :: us, w, h, hu => by
    have h0 := hu u (by simp)
    have hp : GoodD (putU w u) ∧ DSw (exDW (putU w u)) (exDW w ++ [u]) := by
      cases u with
      | K c =>
        obtain ⟨g1, g2⟩ := h.keep (n := 1) (by decide) h0.1
        exact ⟨g1, by simp only [putU]; rw [g2]; exact .refl _⟩
      | A e =>
        obtain ⟨g1, g2⟩ := h.elems (e := [e]) (fun x hx => by rw [List.mem_singleton] at hx; subst hx; exact h0.1)
        exact ⟨g1, g2⟩
      | C =>
        obtain ⟨g1, g2⟩ := h.cuts (n := 1) (by decide)
        exact ⟨g1, by simp only [putU]; rw [g2]; exact .refl _⟩
    obtain ⟨q1, q2⟩ := foldD_ok us (putU w u) hp.1 (fun v hv => hu v (by simp [hv]))
    refine ⟨q1, .trans q2 ?_⟩
    have := hp.2.right us
    simpa using this
theorem doneD_ok (h : ∀ u ∈ us, UnitOk u) (h1 : oldN us ≤ 2147483647) (h2 : newN us ≤ 2147483647) :
    DValid (doneD us) ∧ DSw (exD (doneD us)) us ∧ oldD (doneD us) = oldN us ∧ newD (doneD us) = newN us := by
  obtain ⟨q1, q2⟩ := foldD_ok us ⟨[], [], 0⟩ goodD0 h
  exact q1.valid (by simpa [exDW, exD] using q2) h1 h2
end Go.Ch
end
section
set_option linter.unusedVariables false
set_option linter.unusedSimpArgs false
namespace Go.Ch
open Go Go.Ab

theorem fm_len' (g : Attr → Attr → Option Attr) (a b : List Attr) : (fm g a b).length ≤ a.length + b.length := by
  unfold fm
  exact Nat.le_trans (List.length_filterMap_le _ _) (bothL_len a b)
def bk (c : List Attr) (x : Elem) : List Attr := fm chgG (fm rawG x.attrs c) x.attrs
def KOk (us : List DU) : Prop := (∀ c, DU.K c ∈ us → VG true c ∧ c.length ≤ 100000000000) ∧ (∀ e, DU.A e ∈ us → elemE e = 0 ∧ e.attrs.length ≤ 100000000000)
def EOk (r : List Elem) : Prop := ∀ x ∈ r, elemE x = 0 ∧ x.attrs.length ≤ 100000000000
theorem KOk.tail {u : DU} {us : List DU} (h : KOk (u :: us)) : KOk us := ⟨fun c hc => h.1 c (by simp [hc]), fun e he => h.2 e (by simp [he])⟩
theorem EOk.tail {x : Elem} {r : List Elem} (h : EOk (x :: r)) : EOk r := fun y hy => h y (by simp [hy])
theorem applyU_len : ∀ (us : List DU) (r : List Elem), oldN us = r.length → (applyU us r).length = newN us
  | [], r, h => by simp [applyU, newN]
  | .A e :: us, r, h => by
    have := applyU_len us r (by simpa [oldN] using h)
    simp [applyU, newN, this]
  | .K c :: us, [], h => by simp [oldN] at h
  | .C :: us, [], h => by simp [oldN] at h
  | .K c :: us, x :: r, h => by
    have := applyU_len us r (by simpa [oldN] using h)
    simp [applyU, newN, this]
  | .C :: us, x :: r, h => by
    have := applyU_len us r (by simpa [oldN] using h)
    simp [applyU, newN, this]
def undoD (f : List Elem) (l : List DStep) : List DStep := doneD (undoU (exD l) f)
variable {w G : DWr} {us : List DU} {T : Nat}
theorem DI.run {g : Elem → List Attr} {t : List Elem} {j : Nat} (hj : j < t.length) (h : DI w ((t.drop j).map (fun x => DU.K (g x)) ++ us) T G) :
    UnitOk (.K (g (t.getD j default))) ∧ DI ⟨keepD (flushD w) 1 (g (t.getD j default)), [], 0⟩ ((t.drop (j + 1)).map (fun x => DU.K (g x)) ++ us) T G := by
  rw [dropD hj, List.map_cons, List.cons_append] at h
  exact ⟨h.units _ (by simp), h.keep (n := 0)⟩
theorem DN.mono {m n : Nat} {l : List DStep} (h : DN m l) (hm : m ≤ n) : DN n l := fun s hs => ⟨Nat.le_trans (h s hs).1 hm, Nat.le_trans (h s hs).2.1 hm, fun x hx => Nat.le_trans ((h s hs).2.2 x hx) hm⟩
theorem EOk.an {f : List Elem} (h : EOk f) : AN 400000000000 f := fun x hx => by have := (h x hx).2; omega
theorem EOk.take {f : List Elem} (h : EOk f) (n : Nat) : EOk (f.take n) := fun x hx => h x (List.mem_of_mem_take hx)
theorem EOk.drop {f : List Elem} (h : EOk f) (n : Nat) : EOk (f.drop n) := fun x hx => h x (List.mem_of_mem_drop hx)
end Go.Ch
end
section
set_option linter.unusedVariables false
set_option linter.unusedSimpArgs false
set_option maxRecDepth 100000
set_option maxHeartbeats 4000000
open Go Go.Proofs Go.Ab
namespace Go.Ch
end Go.Ch
end
section
set_option linter.unusedVariables false
set_option linter.unusedSimpArgs false
namespace Go.Ch
open Go Go.Ab

def elemsT (l : List Elem) : Tree := .lst 3 (l.map elemT)
def boolT (b : Bool) : Tree := .sc (.bool b)
def attrsT (l : List Attr) : Tree := .lst 2 (l.map attrT)
structure Act where
  ins : List (List Elem)
  cut : List Bool
  set : List (List Attr)
def actT (x : Act) : Tree := .agg [.lst 1 (x.ins.map elemsT), .lst 1 (x.cut.map boolT), .lst 1 (x.set.map attrsT)]
/-- What is left from place i on, as units. -/
def actR (x : Act) (i : Nat) : List DU :=
  if i < x.cut.length then (x.ins.getD i default).map .A ++ ((if x.cut.getD i default = true then .C else .K (x.set.getD i default)) :: actR x (i + 1))
  else (x.ins.getD i default).map .A
termination_by x.cut.length - i
def tailR (x : Act) (i : Nat) : List DU := if i < x.cut.length then (if x.cut.getD i default = true then .C else .K (x.set.getD i default)) :: actR x (i + 1) else []
variable {w G : DWr} {us : List DU} {T : Nat}
theorem DI.keep1 {c : List Attr} (h : DI w (.K c :: us) T G) : DI ⟨keepD (flushD w) 1 c, [], 0⟩ us T G := DI.keep (n := 0) h
theorem DI.cut1 (h : DI w (.C :: us) T G) : DI ⟨w.out, w.add, w.cut + 1⟩ us T G := DI.cuts (n := 1) h
theorem DI.of_eq {o o' : List DStep} {a : List Elem} {c : Int} (e : o' = o) (h : DI ⟨o, a, c⟩ us T G) : DI ⟨o', a, c⟩ us T G := e ▸ h
end Go.Ch
end
section
set_option linter.unusedVariables false
set_option linter.unusedSimpArgs false
set_option maxRecDepth 100000
set_option maxHeartbeats 4000000
open Go Go.Proofs Go.Ab
namespace Go.Ch
end Go.Ch
end
section
set_option linter.unusedVariables false
set_option linter.unusedSimpArgs false
namespace Go.Ch
open Go Go.Ab

inductive U where
  | K
  | A
  | C
/-- Adds and cuts at one gap may be exchanged. -/
inductive Sw : List U → List U → Prop
  | refl (u : List U) : Sw u u
  | cons (x : U) {u v : List U} (h : Sw u v) : Sw (x :: u) (x :: v)
  | swap (u : List U) : Sw (.A :: .C :: u) (.C :: .A :: u)
  | symm {u v : List U} (h : Sw u v) : Sw v u
  | trans {u v w : List U} (h : Sw u v) (k : Sw v w) : Sw u w
theorem Sw.of_eq {u v : List U} (h : u = v) : Sw u v := h ▸ .refl u
theorem Sw.left (w : List U) {u v : List U} (h : Sw u v) : Sw (w ++ u) (w ++ v) := by
  induction w with
  | nil => exact h
  | cons x w ih => exact .cons x ih
theorem Sw.right (w : List U) {u v : List U} (h : Sw u v) : Sw (u ++ w) (v ++ w) := by
  induction h with
  | refl u => exact .refl _
  | cons x _ ih => exact .cons x ih
  | swap u => exact .swap _
  | symm _ ih => exact .symm ih
  | trans _ _ a b => exact .trans a b
abbrev rep (n : Nat) (x : U) : List U := List.replicate n x
def bumpA : List (Nat × Nat) → List (Nat × Nat)
  | [] => []
  | (a, c) :: r => (a + 1, c) :: r
def bumpC : List (Nat × Nat) → List (Nat × Nat)
  | [] => []
  | (a, c) :: r => (a, c + 1) :: r
def beta : List U → List (Nat × Nat)
  | [] => [(0, 0)]
  | .K :: u => (0, 0) :: beta u
  | .A :: u => bumpA (beta u)
  | .C :: u => bumpC (beta u)
def unb : List (Nat × Nat) → List U
  | [] => []
  | [(a, c)] => rep a .A ++ rep c .C
  | (a, c) :: s :: r => rep a .A ++ (rep c .C ++ .K :: unb (s :: r))
/-! ### Joining -/
def joinU : List U → List U → List U
  | .C :: p, q => .C :: joinU p q
  | [], q => q
  | .K :: p, [] => .K :: joinU p []
  | .A :: p, [] => .A :: joinU p []
  | .K :: p, .A :: q => .A :: joinU (.K :: p) q
  | .A :: p, .A :: q => .A :: joinU (.A :: p) q
  | .K :: p, .K :: q => .K :: joinU p q
  | .K :: p, .C :: q => .C :: joinU p q
  | .A :: p, .K :: q => .A :: joinU p q
  | .A :: p, .C :: q => joinU p q
termination_by p q => p.length + q.length
def oldU : List U → Nat
  | [] => 0
  | .A :: u => oldU u
  | .K :: u => oldU u + 1
  | .C :: u => oldU u + 1
def newU : List U → Nat
  | [] => 0
  | .C :: u => newU u
  | .K :: u => newU u + 1
  | .A :: u => newU u + 1
/-! ### Rebasing -/
def pairU : List U → List U → List U × List U
  | .A :: p, q => (.A :: (pairU p q).1, .K :: (pairU p q).2)
  | p, .A :: q => (.K :: (pairU p q).1, .A :: (pairU p q).2)
  | .K :: p, .K :: q => (.K :: (pairU p q).1, .K :: (pairU p q).2)
  | .K :: p, .C :: q => ((pairU p q).1, .C :: (pairU p q).2)
  | .C :: p, .K :: q => (.C :: (pairU p q).1, (pairU p q).2)
  | .C :: p, .C :: q => pairU p q
  | _, _ => ([], [])
termination_by p q => p.length + q.length
end Go.Ch
end
section
set_option linter.unusedVariables false
set_option linter.unusedSimpArgs false
namespace Go.Ch
open Go Go.Ab

structure AxStep where
  kind : Int
  n : Int
instance : Inhabited AxStep := ⟨⟨0, 0⟩⟩
def stepT (s : AxStep) : Tree := .agg [.sc (.int .i64 s.kind), .sc (.int .i64 s.n)]
def uOf (k : Int) : U := if k = 1 then .A else if k = 2 then .C else .K
def ex : List AxStep → List U
  | [] => []
  | s :: l => rep s.n.toNat (uOf s.kind) ++ ex l
def Ok1 (s : AxStep) : Prop := 0 ≤ s.kind ∧ s.kind ≤ 2 ∧ 1 ≤ s.n
def Nx (s t : AxStep) : Prop := s.kind ≠ t.kind ∧ ¬ (s.kind = 2 ∧ t.kind = 1)
def Form : List AxStep → Prop
  | [] => True
  | [s] => Ok1 s
  | s :: t :: l => Ok1 s ∧ Nx s t ∧ Form (t :: l)
theorem Form.head {s : AxStep} {l : List AxStep} (h : Form (s :: l)) : Ok1 s := by
  cases l with
  | nil => exact h
  | cons t l => exact h.1
theorem Form.tail {s : AxStep} {l : List AxStep} (h : Form (s :: l)) : Form l := by
  cases l with
  | nil => trivial
  | cons t l => exact h.2.2
theorem Form.all : ∀ {l : List AxStep}, Form l → ∀ s ∈ l, Ok1 s
  | [], _, s, h => by cases h
  | t :: l, h, s, hs => by
    rcases List.mem_cons.1 hs with rfl | hs
    · exact h.head
    · exact h.tail.all s hs
theorem rep_add (m n : Nat) (x : U) : rep (m + n) x = rep m x ++ rep n x := List.replicate_append_replicate.symm
/-! ### One form for each effect -/
def opt1 (k : Int) (n : Nat) : List AxStep := if n = 0 then [] else [⟨k, n⟩]
def rend (k : Nat) : List (Nat × Nat) → List AxStep
  | [] => opt1 0 k
  | (a, c) :: r => if a = 0 ∧ c = 0 then (if r = [] then opt1 0 k else rend (k + 1) r) else opt1 0 k ++ opt1 1 a ++ opt1 2 c ++ (if r = [] then [] else rend 1 r)
/-! ### The writer -/
structure Wr where
  out : List AxStep
  add : Int
  cut : Int
def flushW (w : Wr) : List AxStep := w.out ++ (if 0 < w.add then [⟨1, w.add⟩] else []) ++ (if 0 < w.cut then [⟨2, w.cut⟩] else [])
def keepW (l : List AxStep) (n : Int) : List AxStep :=
  if 0 < l.length ∧ (l.getD (l.length - 1) default).kind = 0 then l.set (l.length - 1) ⟨(l.getD (l.length - 1) default).kind, (l.getD (l.length - 1) default).n + n⟩ else l ++ [⟨0, n⟩]
def putW (w : Wr) (k n : Int) : Wr :=
  if n = 0 then w else if k = 1 then ⟨w.out, w.add + n, w.cut⟩ else if k = 2 then ⟨w.out, w.add, w.cut + n⟩ else ⟨keepW (flushW w) n, 0, 0⟩
def exW (w : Wr) : List U := ex w.out ++ (rep w.add.toNat .A ++ rep w.cut.toNat .C)
structure GoodW (w : Wr) : Prop where
  form : Form w.out
  last : ∀ t, w.out.getLast? = some t → t.kind = 0
  add : 0 ≤ w.add
  cut : 0 ≤ w.cut
/-- Puts one unit after the other. -/
def kOf : U → Int
  | .K => 0
  | .A => 1
  | .C => 2
def foldW (w : Wr) : List U → Wr
  | [] => w
  | u :: us => foldW (putW w (kOf u) 1) us
def doneW (us : List U) : List AxStep := flushW (foldW ⟨[], 0, 0⟩ us)
end Go.Ch
end
section
set_option linter.unusedVariables false
set_option linter.unusedSimpArgs false
namespace Go.Ch
open Go Go.Ab

/-! ### The check -/
def chkX (l : List AxStep) (i : Nat) (b a : Int) : Int :=
  if i < l.length then
    if (l.getD i default).kind < 0 ∨ 2 < (l.getD i default).kind then 8
    else if (l.getD i default).n < 1 ∨ 2147483647 < (l.getD i default).n then 2
    else if 0 < i ∧ ((l.getD (i - 1) default).kind = (l.getD i default).kind ∨ ((l.getD (i - 1) default).kind = 2 ∧ (l.getD i default).kind = 1)) then 5
    else chkX l (i + 1) (if (l.getD i default).kind ≠ 1 then min (b + (l.getD i default).n) 2147483648 else b) (if (l.getD i default).kind ≠ 2 then min (a + (l.getD i default).n) 2147483648 else a)
  else if 2147483647 < b ∨ 2147483647 < a then 3 else 0
termination_by l.length - i
def checkX (l : List AxStep) : Int := chkX l 0 0 0
def FormAt (l : List AxStep) (i : Nat) : Prop := ∀ k, i ≤ k → k < l.length → Ok1 (l.getD k default) ∧ (0 < k → Nx (l.getD (k - 1) default) (l.getD k default))
theorem at_of_form : ∀ {l : List AxStep}, Form l → FormAt l 0
  | [], _ => fun k _ hk => by simp at hk
  | s :: l, h => by
    have ih := at_of_form h.tail
    intro k _ hk
    cases k with
    | zero => exact ⟨h.head, fun h => absurd h (by decide)⟩
    | succ k =>
      have := ih k (by omega) (by simpa using hk)
      refine ⟨by simpa using this.1, fun _ => ?_⟩
      cases k with
      | zero =>
        cases l with
        | nil => simp at hk
        | cons t l => exact h.2.1
      | succ k => simpa using this.2 (by omega)
def Valid (l : List AxStep) : Prop := Form l ∧ oldU (ex l) ≤ 2147483647 ∧ newU (ex l) ≤ 2147483647
/-! ### Readers -/
def ru (l : List AxStep) (u : Int) : List U := (ex l).drop u.toNat
structure GoodR (l : List AxStep) (u : Int) : Prop where
  form : Form l
  pos : 0 ≤ u
  nil : l.length = 0 → u = 0
  lt : 0 < l.length → u < (l.getD 0 default).n
theorem good_r {l : List AxStep} (h : Form l) : GoodR l 0 := ⟨h, Int.le_refl _, fun _ => rfl, fun h0 => by
  have := (at_of_form h) 0 (Nat.le_refl _) h0
  have := this.1.2.2
  omega⟩
theorem ru0 (l : List AxStep) : ru l 0 = ex l := rfl
theorem ru_cons {l : List AxStep} {u : Int} (h : GoodR l u) (h0 : 0 < l.length) :
    ru l u = rep ((l.getD 0 default).n - u).toNat (uOf (l.getD 0 default).kind) ++ ex (l.drop 1) := by
  have h1 := h.lt h0
  have h2 := h.pos
  cases l with
  | nil => simp at h0
  | cons s l =>
    simp only [List.getD_cons_zero] at h1 ⊢
    unfold ru
    rw [ex, List.drop_append_of_le_length (by simp; omega), List.drop_replicate]
    congr 2
    omega
theorem GoodR.ok {l : List AxStep} {u : Int} (h : GoodR l u) (h0 : 0 < l.length) : Ok1 (l.getD 0 default) := ((at_of_form h.form) 0 (Nat.le_refl _) h0).1
theorem GoodR.take {l : List AxStep} {u n : Int} (h : GoodR l u) (h0 : 0 < l.length) (hn : 0 ≤ n) (hl : n ≤ (l.getD 0 default).n - u) :
    (u + n = (l.getD 0 default).n → GoodR (l.drop 1) 0 ∧ rep n.toNat (uOf (l.getD 0 default).kind) ++ ru (l.drop 1) 0 = ru l u) ∧
    (u + n ≠ (l.getD 0 default).n → GoodR l (u + n) ∧ rep n.toNat (uOf (l.getD 0 default).kind) ++ ru l (u + n) = ru l u) := by
  have h1 := h.lt h0
  have h2 := h.pos
  constructor
  · intro e
    refine ⟨good_r ?_, ?_⟩
    · cases l with
      | nil => trivial
      | cons s l => exact h.form.tail
    · rw [ru_cons h h0, ru0]
      congr 2
      omega
  · intro e
    have g : GoodR l (u + n) := ⟨h.form, by omega, fun hh => by omega, fun _ => by omega⟩
    refine ⟨g, ?_⟩
    rw [ru_cons h h0, ru_cons g h0, ← List.append_assoc, ← rep_add]
    congr 2
    omega
/-! ### Run by run -/
/-- Nothing, or not a cut first. -/
def NoC : List U → Prop
  | .C :: _ => False
  | _ => True
def NoA : List U → Prop
  | .A :: _ => False
  | _ => True
end Go.Ch
end
section
set_option linter.unusedVariables false
set_option linter.unusedSimpArgs false
set_option maxRecDepth 100000
set_option maxHeartbeats 4000000
open Go Go.Proofs Go.Ab
namespace Go.Ch
def intT (z : Int) : Tree := .sc (.int .i64 z)
def withinI (x lo hi : Int) : Int := lo + ((x.tmod (hi - lo + 1)) + (hi - lo + 1)).tmod (hi - lo + 1)
def rollV (raw : List Int) (used n : Int) : Int := if raw.length = 0 then 0 else withinI (IntKind.i64.wrap (raw.getD ((used + 1 - 1) % (raw.length : Int)).toNat default + (used + 1) / (raw.length : Int))) 0 (n - 1)
def rollU (raw : List Int) (used : Int) : Int := if raw.length = 0 then used else used + 1
def segE (u : List Int) (i k : Nat) : Nat := if k < u.length ∧ (u.getD k default = 0 ↔ u.getD i default = 0) then segE u i (k + 1) else k
termination_by u.length - k
def cntX (u : List Int) (i k : Nat) (x : Int) : Nat := ((u.drop i).take (k - i)).countP (fun y => decide (y = x))
def o1 (k : Int) (n : Nat) : List AxStep := if 0 < n then [⟨k, (n : Int)⟩] else []
def o3 (a b c : Nat) : List AxStep := o1 0 a ++ (o1 1 b ++ o1 2 c)
theorem segE_ge (u : List Int) (i k : Nat) : k ≤ segE u i k := by
  induction k using segE.induct (u := u) (i := i) with
  | case1 k h ih => rw [segE, if_pos h]; omega
  | case2 k h => rw [segE, if_neg h]; omega
theorem segE_gt (u : List Int) (i : Nat) (h : i < u.length) : i < segE u i i := by
  rw [segE, if_pos ⟨h, Iff.rfl⟩]; exact segE_ge _ _ _
def stepsL (u : List Int) (i : Nat) (out : List AxStep) : List AxStep :=
  if h : i < u.length then stepsL u (segE u i i) (out ++ o3 (cntX u i (segE u i i) 0) (cntX u i (segE u i i) 1) (cntX u i (segE u i i) 2)) else out
termination_by u.length - i
decreasing_by have := segE_gt u i h; omega
end Go.Ch
end
section
set_option linter.unusedVariables false
set_option linter.unusedSimpArgs false
namespace Go.Ch
open Go Go.Ab

def onB : ByteArray := { data := #[111, 110] }
def boldB : ByteArray := { data := #[98, 111, 108, 100] }
def insE (tag : ByteArray) (i j : Nat) : Elem := ⟨65 + ((i : Int) + (j : Int)) % 26, 0, [⟨tag, { data := #[111, 110] }⟩]⟩
def insL (tag : ByteArray) (i k : Nat) : List Elem := (List.range k).map (insE tag i)
def setL (tag : ByteArray) (v : Int) : List Attr :=
  if v = 1 then [⟨{ data := #[98, 111, 108, 100] }, { data := #[111, 110] }⟩]
  else if v = 2 then [⟨{ data := #[98, 111, 108, 100] }, { data := #[] }⟩]
  else if v = 3 then [⟨{ data := #[98, 111, 108, 100] }, tag⟩, ⟨tag, { data := #[111, 110] }⟩] else []
def insK (raw : List Int) (used : Int) : Nat := (max 0 (rollV raw used 8 - 5)).toNat
def chgF (raw : List Int) (tag : ByteArray) (n : Nat) : Nat → Int → Act → Act
  | 0, used, x => ⟨x.ins ++ [insL tag n (insK raw used)], x.cut, x.set⟩
  | k + 1, used, x => chgF raw tag n k (rollU raw (rollU raw (rollU raw used)))
      ⟨x.ins ++ [insL tag (n - (k + 1)) (insK raw used)], x.cut ++ [rollV raw (rollU raw (rollU raw used)) 8 == 0], x.set ++ [setL tag (rollV raw (rollU raw used) 8)]⟩
def chgX (raw : List Int) (tag : ByteArray) (n : Nat) : Act := chgF raw tag n n 0 ⟨[], [], []⟩
def TagOk (tag : ByteArray) : Prop := (∀ v, VG true (setL tag v)) ∧ VG false [⟨tag, { data := #[111, 110] }⟩]
structure ActOk (x : Act) : Prop where
  ins : ∀ e ∈ x.ins, e.length ≤ 2 ∧ ∀ y ∈ e, elemE y = 0 ∧ y.attrs.length ≤ 100
  set : ∀ c ∈ x.set, VG true c ∧ c.length ≤ 100
def UnitS : DU → Prop
  | .K c => VG true c ∧ c.length ≤ 100
  | .A e => elemE e = 0 ∧ e.attrs.length ≤ 100
  | .C => True
theorem UnitS.ok {u : DU} (h : UnitS u) : UnitOk u := by
  cases u with
  | K c => exact ⟨h.1, by have := h.2; omega⟩
  | A e => exact ⟨h.1, by have := h.2; omega⟩
  | C => trivial
theorem getD_mem' {α : Type} [Inhabited α] {l : List α} {k : Nat} (h : k < l.length) : l.getD k default ∈ l := by
  rw [show l.getD k default = l[k] by simp [List.getD, List.getElem?_eq_getElem h]]
  exact List.getElem_mem h
theorem dsw_mem {u v : List DU} (h : DSw u v) : ∀ x, x ∈ u ↔ x ∈ v := by
  induction h with
  | refl u => exact fun x => Iff.rfl
  | cons y _ ih => intro x; simp [ih x]
  | swap e u => intro x; simp only [List.mem_cons]; constructor <;> rintro (h | h | h) <;> simp [h]
  | symm _ ih => exact fun x => (ih x).symm
  | trans _ _ a b => exact fun x => (a x).trans (b x)
theorem exD_mem {l : List DStep} {s : DStep} (h : s ∈ l) {u : DU} (hu : u ∈ exS s) : u ∈ exD l := by
  induction l with
  | nil => cases h
  | cons t l ih =>
    simp only [exD, List.mem_append]
    rcases List.mem_cons.1 h with rfl | h
    · exact .inl hu
    · exact .inr (ih h)
end Go.Ch
end
section
set_option linter.unusedVariables false
set_option linter.unusedSimpArgs false
set_option maxRecDepth 100000
set_option maxHeartbeats 4000000
open Go Go.Proofs Go.Ab
namespace Go.Ch
end Go.Ch
end
section
set_option linter.unusedVariables false
set_option linter.unusedSimpArgs false
namespace Go.Ch
open Go Go.Ab

variable {w G : DWr} {us : List DU} {T : Nat}
theorem DI.all : ∀ {us : List DU} {w : DWr}, DI w us T G → DI G [] T G
  | [], w, h => by have := h.done; subst this; exact h
  | .K c :: us, w, h => DI.all h.keep1
  | .A e :: us, w, h => DI.all (DI.elems (e := [e]) h)
  | .C :: us, w, h => DI.all h.cut1
theorem an_take {m : Nat} {f : List Elem} (h : AN m f) (n : Nat) : AN m (f.take n) := fun x hx => h x (List.mem_of_mem_take hx)
theorem ltr_an (s : ByteArray) (n : Nat) : AN n (lettersL s) := fun x hx => by
  obtain ⟨i, _, rfl⟩ := List.mem_map.1 hx
  simp [ltr]
def probeD : List DStep := [⟨1, 0, [], lettersL { data := #[120] }⟩, ⟨2, 1, [], []⟩, ⟨0, 1, [], []⟩]
end Go.Ch
end
section
set_option linter.unusedVariables false
set_option linter.unusedSimpArgs false
namespace Go.Ch
open Go Go.Ab

def joinDU : List DU → List DU → List DU
  | .C :: p, q => .C :: joinDU p q
  | p, .A e :: q => .A e :: joinDU p q
  | .K c :: p, .K d :: q => .K (fm botG c d) :: joinDU p q
  | .K _ :: p, .C :: q => .C :: joinDU p q
  | .A e :: p, .K d :: q => .A (chgE d e) :: joinDU p q
  | .A _ :: p, .C :: q => joinDU p q
  | p, [] => p
  | [], _ => []
termination_by p q => p.length + q.length
end Go.Ch
end
section
set_option linter.unusedVariables false
set_option linter.unusedSimpArgs false
namespace Go.Ch
open Go Go.Ab

theorem raw_nil : ∀ l : List Attr, fm rawG l [] = l
  | [] => by simp [fm, bothL]
  | x :: l => by
    have ih := raw_nil l
    unfold fm at ih ⊢
    rw [bothL, fm_cons, ih]
    have : rawG x default = some x := by unfold rawG; rw [if_pos (show (default : Attr).name = mt from rfl)]
    rw [this]; rfl
def pairDU : List DU → List DU → List DU × List DU
  | .A e :: p, q => (.A e :: (pairDU p q).1, .K [] :: (pairDU p q).2)
  | [], .A e :: q => (.K [] :: (pairDU [] q).1, .A e :: (pairDU [] q).2)
  | .K c :: p, .A e :: q => (.K [] :: (pairDU (.K c :: p) q).1, .A e :: (pairDU (.K c :: p) q).2)
  | .C :: p, .A e :: q => (.K [] :: (pairDU (.C :: p) q).1, .A e :: (pairDU (.C :: p) q).2)
  | .K c :: p, .K d :: q => (.K (fm wioG c d) :: (pairDU p q).1, .K d :: (pairDU p q).2)
  | .K _ :: p, .C :: q => ((pairDU p q).1, .C :: (pairDU p q).2)
  | .C :: p, .K _ :: q => (.C :: (pairDU p q).1, (pairDU p q).2)
  | .C :: p, .C :: q => pairDU p q
  | _, [] => ([], [])
  | [], _ => ([], [])
termination_by p q => p.length + q.length
end Go.Ch
namespace Go.Ch
open Go Go.Ab
/-! ### Readers -/
def kindD (l : List DStep) : Int := if l.length = 0 then -1 else (l.getD 0 default).kind
end Go.Ch
end
section
set_option linter.unusedVariables false
set_option linter.unusedSimpArgs false
set_option maxRecDepth 100000
set_option maxHeartbeats 4000000
open Go Go.Proofs Go.Ab
namespace Go.Ch
end Go.Ch
end
section
set_option linter.unusedVariables false
set_option linter.unusedSimpArgs false
set_option maxRecDepth 100000
set_option maxHeartbeats 4000000
open Go Go.Proofs Go.Ab
namespace Go.Ch
def tkE (l : List DStep) (u n : Int) : DStep := if (l.getD 0 default).kind = 1 then ⟨(l.getD 0 default).kind, (l.getD 0 default).n, (l.getD 0 default).attrs, ((l.getD 0 default).elems.take (u + n).toNat).drop u.toNat⟩ else ⟨(l.getD 0 default).kind, n, (l.getD 0 default).attrs, (l.getD 0 default).elems⟩
def tkL (l : List DStep) (u n : Int) : List DStep := if u + n = szD (l.getD 0 default) then l.drop 1 else l
def tkN (l : List DStep) (u n : Int) : Int := if u + n = szD (l.getD 0 default) then 0 else u + n

end Go.Ch
end
section
set_option linter.unusedVariables false
set_option linter.unusedSimpArgs false
namespace Go.Ch
open Go Go.Ab

def ruD (l : List DStep) (u : Int) : List DU := (exD l).drop u.toNat
structure GoodRD (l : List DStep) (u : Int) : Prop where
  ok : ∀ s ∈ l, DOk s
  pos : 0 ≤ u
  lt : 0 < l.length → u < szD (l.getD 0 default)
  nil : l.length = 0 → u = 0
theorem exS_sz {s : DStep} (h : DOk s) : ((exS s).length : Int) = szD s := by
  unfold exS szD
  rcases h with ⟨k, _⟩ | ⟨k, _, _, n1, _⟩
  · rw [if_pos k, if_pos k, List.length_map]
  · have k1 : ¬ s.kind = 1 := by omega
    rw [if_neg k1, if_neg k1]
    split <;> rw [List.length_replicate] <;> omega
theorem ruD0 (l : List DStep) : ruD l 0 = exD l := rfl
theorem ruD_nil {l : List DStep} {u : Int} (h : l.length = 0) : ruD l u = [] := by
  rw [List.length_eq_zero_iff.1 h]; unfold ruD; simp [exD]
theorem tkE_split {l : List DStep} {u n : Int} (ho : DOk (l.getD 0 default)) (hu : 0 ≤ u) (hn : 0 ≤ n) (hl : u + n ≤ szD (l.getD 0 default)) :
    (exS (l.getD 0 default)).drop u.toNat = exS (tkE l u n) ++ (exS (l.getD 0 default)).drop (u + n).toNat := by
  unfold tkE
  generalize l.getD 0 default = s at *
  have hz : (u + n).toNat = u.toNat + n.toNat := by omega
  unfold szD at hl
  by_cases k1 : s.kind = 1
  · rw [if_pos k1] at hl ⊢
    unfold exS
    simp only [if_pos k1]
    rw [← List.map_drop, ← List.map_drop, ← List.map_append]
    congr 1
    conv => lhs; rw [← List.take_append_drop (u + n).toNat s.elems]
    rw [List.drop_append_of_le_length (by rw [List.length_take]; omega)]
  · rw [if_neg k1] at hl ⊢
    unfold exS
    simp only [if_neg k1]
    split
    · rw [List.drop_replicate, List.drop_replicate, List.replicate_append_replicate]; congr 1; omega
    · rw [List.drop_replicate, List.drop_replicate, List.replicate_append_replicate]; congr 1; omega
theorem tkD_ok {l : List DStep} {u n : Int} (h : GoodRD l u) (h0 : 0 < l.length) (hn : 0 ≤ n) (hl : u + n ≤ szD (l.getD 0 default)) :
    GoodRD (tkL l u n) (tkN l u n) ∧ ruD l u = exS (tkE l u n) ++ ruD (tkL l u n) (tkN l u n) := by
  have ho : DOk (l.getD 0 default) := h.ok _ (getD_mem' h0)
  have hz := exS_sz ho
  have hp := h.pos
  have hs := tkE_split ho hp hn hl
  have hd := dropD (l := l) (i := 0) h0
  rw [List.drop_zero] at hd
  have he : exD l = exS (l.getD 0 default) ++ exD (l.drop 1) := by conv => lhs; rw [hd, exD]
  have hlt := h.lt h0
  unfold tkL tkN
  by_cases e : u + n = szD (l.getD 0 default)
  · rw [if_pos e, if_pos e]
    refine ⟨⟨fun s hs => h.ok s (List.mem_of_mem_drop hs), Int.le_refl _, fun h1 => ?_, fun _ => rfl⟩, ?_⟩
    · have := stepD_sz (step_iff.2 (h.ok _ (List.mem_of_mem_drop (getD_mem' h1))))
      omega
    · rw [ruD0]
      unfold ruD
      rw [he, List.drop_append_of_le_length (by omega), hs, List.drop_eq_nil_of_le (show (exS (l.getD 0 default)).length ≤ (u + n).toNat by omega), List.append_nil]
  · rw [if_neg e, if_neg e]
    refine ⟨⟨h.ok, by omega, fun _ => by omega, fun h1 => by omega⟩, ?_⟩
    unfold ruD
    rw [he, List.drop_append_of_le_length (by omega), List.drop_append_of_le_length (by omega), hs, List.append_assoc]
end Go.Ch
end
section
set_option linter.unusedVariables false
set_option linter.unusedSimpArgs false
namespace Go.Ch
open Go Go.Ab

theorem jd_C (n : Nat) (p q : List DU) : joinDU (List.replicate n .C ++ p) q = List.replicate n .C ++ joinDU p q := by
  induction n with
  | zero => rfl
  | succ n ih => rw [List.replicate_succ, List.cons_append, joinDU, ih, List.cons_append]
def NoCD : List DU → Prop
  | .C :: _ => False
  | _ => True
theorem jd_A1 {p : List DU} (hp : NoCD p) (e : Elem) (q : List DU) : joinDU p (.A e :: q) = .A e :: joinDU p q := by
  rw [joinDU]
  intro p' h
  subst h
  exact hp
theorem jd_A (e : List Elem) {p : List DU} (hp : NoCD p) (q : List DU) : joinDU p (e.map .A ++ q) = e.map .A ++ joinDU p q := by
  induction e with
  | nil => rfl
  | cons x e ih => rw [List.map_cons, List.cons_append, jd_A1 hp, ih, List.cons_append]
theorem jd_KK (n : Nat) (c d : List Attr) (p q : List DU) : joinDU (List.replicate n (.K c) ++ p) (List.replicate n (.K d) ++ q) = List.replicate n (.K (fm botG c d)) ++ joinDU p q := by
  induction n with
  | zero => rfl
  | succ n ih => rw [List.replicate_succ, List.replicate_succ, List.replicate_succ, List.cons_append, List.cons_append, joinDU, ih, List.cons_append]
theorem jd_KC (n : Nat) (c : List Attr) (p q : List DU) : joinDU (List.replicate n (.K c) ++ p) (List.replicate n .C ++ q) = List.replicate n .C ++ joinDU p q := by
  induction n with
  | zero => rfl
  | succ n ih => rw [List.replicate_succ, List.replicate_succ, List.cons_append, List.cons_append, joinDU, ih, List.cons_append]
theorem jd_AK (e : List Elem) (d : List Attr) (p q : List DU) : joinDU (e.map .A ++ p) (List.replicate e.length (.K d) ++ q) = (e.map (chgE d)).map .A ++ joinDU p q := by
  induction e with
  | nil => rfl
  | cons x e ih => rw [List.map_cons, List.length_cons, List.replicate_succ, List.cons_append, List.cons_append, joinDU, ih]; rfl
theorem jd_AC (e : List Elem) (p q : List DU) : joinDU (e.map .A ++ p) (List.replicate e.length .C ++ q) = joinDU p q := by
  induction e with
  | nil => rfl
  | cons x e ih => rw [List.map_cons, List.length_cons, List.replicate_succ, List.cons_append, List.cons_append, joinDU, ih]
end Go.Ch
end
section
set_option linter.unusedVariables false
set_option linter.unusedSimpArgs false
namespace Go.Ch
open Go Go.Ab

structure JD (w : DWr) (ps : List DStep) (pu : Int) (qs : List DStep) (qu : Int) (T : Nat) (G : DWr) : Prop where
  gp : GoodRD ps pu
  gq : GoodRD qs qu
  dp : DN 100000000000 ps
  dq : DN 100000000000 qs
  eq : newN (ruD ps pu) = oldN (ruD qs qu)
  di : DI w (joinDU (ruD ps pu) (ruD qs qu)) T G
def jmD (ps : List DStep) (pu : Int) (qs : List DStep) (qu : Int) : Nat := (ruD ps pu).length + (ruD qs qu).length
theorem dn_tk {m : Nat} {l : List DStep} {u n : Int} (h : DN m l) : DN m (tkL l u n) := by
  unfold tkL; split
  · exact fun s hs => h s (List.mem_of_mem_drop hs)
  · exact h
theorem exS_C {l : List DStep} {u n : Int} (k : (l.getD 0 default).kind = 2) : exS (tkE l u n) = List.replicate n.toNat .C := by
  unfold tkE
  rw [if_neg (by omega)]
  unfold exS
  simp only
  rw [if_neg (by omega), if_pos k]
theorem exS_A {l : List DStep} {u n : Int} (k : (l.getD 0 default).kind = 1) : exS (tkE l u n) = (tkE l u n).elems.map .A := by
  unfold tkE
  rw [if_pos k]
  unfold exS
  simp only
  rw [if_pos k]
theorem exS_K {l : List DStep} {u n : Int} (k : (l.getD 0 default).kind = 0) : exS (tkE l u n) = List.replicate n.toNat (.K (l.getD 0 default).attrs) := by
  unfold tkE
  rw [if_neg (by omega)]
  unfold exS
  simp only
  rw [if_neg (by omega), if_neg (by omega)]
section
variable {w : DWr} {ps qs : List DStep} {pu qu : Int} {T : Nat} {G : DWr}
theorem JD.cut (h : JD w ps pu qs qu T G) (h0 : 0 < ps.length) (hk : (ps.getD 0 default).kind = 2) {n : Int} (hn : n = szD (ps.getD 0 default) - pu) :
    JD ⟨w.out, w.add, w.cut + n⟩ (tkL ps pu n) (tkN ps pu n) qs qu T G ∧ jmD (tkL ps pu n) (tkN ps pu n) qs qu < jmD ps pu qs qu := by
  have hl := h.gp.lt h0
  obtain ⟨g, e⟩ := tkD_ok (n := n) h.gp h0 (by omega) (by omega)
  rw [exS_C hk] at e
  have hd := h.di
  have he := h.eq
  rw [e, jd_C] at hd
  rw [e, newN_app, (lens_Cs _).2] at he
  have hd2 := hd.cuts
  rw [show ((n.toNat : Nat) : Int) = n by omega] at hd2
  refine ⟨⟨g, h.gq, dn_tk h.dp, h.dq, by omega, hd2⟩, ?_⟩
  unfold jmD
  rw [e, List.length_append, List.length_replicate]
  omega
theorem noCD {l : List DStep} {u : Int} (h : GoodRD l u) (hk : 0 < l.length → (l.getD 0 default).kind ≠ 2) : NoCD (ruD l u) := by
  by_cases h0 : 0 < l.length
  · have hl := h.lt h0
    have hp := h.pos
    have k2 := hk h0
    obtain ⟨g, e⟩ := tkD_ok (n := 1) h h0 (by decide) (by omega)
    have hs := (stepD_sz (step_iff.2 (h.ok _ (getD_mem' h0)))).1
    rcases hs with k | k | k
    · rw [e, exS_K k]; trivial
    · rw [e, exS_A k]
      have hem : (tkE l u 1).elems.length = 1 := by
        unfold tkE
        rw [if_pos k]
        simp only [List.length_drop, List.length_take]
        have : szD (l.getD 0 default) = (l.getD 0 default).elems.length := by unfold szD; rw [if_pos k]
        omega
      generalize (tkE l u 1).elems = z at hem
      cases z with
      | nil => simp at hem
      | cons x r => trivial
    · exact absurd k k2
  · rw [ruD_nil (by omega)]; trivial
theorem JD.add (h : JD w ps pu qs qu T G) (hp : 0 < ps.length → (ps.getD 0 default).kind ≠ 2) (h0 : 0 < qs.length) (hk : (qs.getD 0 default).kind = 1) {n : Int} (hn : n = szD (qs.getD 0 default) - qu) :
    JD ⟨w.out, w.add ++ (tkE qs qu n).elems, w.cut⟩ ps pu (tkL qs qu n) (tkN qs qu n) T G := by
  have hl := h.gq.lt h0
  obtain ⟨g, e⟩ := tkD_ok (n := n) h.gq h0 (by omega) (by omega)
  rw [exS_A hk] at e
  have hd := h.di
  have he := h.eq
  rw [e, jd_A _ (noCD h.gp hp)] at hd
  rw [e, oldN_app, (lens_As _).1] at he
  exact ⟨h.gp, g, h.dp, dn_tk h.dq, by omega, hd.elems⟩
theorem tkE_len {l : List DStep} {u n : Int} (k : (l.getD 0 default).kind = 1) (hu : 0 ≤ u) (hn : 0 ≤ n) (hl : u + n ≤ szD (l.getD 0 default)) : (tkE l u n).elems.length = n.toNat := by
  unfold tkE
  rw [if_pos k]
  simp only [List.length_drop, List.length_take]
  have : szD (l.getD 0 default) = (l.getD 0 default).elems.length := by unfold szD; rw [if_pos k]
  omega
theorem JD.both (h : JD w ps pu qs qu T G) (a : 0 < ps.length) (b : 0 < qs.length) (kp : (ps.getD 0 default).kind ≠ 2) (kq : (qs.getD 0 default).kind ≠ 1) {n : Int} (hn : n = min (szD (ps.getD 0 default) - pu) (szD (qs.getD 0 default) - qu)) :
    (((ps.getD 0 default).kind = 0 ∧ (qs.getD 0 default).kind = 0 → JD ⟨keepD (flushD w) n (fm botG (ps.getD 0 default).attrs (qs.getD 0 default).attrs), [], 0⟩ (tkL ps pu n) (tkN ps pu n) (tkL qs qu n) (tkN qs qu n) T G) ∧
    ((ps.getD 0 default).kind = 0 ∧ (qs.getD 0 default).kind = 2 → JD ⟨w.out, w.add, w.cut + n⟩ (tkL ps pu n) (tkN ps pu n) (tkL qs qu n) (tkN qs qu n) T G) ∧
    ((ps.getD 0 default).kind = 1 ∧ (qs.getD 0 default).kind = 0 → JD ⟨w.out, w.add ++ (tkE ps pu n).elems.map (chgE (qs.getD 0 default).attrs), w.cut⟩ (tkL ps pu n) (tkN ps pu n) (tkL qs qu n) (tkN qs qu n) T G) ∧
    ((ps.getD 0 default).kind = 1 ∧ (qs.getD 0 default).kind = 2 → JD w (tkL ps pu n) (tkN ps pu n) (tkL qs qu n) (tkN qs qu n) T G)) ∧
    jmD (tkL ps pu n) (tkN ps pu n) (tkL qs qu n) (tkN qs qu n) < jmD ps pu qs qu := by
  have l1 := h.gp.lt a
  have l2 := h.gq.lt b
  have p1 := h.gp.pos
  have p2 := h.gq.pos
  obtain ⟨g1, e1⟩ := tkD_ok (n := n) h.gp a (by omega) (by omega)
  obtain ⟨g2, e2⟩ := tkD_ok (n := n) h.gq b (by omega) (by omega)
  have hd := h.di
  have he := h.eq
  have k1 := (stepD_sz (step_iff.2 (h.gp.ok _ (getD_mem' a)))).1
  have k2 := (stepD_sz (step_iff.2 (h.gq.ok _ (getD_mem' b)))).1
  refine ⟨⟨fun k => ?_, fun k => ?_, fun k => ?_, fun k => ?_⟩, ?_⟩
  · rw [e1, e2, exS_K k.1, exS_K k.2] at hd he
    rw [jd_KK, show n.toNat = (n.toNat - 1) + 1 by omega] at hd
    rw [newN_app, oldN_app, (lens_Ks _ _).1, (lens_Ks _ _).2] at he
    have hd2 := hd.keep
    rw [show (((n.toNat - 1 + 1 : Nat)) : Int) = n by omega] at hd2
    exact ⟨g1, g2, dn_tk h.dp, dn_tk h.dq, by omega, hd2⟩
  · rw [e1, e2, exS_K k.1, exS_C k.2] at hd he
    rw [jd_KC] at hd
    rw [newN_app, oldN_app, (lens_Cs _).1, (lens_Ks _ _).2] at he
    have hd2 := hd.cuts
    rw [show ((n.toNat : Nat) : Int) = n by omega] at hd2
    exact ⟨g1, g2, dn_tk h.dp, dn_tk h.dq, by omega, hd2⟩
  · have hz := tkE_len (n := n) k.1 p1 (by omega) (by omega)
    rw [e1, e2, exS_A k.1, exS_K k.2] at hd he
    rw [newN_app, oldN_app, (lens_Ks _ _).1, (lens_As _).2] at he
    rw [← hz, jd_AK] at hd
    exact ⟨g1, g2, dn_tk h.dp, dn_tk h.dq, by omega, hd.elems⟩
  · have hz := tkE_len (n := n) k.1 p1 (by omega) (by omega)
    rw [e1, e2, exS_A k.1, exS_C k.2] at hd he
    rw [newN_app, oldN_app, (lens_Cs _).1, (lens_As _).2] at he
    rw [← hz, jd_AC] at hd
    exact ⟨g1, g2, dn_tk h.dp, dn_tk h.dq, by omega, hd⟩
  · have hs := exS_sz (h.gp.ok _ (getD_mem' a))
    have hl := congrArg List.length (tkE_split (n := n) (h.gp.ok _ (getD_mem' a)) p1 (by omega) (by omega))
    simp only [List.length_append, List.length_drop] at hl
    unfold jmD
    rw [e1, e2, List.length_append, List.length_append]
    omega
end
end Go.Ch
end
section
set_option linter.unusedVariables false
set_option linter.unusedSimpArgs false
namespace Go.Ch
open Go Go.Ab

def joinD (a b : List DStep) : List DStep := doneD (joinDU (exD a) (exD b))
theorem rd_one {l : List DStep} {u : Int} (h : GoodRD l u) (h0 : 0 < l.length) : ((l.getD 0 default).kind ≠ 1 → 1 ≤ oldN (ruD l u)) ∧ ((l.getD 0 default).kind ≠ 2 → 1 ≤ newN (ruD l u)) := by
  have hl := h.lt h0
  have hp := h.pos
  obtain ⟨g, e⟩ := tkD_ok (n := 1) h h0 (by decide) (by omega)
  have hs := (stepD_sz (step_iff.2 (h.ok _ (getD_mem' h0)))).1
  rcases hs with k | k | k
  · rw [e, exS_K k, oldN_app, newN_app, (lens_Ks _ _).1, (lens_Ks _ _).2]; constructor <;> intro _ <;> omega
  · have hz := tkE_len (n := 1) k hp (by omega) (by omega)
    rw [e, exS_A k, oldN_app, newN_app, (lens_As _).1, (lens_As _).2, hz]; constructor <;> intro _ <;> omega
  · rw [e, exS_C k, oldN_app, newN_app, (lens_Cs _).1, (lens_Cs _).2]; constructor <;> intro _ <;> omega
variable {w : DWr} {ps qs : List DStep} {pu qu : Int} {T : Nat} {G : DWr}
theorem JD.two (h : JD w ps pu qs qu T G) (h0 : 0 < ps.length ∨ 0 < qs.length) (hp : 0 < ps.length → (ps.getD 0 default).kind ≠ 2) (hq : 0 < qs.length → (qs.getD 0 default).kind ≠ 1) : 0 < ps.length ∧ 0 < qs.length := by
  have he := h.eq
  rcases Nat.eq_zero_or_pos ps.length with a | a
  · rcases Nat.eq_zero_or_pos qs.length with b | b
    · omega
    · have := (rd_one h.gq b).1 (hq b)
      rw [ruD_nil a] at he
      simp only [newN] at he
      omega
  · rcases Nat.eq_zero_or_pos qs.length with b | b
    · have := (rd_one h.gp a).2 (hp a)
      rw [ruD_nil b] at he
      simp only [oldN] at he
      omega
    · exact ⟨a, b⟩
theorem JD.done (h : JD w ps pu qs qu T G) (a : ps.length = 0) (b : qs.length = 0) : w = G := by
  have := h.di
  rw [ruD_nil a, ruD_nil b] at this
  exact DI.done (by simpa [joinDU] using this)
theorem an_up {m k : Nat} {l : List Elem} (h : AN m l) (hm : m ≤ k) : AN k l := fun x hx => Nat.le_trans (h x hx) hm
end Go.Ch
end
section
set_option linter.unusedVariables false
set_option linter.unusedSimpArgs false
namespace Go.Ch
open Go Go.Ab

def NoAD : List DU → Prop
  | .A _ :: _ => False
  | _ => True
theorem pd_KK (n : Nat) (c d : List Attr) (p q : List DU) : pairDU (List.replicate n (.K c) ++ p) (List.replicate n (.K d) ++ q) = (List.replicate n (.K (fm wioG c d)) ++ (pairDU p q).1, List.replicate n (.K d) ++ (pairDU p q).2) := by
  induction n with
  | zero => rfl
  | succ n ih => rw [List.replicate_succ, List.replicate_succ, List.replicate_succ, List.cons_append, List.cons_append, pairDU, ih]; rfl
theorem pd_KC (n : Nat) (c : List Attr) (p q : List DU) : pairDU (List.replicate n (.K c) ++ p) (List.replicate n .C ++ q) = ((pairDU p q).1, List.replicate n .C ++ (pairDU p q).2) := by
  induction n with
  | zero => rfl
  | succ n ih => rw [List.replicate_succ, List.replicate_succ, List.cons_append, List.cons_append, pairDU, ih]; rfl
theorem pd_CK (n : Nat) (c : List Attr) (p q : List DU) : pairDU (List.replicate n .C ++ p) (List.replicate n (.K c) ++ q) = (List.replicate n .C ++ (pairDU p q).1, (pairDU p q).2) := by
  induction n with
  | zero => rfl
  | succ n ih => rw [List.replicate_succ, List.replicate_succ, List.cons_append, List.cons_append, pairDU, ih]; rfl
theorem pd_CC (n : Nat) (p q : List DU) : pairDU (List.replicate n .C ++ p) (List.replicate n .C ++ q) = pairDU p q := by
  induction n with
  | zero => rfl
  | succ n ih => rw [List.replicate_succ, List.cons_append, List.cons_append, pairDU, ih]
def pairD1 (a b : List DStep) : List DStep := doneD (pairDU (exD a) (exD b)).1
def pairD2 (a b : List DStep) : List DStep := doneD (pairDU (exD a) (exD b)).2
structure PD (wx wy : DWr) (ps : List DStep) (pu : Int) (qs : List DStep) (qu : Int) (T U : Nat) (G H : DWr) : Prop where
  gp : GoodRD ps pu
  gq : GoodRD qs qu
  dp : DN 100000000000 ps
  dq : DN 100000000000 qs
  eq : oldN (ruD ps pu) = oldN (ruD qs qu)
  dx : DI wx (pairDU (ruD ps pu) (ruD qs qu)).1 T G
  dy : DI wy (pairDU (ruD ps pu) (ruD qs qu)).2 U H
section
variable {wx wy : DWr} {ps qs : List DStep} {pu qu : Int} {T U : Nat} {G H : DWr}
theorem PD.both (h : PD wx wy ps pu qs qu T U G H) (a : 0 < ps.length) (b : 0 < qs.length) (kp : (ps.getD 0 default).kind ≠ 1) (kq : (qs.getD 0 default).kind ≠ 1) {n : Int} (hn : n = min (szD (ps.getD 0 default) - pu) (szD (qs.getD 0 default) - qu)) :
    (((ps.getD 0 default).kind = 0 ∧ (qs.getD 0 default).kind = 0 → PD ⟨keepD (flushD wx) n (fm wioG (ps.getD 0 default).attrs (qs.getD 0 default).attrs), [], 0⟩ ⟨keepD (flushD wy) n (qs.getD 0 default).attrs, [], 0⟩ (tkL ps pu n) (tkN ps pu n) (tkL qs qu n) (tkN qs qu n) T U G H) ∧
    ((ps.getD 0 default).kind = 0 ∧ (qs.getD 0 default).kind = 2 → PD wx ⟨wy.out, wy.add, wy.cut + n⟩ (tkL ps pu n) (tkN ps pu n) (tkL qs qu n) (tkN qs qu n) T U G H) ∧
    ((ps.getD 0 default).kind = 2 ∧ (qs.getD 0 default).kind = 0 → PD ⟨wx.out, wx.add, wx.cut + n⟩ wy (tkL ps pu n) (tkN ps pu n) (tkL qs qu n) (tkN qs qu n) T U G H) ∧
    ((ps.getD 0 default).kind = 2 ∧ (qs.getD 0 default).kind = 2 → PD wx wy (tkL ps pu n) (tkN ps pu n) (tkL qs qu n) (tkN qs qu n) T U G H)) ∧
    jmD (tkL ps pu n) (tkN ps pu n) (tkL qs qu n) (tkN qs qu n) < jmD ps pu qs qu := by
  have l1 := h.gp.lt a
  have l2 := h.gq.lt b
  have p1 := h.gp.pos
  have p2 := h.gq.pos
  obtain ⟨g1, e1⟩ := tkD_ok (n := n) h.gp a (by omega) (by omega)
  obtain ⟨g2, e2⟩ := tkD_ok (n := n) h.gq b (by omega) (by omega)
  have hx := h.dx
  have hy := h.dy
  have he := h.eq
  refine ⟨⟨fun k => ?_, fun k => ?_, fun k => ?_, fun k => ?_⟩, ?_⟩
  · rw [e1, e2, exS_K k.1, exS_K k.2] at hx hy he
    rw [pd_KK, show n.toNat = (n.toNat - 1) + 1 by omega] at hx hy
    rw [oldN_app, oldN_app, (lens_Ks _ _).1, (lens_Ks _ _).1] at he
    have hx2 := hx.keep
    have hy2 := hy.keep
    rw [show (((n.toNat - 1 + 1 : Nat)) : Int) = n by omega] at hx2 hy2
    exact ⟨g1, g2, dn_tk h.dp, dn_tk h.dq, by omega, hx2, hy2⟩
  · rw [e1, e2, exS_K k.1, exS_C k.2] at hx hy he
    rw [pd_KC] at hx hy
    rw [oldN_app, oldN_app, (lens_Cs _).1, (lens_Ks _ _).1] at he
    have hy2 := hy.cuts
    rw [show ((n.toNat : Nat) : Int) = n by omega] at hy2
    exact ⟨g1, g2, dn_tk h.dp, dn_tk h.dq, by omega, hx, hy2⟩
  · rw [e1, e2, exS_C k.1, exS_K k.2] at hx hy he
    rw [pd_CK] at hx hy
    rw [oldN_app, oldN_app, (lens_Cs _).1, (lens_Ks _ _).1] at he
    have hx2 := hx.cuts
    rw [show ((n.toNat : Nat) : Int) = n by omega] at hx2
    exact ⟨g1, g2, dn_tk h.dp, dn_tk h.dq, by omega, hx2, hy⟩
  · rw [e1, e2, exS_C k.1, exS_C k.2] at hx hy he
    rw [pd_CC] at hx hy
    rw [oldN_app, oldN_app, (lens_Cs _).1] at he
    exact ⟨g1, g2, dn_tk h.dp, dn_tk h.dq, by omega, hx, hy⟩
  · have hs := exS_sz (h.gp.ok _ (getD_mem' a))
    have hl := congrArg List.length (tkE_split (n := n) (h.gp.ok _ (getD_mem' a)) p1 (by omega) (by omega))
    simp only [List.length_append, List.length_drop] at hl
    unfold jmD
    rw [e1, e2, List.length_append, List.length_append]
    omega
theorem PD.two (h : PD wx wy ps pu qs qu T U G H) (h0 : 0 < ps.length ∨ 0 < qs.length) (hp : 0 < ps.length → (ps.getD 0 default).kind ≠ 1) (hq : 0 < qs.length → (qs.getD 0 default).kind ≠ 1) : 0 < ps.length ∧ 0 < qs.length := by
  have he := h.eq
  rcases Nat.eq_zero_or_pos ps.length with a | a
  · rcases Nat.eq_zero_or_pos qs.length with b | b
    · omega
    · have := (rd_one h.gq b).1 (hq b)
      rw [ruD_nil a] at he
      simp only [oldN] at he
      omega
  · rcases Nat.eq_zero_or_pos qs.length with b | b
    · have := (rd_one h.gp a).1 (hp a)
      rw [ruD_nil b] at he
      simp only [oldN] at he
      omega
    · exact ⟨a, b⟩
theorem PD.done (h : PD wx wy ps pu qs qu T U G H) (a : ps.length = 0) (b : qs.length = 0) : wx = G ∧ wy = H := by
  have hx := h.dx
  have hy := h.dy
  rw [ruD_nil a, ruD_nil b] at hx hy
  exact ⟨DI.done (by simpa [pairDU] using hx), DI.done (by simpa [pairDU] using hy)⟩
end
end Go.Ch
end
section
set_option linter.unusedVariables false
set_option linter.unusedSimpArgs false
namespace Go.Ch
open Go Go.Ab

def lenE (s : DStep) : Int := if (s.kind = 1 ∧ s.elems.length = 0 ∧ stepD s = 11) ∨ (s.kind ≠ 1 ∧ s.n = 0 ∧ stepD s = 2) then chkA true s.attrs 0 else stepD s
def tdW (w : DWr) (s : DStep) : DWr :=
  if s.kind = 0 then (if s.n = 0 then w else ⟨keepD (flushD w) s.n s.attrs, [], 0⟩) else if s.kind = 1 then ⟨w.out, w.add ++ s.elems, w.cut⟩ else ⟨w.out, w.add, w.cut + s.n⟩
def tdBad (w : DWr) (s : DStep) : Prop := s.kind ≠ 0 ∧ s.kind ≠ 1 ∧ 2147483647 < w.cut + s.n
instance (w : DWr) (s : DStep) : Decidable (tdBad w s) := by unfold tdBad; infer_instance
def tidyG (w : DWr) : List DStep → List DStep × Int
  | [] => if checkD (flushD w) = 0 then (flushD w, 0) else ([], 3)
  | s :: l => if lenE s ≠ 0 then ([], lenE s) else if tdBad w s then ([], 3) else tidyG (tdW w s) l
def tidyL (d : List DStep) : List DStep := (tidyG ⟨[], [], 0⟩ d).1
def tidyE (d : List DStep) : Int := (tidyG ⟨[], [], 0⟩ d).2
theorem lenE_ok {s : DStep} (h : lenE s = 0) : (s.kind = 0 ∨ s.kind = 1 ∨ s.kind = 2) ∧ 0 ≤ s.n ∧ s.n ≤ 2147483647 := by
  unfold lenE at h
  split at h
  · rename_i hc
    rcases hc with ⟨k, e, q⟩ | ⟨k, n0, q⟩
    · unfold stepD at q
      rw [if_pos k] at q
      split at q
      · cases q
      · rename_i hh; exact ⟨.inr (.inl k), by omega, by omega⟩
    · unfold stepD at q
      rw [if_neg k] at q
      split at q
      · rename_i hk; exact ⟨by omega, by omega, by omega⟩
      · cases q
  · obtain ⟨a, b, c, _⟩ := stepD_sz h; exact ⟨a, b, c⟩
/-- What holds of all steps and elements that come in holds of all that go out. -/
theorem keep_all {P : List Attr → Prop} {R : Elem → Prop} {l : List DStep} {n : Int} {c : List Attr} (h : ∀ s ∈ l, P s.attrs ∧ ∀ x ∈ s.elems, R x) (hc : P c) : ∀ s ∈ keepD l n c, P s.attrs ∧ ∀ x ∈ s.elems, R x := by
  unfold keepD
  split
  · rename_i hl
    intro s hs
    rcases List.mem_or_eq_of_mem_set hs with hs | rfl
    · exact h s hs
    · exact h (l.getD (l.length - 1) default) (getD_mem' (by omega))
  · intro s hs
    rcases List.mem_append.1 hs with hs | hs
    · exact h s hs
    · rw [List.mem_singleton] at hs; subst hs; exact ⟨hc, fun x hx => by cases hx⟩
theorem flush_all {P : List Attr → Prop} {R : Elem → Prop} {w : DWr} (h0 : P []) (h : ∀ s ∈ w.out, P s.attrs ∧ ∀ x ∈ s.elems, R x) (ha : ∀ x ∈ w.add, R x) : ∀ s ∈ flushD w, P s.attrs ∧ ∀ x ∈ s.elems, R x := by
  unfold flushD
  intro s hs
  rcases List.mem_append.1 hs with hs | hs
  · rcases List.mem_append.1 hs with hs | hs
    · exact h s hs
    · split at hs
      · rw [List.mem_singleton] at hs; subst hs; exact ⟨h0, ha⟩
      · cases hs
  · split at hs
    · rw [List.mem_singleton] at hs; subst hs; exact ⟨h0, fun x hx => by cases hx⟩
    · cases hs
theorem tdW_all {P : List Attr → Prop} {R : Elem → Prop} {w : DWr} {s : DStep} (h0 : P []) (h : ∀ s ∈ w.out, P s.attrs ∧ ∀ x ∈ s.elems, R x) (ha : ∀ x ∈ w.add, R x) (hs : P s.attrs ∧ ∀ x ∈ s.elems, R x) :
    (∀ t ∈ (tdW w s).out, P t.attrs ∧ ∀ x ∈ t.elems, R x) ∧ ∀ x ∈ (tdW w s).add, R x := by
  unfold tdW
  split
  · split
    · exact ⟨h, ha⟩
    · exact ⟨keep_all (flush_all h0 h ha) hs.1, fun x hx => by cases hx⟩
  · split
    · exact ⟨h, fun x hx => by rcases List.mem_append.1 hx with hx | hx; exact ha x hx; exact hs.2 x hx⟩
    · exact ⟨h, ha⟩
theorem lenE_step {s : DStep} (h : stepD s = 0) : lenE s = 0 := by
  unfold lenE
  rw [if_neg]
  · exact h
  · rintro (⟨_, _, q⟩ | ⟨_, _, q⟩) <;> rw [h] at q <;> cases q
/-! ### A delta stays as it is -/
/-! ### Also in parts -/
def spl (s : DStep) : List DStep := List.replicate s.n.toNat ⟨s.kind, 1, s.attrs, []⟩ ++ s.elems.flatMap fun e => [⟨1, 0, [], [e]⟩, ⟨0, 0, [], []⟩]
def splitL (d : List DStep) : List DStep := d.flatMap spl
end Go.Ch
end
section
set_option linter.unusedVariables false
set_option linter.unusedSimpArgs false
namespace Go.Ch
open Go Go.Ab

def elS : List DStep → Nat
  | [] => 0
  | s :: l => s.elems.length + elS l
theorem elS_app (p q : List DStep) : elS (p ++ q) = elS p + elS q := by
  induction p with
  | nil => simp [elS]
  | cons s p ih => simp only [List.cons_append, elS, ih]; omega
theorem elS_take {d : List DStep} {i : Nat} (h : i < d.length) : elS (d.take (i + 1)) = elS (d.take i) + (d.getD i default).elems.length ∧ elS (d.take (i + 1)) ≤ elS d := by
  constructor
  · rw [List.take_succ_eq_append_getElem h, elS_app, show d.getD i default = d[i] by simp [List.getD, List.getElem?_eq_getElem h]]; simp [elS]
  · conv => rhs; rw [← List.take_append_drop (i + 1) d, elS_app]
    omega
structure TB (d : List DStep) (i : Nat) (w : DWr) : Prop where
  out : w.out.length ≤ 3 * i
  add : w.add.length ≤ elS (d.take i)
  cut : 0 ≤ w.cut ∧ w.cut ≤ 2147483647
  n : ∀ s ∈ w.out, 0 ≤ s.n ∧ s.n ≤ 2147483647 * ((i : Int) + 1)
  dn : ∀ s ∈ w.out, s.attrs.length ≤ 100000000000 ∧ ∀ x ∈ s.elems, x.attrs.length ≤ 100000000000
  an : ∀ x ∈ w.add, x.attrs.length ≤ 100000000000
  el : ∀ s ∈ w.out, s.elems.length ≤ elS (d.take i)
theorem TB.start (d : List DStep) : TB d 0 ⟨[], [], 0⟩ := ⟨by simp, by simp, ⟨by simp, by simp⟩, fun s h => absurd h List.not_mem_nil, fun s h => absurd h List.not_mem_nil, fun s h => absurd h List.not_mem_nil, fun s h => absurd h List.not_mem_nil⟩
theorem flush_n {w : DWr} {B : Int} (hB : 2147483647 ≤ B) (hc : 0 ≤ w.cut ∧ w.cut ≤ 2147483647) (h : ∀ s ∈ w.out, 0 ≤ s.n ∧ s.n ≤ B) : ∀ s ∈ flushD w, 0 ≤ s.n ∧ s.n ≤ B := by
  unfold flushD
  intro s hs
  rcases List.mem_append.1 hs with hs | hs
  · rcases List.mem_append.1 hs with hs | hs
    · exact h s hs
    · split at hs
      · rw [List.mem_singleton] at hs; subst hs; simp only; omega
      · cases hs
  · split at hs
    · rw [List.mem_singleton] at hs; subst hs; simp only; omega
    · cases hs
theorem flush_el {w : DWr} {B : Nat} (ha : w.add.length ≤ B) (h : ∀ s ∈ w.out, s.elems.length ≤ B) : ∀ s ∈ flushD w, s.elems.length ≤ B := by
  unfold flushD
  intro s hs
  rcases List.mem_append.1 hs with hs | hs
  · rcases List.mem_append.1 hs with hs | hs
    · exact h s hs
    · split at hs
      · rw [List.mem_singleton] at hs; subst hs; exact ha
      · cases hs
  · split at hs
    · rw [List.mem_singleton] at hs; subst hs; simp
    · cases hs
theorem keep_n {l : List DStep} {B B' n : Int} {c : List Attr} (h : ∀ s ∈ l, 0 ≤ s.n ∧ s.n ≤ B) (h1 : 0 ≤ n) (h2 : B + n ≤ B') (h3 : 0 ≤ B) : ∀ s ∈ keepD l n c, 0 ≤ s.n ∧ s.n ≤ B' := by
  unfold keepD
  split
  · intro s hs
    rcases List.mem_or_eq_of_mem_set hs with hs | rfl
    · have := h s hs; omega
    · have := h (l.getD (l.length - 1) default) (getD_mem' (by omega))
      simp only; omega
  · intro s hs
    rcases List.mem_append.1 hs with hs | hs
    · have := h s hs; omega
    · rw [List.mem_singleton] at hs; subst hs; simp only; omega
theorem keep_el {l : List DStep} {B : Nat} {n : Int} {c : List Attr} (h : ∀ s ∈ l, s.elems.length ≤ B) : ∀ s ∈ keepD l n c, s.elems.length ≤ B := by
  unfold keepD
  split
  · intro s hs
    rcases List.mem_or_eq_of_mem_set hs with hs | rfl
    · exact h s hs
    · exact h (l.getD (l.length - 1) default) (getD_mem' (by omega))
  · intro s hs
    rcases List.mem_append.1 hs with hs | hs
    · exact h s hs
    · rw [List.mem_singleton] at hs; subst hs; simp
theorem TB.flush {d : List DStep} {i : Nat} {w : DWr} (h : TB d i w) (hi : i ≤ 100000000) (he : elS d ≤ 100000000000) (hd : elS (d.take i) ≤ elS d) :
    (∀ s ∈ flushD w, 0 ≤ s.n ∧ s.n ≤ 1000000000000000000) ∧ DN 400000000000 (flushD w) := by
  refine ⟨flush_n (by decide) h.cut (fun s hs => by have := h.n s hs; omega), fun s hs => ?_⟩
  have h1 := flush_all (P := fun l => l.length ≤ 100000000000) (R := fun x => x.attrs.length ≤ 100000000000) (by simp) h.dn h.an s hs
  have h2 := flush_el h.add h.el s hs
  exact ⟨by omega, by have := h1.1; omega, fun x hx => by have := h1.2 x hx; omega⟩
theorem TB.next {d : List DStep} {i : Nat} {w : DWr} (h : TB d i w) (hi : i < d.length) (hd : DN 100000000000 d) (hl : lenE (d.getD i default) = 0) (hb : ¬ tdBad w (d.getD i default)) : TB d (i + 1) (tdW w (d.getD i default)) := by
  obtain ⟨k, n0, n1⟩ := lenE_ok hl
  obtain ⟨e1, _⟩ := elS_take hi
  obtain ⟨b1, b2, b3⟩ := hd _ (getD_mem' hi)
  generalize d.getD i default = s at *
  have ha := tdW_all (P := fun l => l.length ≤ 100000000000) (R := fun x => x.attrs.length ≤ 100000000000) (w := w) (s := s) (by simp) h.dn h.an ⟨b2, b3⟩
  have hn := h.n
  have hc := h.cut
  have ho := h.out
  have hadd := h.add
  refine ⟨?_, ?_, ?_, ?_, ha.1, ha.2, ?_⟩
  · unfold tdW
    split
    · split
      · omega
      · have := keepD_len (flushD w) s.n s.attrs
        have := flushD_len w
        simp only; omega
    · split <;> simp only <;> omega
  · unfold tdW
    split
    · split
      · omega
      · simp
    · split
      · simp only [List.length_append]; omega
      · simp only; omega
  · unfold tdW
    split
    · split
      · exact hc
      · exact ⟨Int.le_refl 0, (by decide : (0:Int) ≤ 2147483647)⟩
    · split
      · exact hc
      · rename_i k0 k1
        unfold tdBad at hb
        simp only
        omega
  · have up : ∀ t ∈ w.out, 0 ≤ t.n ∧ t.n ≤ 2147483647 * (((i + 1 : Nat) : Int) + 1) := fun t ht => by have := hn t ht; omega
    unfold tdW
    split
    · split
      · exact up
      · exact keep_n (flush_n (by omega) hc hn) (B' := 2147483647 * (((i + 1 : Nat) : Int) + 1)) (by omega) (by omega) (by omega)
    · split
      · exact up
      · exact up
  · have up : ∀ t ∈ w.out, t.elems.length ≤ elS (d.take (i + 1)) := fun t ht => by have := h.el t ht; omega
    unfold tdW
    split
    · split
      · exact up
      · exact keep_el (flush_el (by omega) up)
    · split
      · exact up
      · exact up
end Go.Ch
namespace Go.Ch
open Go Go.Ab
theorem tidyG_at {d : List DStep} {i : Nat} (h : i < d.length) (w : DWr) : tidyG w (d.drop i) = if lenE (d.getD i default) ≠ 0 then ([], lenE (d.getD i default)) else if tdBad w (d.getD i default) then ([], 3) else tidyG (tdW w (d.getD i default)) (d.drop (i + 1)) := by
  rw [dropD h, tidyG]
theorem tidyG_end {d : List DStep} {i : Nat} (h : d.length ≤ i) (w : DWr) : tidyG w (d.drop i) = if checkD (flushD w) = 0 then (flushD w, 0) else ([], 3) := by
  rw [List.drop_eq_nil_of_le h, tidyG]
end Go.Ch
end
section
set_option linter.unusedVariables false
set_option linter.unusedSimpArgs false
namespace Go.Ch
open Go Go.Ab

/-! ### The parts -/
theorem splitL_app (p q : List DStep) : splitL (p ++ q) = splitL p ++ splitL q := by unfold splitL; simp
theorem splitL_take {d : List DStep} {i : Nat} (h : i < d.length) : splitL (d.take (i + 1)) = splitL (d.take i) ++ spl (d.getD i default) := by
  rw [List.take_succ_eq_append_getElem h, splitL_app, show d.getD i default = d[i] by simp [List.getD, List.getElem?_eq_getElem h]]
  simp [splitL]
theorem pair_len (l : List Elem) : (l.flatMap fun e => [(⟨1, 0, [], [e]⟩ : DStep), ⟨0, 0, [], []⟩]).length = 2 * l.length := by
  induction l with
  | nil => rfl
  | cons x l ih => simp only [List.flatMap_cons, List.length_append, ih, List.length_cons, List.length_nil]; omega
theorem spl_len {s : DStep} : (spl s).length = s.n.toNat + 2 * s.elems.length := by unfold spl; rw [List.length_append, List.length_replicate, pair_len]
theorem split_le {d : List DStep} {i : Nat} (h : i < d.length) : (splitL (d.take i)).length + (d.getD i default).n.toNat + 2 * (d.getD i default).elems.length ≤ (splitL d).length := by
  have e : splitL d = splitL (d.take (i + 1)) ++ splitL (d.drop (i + 1)) := by rw [← splitL_app, List.take_append_drop]
  have := splitL_take h
  rw [e, this, List.length_append, List.length_append, spl_len]
  omega
theorem elS_le : ∀ {l : List DStep}, (∀ s ∈ l, s.elems.length ≤ 1) → elS l ≤ l.length
  | [], _ => Nat.le_refl _
  | s :: l, h => by
    have h1 := h s (by simp)
    have h2 := elS_le (l := l) (fun t ht => h t (by simp [ht]))
    simp only [elS, List.length_cons]; omega
theorem pair_step {l : List Elem} {k : Nat} (h : k < l.length) : ((l.take (k + 1)).flatMap fun e => [(⟨1, 0, [], [e]⟩ : DStep), ⟨0, 0, [], []⟩]) = ((l.take k).flatMap fun e => [(⟨1, 0, [], [e]⟩ : DStep), ⟨0, 0, [], []⟩]) ++ [⟨1, 0, [], (l.take (k + 1)).drop k⟩, ⟨0, 0, [], []⟩] := by
  have e : (l.take (k + 1)).drop k = [l[k]] := by
    rw [List.take_succ_eq_append_getElem h, List.drop_append, List.drop_eq_nil_of_le (by simp; omega)]
    simp [show k - min k l.length = 0 by omega]
  rw [e, List.take_succ_eq_append_getElem h, List.flatMap_append]
  rfl
structure SB (d : List DStep) (i : Nat) (o : List DStep) (p q : Nat) : Prop where
  eq : o = splitL (d.take i) ++ List.replicate p ⟨(d.getD i default).kind, 1, (d.getD i default).attrs, []⟩ ++ ((d.getD i default).elems.take q).flatMap fun e => [(⟨1, 0, [], [e]⟩ : DStep), ⟨0, 0, [], []⟩]
theorem SB.len {d : List DStep} {i p q : Nat} {o : List DStep} (h : SB d i o p q) (hi : i < d.length) (hp : p ≤ (d.getD i default).n.toNat) (hq : q ≤ (d.getD i default).elems.length) :
    o.length = (splitL (d.take i)).length + p + 2 * q ∧ (splitL (d.take i)).length + (d.getD i default).n.toNat + 2 * (d.getD i default).elems.length ≤ (splitL d).length := by
  refine ⟨?_, split_le hi⟩
  rw [h.eq]
  simp only [List.length_append, List.length_replicate, pair_len, List.length_take]
  omega
theorem SB.start {d : List DStep} {i : Nat} : SB d i (splitL (d.take i)) 0 0 := ⟨by simp⟩
theorem SB.one {d : List DStep} {i p : Nat} {o : List DStep} (h : SB d i o p 0) : SB d i (o ++ [⟨(d.getD i default).kind, 1, (d.getD i default).attrs, []⟩]) (p + 1) 0 := ⟨by
  have := h.eq
  simp only [List.take_zero, List.flatMap_nil, List.append_nil] at this ⊢
  rw [this, List.append_assoc, ← List.replicate_succ']⟩
theorem SB.two {d : List DStep} {i p q : Nat} {o : List DStep} (h : SB d i o p q) (hq : q < (d.getD i default).elems.length) : SB d i (o ++ [⟨1, 0, [], ((d.getD i default).elems.take (q + 1)).drop q⟩, ⟨0, 0, [], []⟩]) p (q + 1) := ⟨by
  rw [h.eq, pair_step hq]; simp only [List.append_assoc]⟩
theorem SB.fin {d : List DStep} {i p q : Nat} {o : List DStep} (h : SB d i o p q) (hi : i < d.length) (hp : p = (d.getD i default).n.toNat) (hq : q = (d.getD i default).elems.length) : o = splitL (d.take (i + 1)) := by
  rw [h.eq, splitL_take hi, spl, hp, hq, List.take_length, List.append_assoc]
end Go.Ch
end
section
set_option linter.unusedVariables false
set_option linter.unusedSimpArgs false
namespace Go.Ch
open Go Go.Ab

def putA (a : Attr) : List Attr → Bool → List Attr
  | [], d => if d = true then [] else [a]
  | x :: l, d => (if d = false ∧ slt x.name a.name = false then [a] else []) ++ ((if seq x.name a.name = true then [] else [x]) ++ putA a l (d || !(slt x.name a.name)))
theorem putA_true (a : Attr) (l : List Attr) : putA a l true = l.filter fun x => !seq x.name a.name := by
  induction l with
  | nil => rfl
  | cons x l ih =>
    unfold putA
    rw [if_neg (by simp)]
    simp only [Bool.true_or, ih, List.nil_append, List.filter_cons]
    cases seq x.name a.name <;> simp
theorem look_filter_ne {l : List Attr} {m n : ByteArray} : look (l.filter fun x => !seq x.name m) n = if m = n then none else look l n := by
  induction l with
  | nil => simp [look]
  | cons x l ih =>
    rw [List.filter_cons]
    by_cases e : x.name = m
    · rw [show seq x.name m = true from seq_iff.2 e]
      simp only [Bool.not_true, Bool.false_eq_true, if_false, ih]
      by_cases q : m = n
      · rw [if_pos q, if_pos q]
      · rw [if_neg q, if_neg q, look, if_neg (by rw [e]; exact q)]
    · rw [show seq x.name m = false from seq_no.2 e]
      simp only [Bool.not_false, if_true]
      rw [look, look, ih]
      by_cases q : x.name = n
      · rw [if_pos q, if_pos q, if_neg (by rw [← q]; exact fun h => e h.symm)]
      · rw [if_neg q, if_neg q]
theorem sorted_filter {l : List Attr} (p : Attr → Bool) (h : Sorted l) : Sorted (l.filter p) := by
  induction l with
  | nil => exact h
  | cons x l ih =>
    rw [List.filter_cons]
    split
    · exact ⟨fun a ha => h.1 a (List.mem_filter.1 ha).1, ih h.2⟩
    · exact ih h.2
theorem putA_above {n : ByteArray} {a : Attr} (hn : slt n a.name = true) : ∀ {l : List Attr} {d : Bool}, Above n l → Above n (putA a l d)
  | [], d, h => by
    unfold putA; split
    · exact h
    · intro x hx; rw [List.mem_singleton] at hx; subst hx; exact hn
  | y :: l, d, h => by
    unfold putA
    intro x hx
    rcases List.mem_append.1 hx with hx | hx
    · split at hx
      · rw [List.mem_singleton] at hx; subst hx; exact hn
      · cases hx
    · rcases List.mem_append.1 hx with hx | hx
      · split at hx
        · cases hx
        · rw [List.mem_singleton] at hx; subst hx; exact h _ (by simp)
      · exact putA_above hn (fun z hz => h z (by simp [hz])) x hx
theorem putA_sorted {a : Attr} : ∀ {l : List Attr}, Sorted l → Sorted (putA a l false)
  | [], h => by unfold putA; rw [if_neg (by decide)]; exact ⟨fun x hx => (by cases hx), trivial⟩
  | x :: l, h => by
    unfold putA
    by_cases hs : slt x.name a.name = true
    · rw [if_neg (by rw [hs]; simp), if_neg (by rw [seq_iff]; exact slt_ne hs)]
      simp only [hs, Bool.not_true, Bool.or_false]
      exact ⟨putA_above hs h.1, putA_sorted h.2⟩
    · have hs : slt x.name a.name = false := by simpa using hs
      rw [if_pos ⟨rfl, hs⟩]
      simp only [hs, Bool.not_false, Bool.or_true, putA_true]
      have e : (if seq x.name a.name = true then [] else [x]) ++ l.filter (fun x => !seq x.name a.name) = (x :: l).filter fun x => !seq x.name a.name := by
        rw [List.filter_cons]; cases seq x.name a.name <;> simp
      rw [e]
      refine ⟨fun y hy => ?_, sorted_filter _ h⟩
      obtain ⟨h1, h2⟩ := List.mem_filter.1 hy
      have hne : y.name ≠ a.name := by simpa [seq_no] using h2
      have hx : slt a.name x.name = true ∨ a.name = x.name := by
        cases q : slt a.name x.name with
        | true => exact .inl rfl
        | false => exact .inr (slt_tri q hs)
      rcases List.mem_cons.1 h1 with rfl | h1
      · exact hx.resolve_right (fun e => hne e.symm)
      · have h3 := h.1 y h1
        rcases hx with q | q
        · exact slt_trans q h3
        · rw [q]; exact h3
theorem putA_look {a : Attr} {n : ByteArray} : ∀ {l : List Attr}, Sorted l → look (putA a l false) n = if a.name = n then some a.val else look l n
  | [], h => by unfold putA; rw [if_neg (by decide)]; simp only [look]
  | x :: l, h => by
    unfold putA
    by_cases hs : slt x.name a.name = true
    · rw [if_neg (by rw [hs]; simp), if_neg (by rw [seq_iff]; exact slt_ne hs)]
      simp only [hs, Bool.not_true, Bool.or_false, List.nil_append, List.singleton_append]
      rw [look, putA_look h.2, look]
      by_cases q : x.name = n
      · rw [if_pos q, if_pos q, if_neg (by rw [← q]; exact fun e => slt_ne hs e.symm)]
      · rw [if_neg q, if_neg q]
    · have hs : slt x.name a.name = false := by simpa using hs
      rw [if_pos ⟨rfl, hs⟩]
      simp only [hs, Bool.not_false, Bool.or_true, putA_true]
      have e : (if seq x.name a.name = true then [] else [x]) ++ l.filter (fun x => !seq x.name a.name) = (x :: l).filter fun x => !seq x.name a.name := by
        rw [List.filter_cons]; cases seq x.name a.name <;> simp
      rw [e, List.singleton_append, look, look_filter_ne]
      by_cases q : a.name = n
      · rw [if_pos q, if_pos q]
      · rw [if_neg q, if_neg q, if_neg q]
def putsA (o c : List Attr) : List Attr := c.foldl (fun o a => putA a o false) o
theorem putsA_ok : ∀ {c o : List Attr}, Sorted c → Sorted o → Sorted (putsA o c) ∧ ∀ n, look (putsA o c) n = (look c n).or (look o n)
  | [], o, _, h => ⟨h, fun n => by simp [putsA, look]⟩
  | x :: c, o, hc, h => by
    obtain ⟨i1, i2⟩ := putsA_ok (c := c) (o := putA x o false) hc.2 (putA_sorted h)
    refine ⟨i1, fun n => ?_⟩
    have e : putsA o (x :: c) = putsA (putA x o false) c := rfl
    rw [e, i2, putA_look h, look]
    by_cases q : x.name = n
    · rw [if_pos q, if_pos q, look_above (l := c) (fun a ha => by rw [← q]; exact fun e => slt_ne (hc.1 a ha) e.symm)]; rfl
    · rw [if_neg q, if_neg q]
def fullA (l : List Attr) : List Attr := l.filter fun a => !seq a.val { data := #[] }
def changedR (l c : List Attr) : List Attr := fullA (putsA (putsA [] l) c)
theorem look_full {l : List Attr} (h : Sorted l) (n : ByteArray) : look (fullA l) n = (look l n).bind fun v => if v = mt then none else some v := by
  induction l with
  | nil => rfl
  | cons x l ih =>
    have i := ih h.2
    unfold fullA at i ⊢
    rw [List.filter_cons]
    by_cases e : x.val = mt
    · rw [show seq x.val { data := #[] } = true from seq_iff.2 e]
      simp only [Bool.not_true, Bool.false_eq_true, if_false, i]
      rw [look]
      by_cases q : x.name = n
      · rw [if_pos q, look_above (l := l) (fun a ha => by rw [← q]; exact fun e => slt_ne (h.1 a ha) e.symm)]
        simp [e]
      · rw [if_neg q]
    · rw [show seq x.val { data := #[] } = false from seq_no.2 e]
      simp only [Bool.not_false, if_true]
      rw [look, look, i]
      by_cases q : x.name = n
      · rw [if_pos q, if_pos q]; simp [e]
      · rw [if_neg q, if_neg q]
theorem changedR_eq {l c : List Attr} (hl : VG false l) (hc : VG true c) : changedR l c = fm rawG l c := by
  obtain ⟨a1, a2⟩ := putsA_ok (c := l) (o := []) hl.1 trivial
  obtain ⟨b1, b2⟩ := putsA_ok (c := c) (o := putsA [] l) hc.1 a1
  refine sorted_ext (sorted_filter _ b1) (raw_V np_mt hl hc).1 (fun n => ?_)
  unfold changedR
  rw [look_full b1, b2, a2, fm_look np_mt fair_raw hl hc]
  unfold at2
  cases hq : look c n with
  | none =>
    cases hp : look l n with
    | none => rfl
    | some v =>
      have hv : v ≠ mt := q_val vp_mt (V.look hl hp)
      simp [look, rawG, hv, dflt]
  | some v =>
    have hn : n ≠ mt := q_ne np_mt (V.look hc hq)
    cases hp : look l n with
    | none => by_cases e : v = mt <;> simp [look, rawG, hn, e]
    | some w => by_cases e : v = mt <;> simp [look, rawG, hn, e]
end Go.Ch
namespace Go.Ch
open Go Go.Ab
theorem takeA {l : List Attr} {i : Nat} (h : i < l.length) : l.take (i + 1) = l.take i ++ [l.getD i default] := by
  rw [List.take_succ_eq_append_getElem h]; simp [List.getD, List.getElem?_eq_getElem h]
end Go.Ch
end
