/- Parts of the proof: ChDelta10, DeltaRead, DeltaRuns, DeltaJD, DeltaJF, ChDelta11, ChDelta8, ChDelta12, Frame, AbBulk. -/
import Derived.Test.YtbdbibmbfmlobaaM1
import Derived.Test.YtbdbibmbfmlobaaM2
import Derived.Test.YtbdbibmbfmlobaaM3
import Derived.Test.YtbdbibmbfmlobaaM4
import Derived.Test.YtbdbibmbfmlobaaM5
import Derived.Test.YtbdbibmbfmlobaaRows
import Derived.JoinedOf
import Derived.ProofKit
section
set_option linter.unusedVariables false
set_option linter.unusedSimpArgs false
set_option maxRecDepth 100000
set_option maxHeartbeats 4000000
open Go Go.Proofs Go.Ab
namespace Go.Ch
def tkE (l : List DStep) (u n : Int) : DStep := if (l.getD 0 default).kind = 1 then ⟨(l.getD 0 default).kind, (l.getD 0 default).n, (l.getD 0 default).attrs, ((l.getD 0 default).elems.take (u + n).toNat).drop u.toNat⟩ else ⟨(l.getD 0 default).kind, n, (l.getD 0 default).attrs, (l.getD 0 default).elems⟩
def tkL (l : List DStep) (u n : Int) : List DStep := if u + n = szD (l.getD 0 default) then l.drop 1 else l
def tkN (l : List DStep) (u n : Int) : Int := if u + n = szD (l.getD 0 default) then 0 else u + n

theorem fc_dTake (l : List DStep) (u n : Int) (h0 : 0 < l.length) (hu : 0 ≤ u ∧ 0 ≤ n ∧ u + n ≤ szD (l.getD 0 default) ∧ u + n ≤ 9223372036854775807) : FC Try.prog 112 [.ptr 0 0, VI n] (app emp [(0, .box [VL 4 dstepT l, VI u])]) (.t (dstepT (tkE l u n))) (app emp [(0, .box [VL 4 dstepT (tkL l u n), VI (tkN l u n)]), (1, .box [VI ((tkE l u n).kind), VI ((tkE l u n).n), VL 2 attrT ((tkE l u n).attrs), VL 3 elemT ((tkE l u n).elems)])]) := by
 refine .go Try.f112 ?_
 refine .br [.r [], .r [(4, X (Xi dstepT l 0))], .r []] ((((l.getD 0 default)).kind) == 1) (fun h2 => ?_) (fun h2 => ?_)
 ·
  (try simp only [beq_iff_eq, beq_eq_false_iff_ne, ne_eq] at h2)
  have hsz : szD (l.getD 0 default) = (l.getD 0 default).elems.length := by unfold szD; rw [if_pos (by omega)]
  refine .br [.r [(11, X (Xn (u + n))), (12, X (Xsb elemT 3 (((l.getD 0 default)).elems) u (u + n)))], .r [(5, X (Xn (u + n)))], .r [(8, X (Xi dstepT l 0)), (10, X (Xc0 (fc_size ((l.getD 0 default))) X0))]] ((u + n) == (szD ((l.getD 0 default)))) (fun h6 => ?_) (fun h6 => ?_)
  ·
   (try simp only [beq_iff_eq, beq_eq_false_iff_ne, ne_eq] at h6)
   have e1 : ((tkL l u n) : List DStep) = (l.drop 1) := by
    simp only [tkE, tkL, tkN]; ((repeat' split) <;> first | rfl | omega | (simp_all; done) | (simp_all; omega))
   have e2 : ((tkN l u n) : Int) = 0 := by
    simp only [tkE, tkL, tkN]; ((repeat' split) <;> first | rfl | omega | (simp_all; done) | (simp_all; omega))
   have e3 : ((tkE l u n).kind : Int) = ((l.getD 0 default)).kind := by
    simp only [tkE, tkL, tkN]; ((repeat' split) <;> first | rfl | omega | (simp_all; done) | (simp_all; omega))
   have e4 : ((tkE l u n).n : Int) = ((l.getD 0 default)).n := by
    simp only [tkE, tkL, tkN]; ((repeat' split) <;> first | rfl | omega | (simp_all; done) | (simp_all; omega))
   have e5 : ((tkE l u n).attrs : List Attr) = ((l.getD 0 default)).attrs := by
    simp only [tkE, tkL, tkN]; ((repeat' split) <;> first | rfl | omega | (simp_all; done) | (simp_all; omega))
   have e6 : ((tkE l u n).elems : List Elem) = (((((l.getD 0 default)).elems).take (Int.toNat (u + n))).drop (Int.toNat u)) := by
    simp only [tkE, tkL, tkN]; ((repeat' split) <;> first | rfl | omega | (simp_all; done) | (simp_all; omega))
   have e7 : ((tkE l u n) : DStep) = ({ kind := ((l.getD 0 default)).kind, n := ((l.getD 0 default)).n, attrs := ((l.getD 0 default)).attrs, elems := (((((l.getD 0 default)).elems).take (Int.toNat (u + n))).drop (Int.toNat u)) } : DStep) := by
    simp only [tkE, tkL, tkN]; ((repeat' split) <;> first | rfl | omega | (simp_all; done) | (simp_all; omega))
   exact .finE [.r [(6, X (Xsd dstepT 4 l 1))], .r []] [(0, 0), (1, 1)] (fun (z0, z1, z2, z3, z4, z5, z6) => (.t (dstepT z6), [(0, .box [VL 4 dstepT z0, VI z1]), (1, .box [VI z2, VI z3, VL 2 attrT z4, VL 3 elemT z5])])) (((l.drop 1) : List DStep), (0 : Int), (((l.getD 0 default)).kind : Int), (((l.getD 0 default)).n : Int), (((l.getD 0 default)).attrs : List Attr), ((((((l.getD 0 default)).elems).take (Int.toNat (u + n))).drop (Int.toNat u)) : List Elem), (({ kind := ((l.getD 0 default)).kind, n := ((l.getD 0 default)).n, attrs := ((l.getD 0 default)).attrs, elems := (((((l.getD 0 default)).elems).take (Int.toNat (u + n))).drop (Int.toNat u)) } : DStep) : DStep)) (((tkL l u n) : List DStep), ((tkN l u n) : Int), ((tkE l u n).kind : Int), ((tkE l u n).n : Int), ((tkE l u n).attrs : List Attr), ((tkE l u n).elems : List Elem), ((tkE l u n) : DStep)) (pr e1 (pr e2 (pr e3 (pr e4 (pr e5 (pr e6 e7))))))
  ·
   (try simp only [beq_iff_eq, beq_eq_false_iff_ne, ne_eq] at h6)
   have e8 : ((tkL l u n) : List DStep) = l := by
    simp only [tkE, tkL, tkN]; ((repeat' split) <;> first | rfl | omega | (simp_all; done) | (simp_all; omega))
   have e9 : ((tkN l u n) : Int) = (u + n) := by
    simp only [tkE, tkL, tkN]; ((repeat' split) <;> first | rfl | omega | (simp_all; done) | (simp_all; omega))
   have e10 : ((tkE l u n).kind : Int) = ((l.getD 0 default)).kind := by
    simp only [tkE, tkL, tkN]; ((repeat' split) <;> first | rfl | omega | (simp_all; done) | (simp_all; omega))
   have e11 : ((tkE l u n).n : Int) = ((l.getD 0 default)).n := by
    simp only [tkE, tkL, tkN]; ((repeat' split) <;> first | rfl | omega | (simp_all; done) | (simp_all; omega))
   have e12 : ((tkE l u n).attrs : List Attr) = ((l.getD 0 default)).attrs := by
    simp only [tkE, tkL, tkN]; ((repeat' split) <;> first | rfl | omega | (simp_all; done) | (simp_all; omega))
   have e13 : ((tkE l u n).elems : List Elem) = (((((l.getD 0 default)).elems).take (Int.toNat (u + n))).drop (Int.toNat u)) := by
    simp only [tkE, tkL, tkN]; ((repeat' split) <;> first | rfl | omega | (simp_all; done) | (simp_all; omega))
   have e14 : ((tkE l u n) : DStep) = ({ kind := ((l.getD 0 default)).kind, n := ((l.getD 0 default)).n, attrs := ((l.getD 0 default)).attrs, elems := (((((l.getD 0 default)).elems).take (Int.toNat (u + n))).drop (Int.toNat u)) } : DStep) := by
    simp only [tkE, tkL, tkN]; ((repeat' split) <;> first | rfl | omega | (simp_all; done) | (simp_all; omega))
   exact .finE [.r []] [(0, 0), (1, 1)] (fun (z0, z1, z2, z3, z4, z5, z6) => (.t (dstepT z6), [(0, .box [VL 4 dstepT z0, VI z1]), (1, .box [VI z2, VI z3, VL 2 attrT z4, VL 3 elemT z5])])) ((l : List DStep), ((u + n) : Int), (((l.getD 0 default)).kind : Int), (((l.getD 0 default)).n : Int), (((l.getD 0 default)).attrs : List Attr), ((((((l.getD 0 default)).elems).take (Int.toNat (u + n))).drop (Int.toNat u)) : List Elem), (({ kind := ((l.getD 0 default)).kind, n := ((l.getD 0 default)).n, attrs := ((l.getD 0 default)).attrs, elems := (((((l.getD 0 default)).elems).take (Int.toNat (u + n))).drop (Int.toNat u)) } : DStep) : DStep)) (((tkL l u n) : List DStep), ((tkN l u n) : Int), ((tkE l u n).kind : Int), ((tkE l u n).n : Int), ((tkE l u n).attrs : List Attr), ((tkE l u n).elems : List Elem), ((tkE l u n) : DStep)) (pr e8 (pr e9 (pr e10 (pr e11 (pr e12 (pr e13 e14))))))
 ·
  (try simp only [beq_iff_eq, beq_eq_false_iff_ne, ne_eq] at h2)
  refine .br [.r [], .r [(5, X (Xn (u + n)))], .r [(8, X (Xi dstepT l 0)), (10, X (Xc0 (fc_size ((l.getD 0 default))) X0))]] ((u + n) == (szD ((l.getD 0 default)))) (fun h6 => ?_) (fun h6 => ?_)
  ·
   (try simp only [beq_iff_eq, beq_eq_false_iff_ne, ne_eq] at h6)
   have e15 : ((tkL l u n) : List DStep) = (l.drop 1) := by
    simp only [tkE, tkL, tkN]; ((repeat' split) <;> first | rfl | omega | (simp_all; done) | (simp_all; omega))
   have e16 : ((tkN l u n) : Int) = 0 := by
    simp only [tkE, tkL, tkN]; ((repeat' split) <;> first | rfl | omega | (simp_all; done) | (simp_all; omega))
   have e17 : ((tkE l u n).kind : Int) = ((l.getD 0 default)).kind := by
    simp only [tkE, tkL, tkN]; ((repeat' split) <;> first | rfl | omega | (simp_all; done) | (simp_all; omega))
   have e18 : ((tkE l u n).n : Int) = n := by
    simp only [tkE, tkL, tkN]; ((repeat' split) <;> first | rfl | omega | (simp_all; done) | (simp_all; omega))
   have e19 : ((tkE l u n).attrs : List Attr) = ((l.getD 0 default)).attrs := by
    simp only [tkE, tkL, tkN]; ((repeat' split) <;> first | rfl | omega | (simp_all; done) | (simp_all; omega))
   have e20 : ((tkE l u n).elems : List Elem) = ((l.getD 0 default)).elems := by
    simp only [tkE, tkL, tkN]; ((repeat' split) <;> first | rfl | omega | (simp_all; done) | (simp_all; omega))
   have e21 : ((tkE l u n) : DStep) = ({ kind := ((l.getD 0 default)).kind, n := n, attrs := ((l.getD 0 default)).attrs, elems := ((l.getD 0 default)).elems } : DStep) := by
    simp only [tkE, tkL, tkN]; ((repeat' split) <;> first | rfl | omega | (simp_all; done) | (simp_all; omega))
   exact .finE [.r [(6, X (Xsd dstepT 4 l 1))], .r []] [(0, 0), (1, 1)] (fun (z0, z1, z2, z3, z4, z5, z6) => (.t (dstepT z6), [(0, .box [VL 4 dstepT z0, VI z1]), (1, .box [VI z2, VI z3, VL 2 attrT z4, VL 3 elemT z5])])) (((l.drop 1) : List DStep), (0 : Int), (((l.getD 0 default)).kind : Int), (n : Int), (((l.getD 0 default)).attrs : List Attr), (((l.getD 0 default)).elems : List Elem), (({ kind := ((l.getD 0 default)).kind, n := n, attrs := ((l.getD 0 default)).attrs, elems := ((l.getD 0 default)).elems } : DStep) : DStep)) (((tkL l u n) : List DStep), ((tkN l u n) : Int), ((tkE l u n).kind : Int), ((tkE l u n).n : Int), ((tkE l u n).attrs : List Attr), ((tkE l u n).elems : List Elem), ((tkE l u n) : DStep)) (pr e15 (pr e16 (pr e17 (pr e18 (pr e19 (pr e20 e21))))))
  ·
   (try simp only [beq_iff_eq, beq_eq_false_iff_ne, ne_eq] at h6)
   have e22 : ((tkL l u n) : List DStep) = l := by
    simp only [tkE, tkL, tkN]; ((repeat' split) <;> first | rfl | omega | (simp_all; done) | (simp_all; omega))
   have e23 : ((tkN l u n) : Int) = (u + n) := by
    simp only [tkE, tkL, tkN]; ((repeat' split) <;> first | rfl | omega | (simp_all; done) | (simp_all; omega))
   have e24 : ((tkE l u n).kind : Int) = ((l.getD 0 default)).kind := by
    simp only [tkE, tkL, tkN]; ((repeat' split) <;> first | rfl | omega | (simp_all; done) | (simp_all; omega))
   have e25 : ((tkE l u n).n : Int) = n := by
    simp only [tkE, tkL, tkN]; ((repeat' split) <;> first | rfl | omega | (simp_all; done) | (simp_all; omega))
   have e26 : ((tkE l u n).attrs : List Attr) = ((l.getD 0 default)).attrs := by
    simp only [tkE, tkL, tkN]; ((repeat' split) <;> first | rfl | omega | (simp_all; done) | (simp_all; omega))
   have e27 : ((tkE l u n).elems : List Elem) = ((l.getD 0 default)).elems := by
    simp only [tkE, tkL, tkN]; ((repeat' split) <;> first | rfl | omega | (simp_all; done) | (simp_all; omega))
   have e28 : ((tkE l u n) : DStep) = ({ kind := ((l.getD 0 default)).kind, n := n, attrs := ((l.getD 0 default)).attrs, elems := ((l.getD 0 default)).elems } : DStep) := by
    simp only [tkE, tkL, tkN]; ((repeat' split) <;> first | rfl | omega | (simp_all; done) | (simp_all; omega))
   exact .finE [.r []] [(0, 0), (1, 1)] (fun (z0, z1, z2, z3, z4, z5, z6) => (.t (dstepT z6), [(0, .box [VL 4 dstepT z0, VI z1]), (1, .box [VI z2, VI z3, VL 2 attrT z4, VL 3 elemT z5])])) ((l : List DStep), ((u + n) : Int), (((l.getD 0 default)).kind : Int), (n : Int), (((l.getD 0 default)).attrs : List Attr), (((l.getD 0 default)).elems : List Elem), (({ kind := ((l.getD 0 default)).kind, n := n, attrs := ((l.getD 0 default)).attrs, elems := ((l.getD 0 default)).elems } : DStep) : DStep)) (((tkL l u n) : List DStep), ((tkN l u n) : Int), ((tkE l u n).kind : Int), ((tkE l u n).n : Int), ((tkE l u n).attrs : List Attr), ((tkE l u n).elems : List Elem), ((tkE l u n) : DStep)) (pr e22 (pr e23 (pr e24 (pr e25 (pr e26 (pr e27 e28))))))
end Go.Ch
end
section
set_option linter.unusedVariables false
set_option linter.unusedSimpArgs false
namespace Go.Ch
open Go Go.Ab

def ruD (l : List DStep) (u : Int) : List DU := (exD l).drop u.toNat
structure GoodRD (l : List DStep) (u : Int) : Prop where
  ok : ∀ s ∈ l, DOk s
  pos : 0 ≤ u
  lt : 0 < l.length → u < szD (l.getD 0 default)
  nil : l.length = 0 → u = 0
theorem exS_sz {s : DStep} (h : DOk s) : ((exS s).length : Int) = szD s := by
  unfold exS szD
  rcases h with ⟨k, _⟩ | ⟨k, _, _, n1, _⟩
  · rw [if_pos k, if_pos k, List.length_map]
  · have k1 : ¬ s.kind = 1 := by omega
    rw [if_neg k1, if_neg k1]
    split <;> rw [List.length_replicate] <;> omega
theorem ruD0 (l : List DStep) : ruD l 0 = exD l := rfl
theorem ruD_nil {l : List DStep} {u : Int} (h : l.length = 0) : ruD l u = [] := by
  rw [List.length_eq_zero_iff.1 h]; unfold ruD; simp [exD]
theorem tkE_split {l : List DStep} {u n : Int} (ho : DOk (l.getD 0 default)) (hu : 0 ≤ u) (hn : 0 ≤ n) (hl : u + n ≤ szD (l.getD 0 default)) :
    (exS (l.getD 0 default)).drop u.toNat = exS (tkE l u n) ++ (exS (l.getD 0 default)).drop (u + n).toNat := by
  unfold tkE
  generalize l.getD 0 default = s at *
  have hz : (u + n).toNat = u.toNat + n.toNat := by omega
  unfold szD at hl
  by_cases k1 : s.kind = 1
  · rw [if_pos k1] at hl ⊢
    unfold exS
    simp only [if_pos k1]
    rw [← List.map_drop, ← List.map_drop, ← List.map_append]
    congr 1
    conv => lhs; rw [← List.take_append_drop (u + n).toNat s.elems]
    rw [List.drop_append_of_le_length (by rw [List.length_take]; omega)]
  · rw [if_neg k1] at hl ⊢
    unfold exS
    simp only [if_neg k1]
    split
    · rw [List.drop_replicate, List.drop_replicate, List.replicate_append_replicate]; congr 1; omega
    · rw [List.drop_replicate, List.drop_replicate, List.replicate_append_replicate]; congr 1; omega
theorem tkD_ok {l : List DStep} {u n : Int} (h : GoodRD l u) (h0 : 0 < l.length) (hn : 0 ≤ n) (hl : u + n ≤ szD (l.getD 0 default)) :
    GoodRD (tkL l u n) (tkN l u n) ∧ ruD l u = exS (tkE l u n) ++ ruD (tkL l u n) (tkN l u n) := by
  have ho : DOk (l.getD 0 default) := h.ok _ (getD_mem' h0)
  have hz := exS_sz ho
  have hp := h.pos
  have hs := tkE_split ho hp hn hl
  have hd := dropD (l := l) (i := 0) h0
  rw [List.drop_zero] at hd
  have he : exD l = exS (l.getD 0 default) ++ exD (l.drop 1) := by conv => lhs; rw [hd, exD]
  have hlt := h.lt h0
  unfold tkL tkN
  by_cases e : u + n = szD (l.getD 0 default)
  · rw [if_pos e, if_pos e]
    refine ⟨⟨fun s hs => h.ok s (List.mem_of_mem_drop hs), Int.le_refl _, fun h1 => ?_, fun _ => rfl⟩, ?_⟩
    · have := stepD_sz (step_iff.2 (h.ok _ (List.mem_of_mem_drop (getD_mem' h1))))
      omega
    · rw [ruD0]
      unfold ruD
      rw [he, List.drop_append_of_le_length (by omega), hs, List.drop_eq_nil_of_le (show (exS (l.getD 0 default)).length ≤ (u + n).toNat by omega), List.append_nil]
  · rw [if_neg e, if_neg e]
    refine ⟨⟨h.ok, by omega, fun _ => by omega, fun h1 => by omega⟩, ?_⟩
    unfold ruD
    rw [he, List.drop_append_of_le_length (by omega), List.drop_append_of_le_length (by omega), hs, List.append_assoc]
end Go.Ch
end
section
set_option linter.unusedVariables false
set_option linter.unusedSimpArgs false
namespace Go.Ch
open Go Go.Ab

theorem jd_C (n : Nat) (p q : List DU) : joinDU (List.replicate n .C ++ p) q = List.replicate n .C ++ joinDU p q := by
  induction n with
  | zero => rfl
  | succ n ih => rw [List.replicate_succ, List.cons_append, joinDU, ih, List.cons_append]
def NoCD : List DU → Prop
  | .C :: _ => False
  | _ => True
theorem jd_A1 {p : List DU} (hp : NoCD p) (e : Elem) (q : List DU) : joinDU p (.A e :: q) = .A e :: joinDU p q := by
  rw [joinDU]
  intro p' h
  subst h
  exact hp
theorem jd_A (e : List Elem) {p : List DU} (hp : NoCD p) (q : List DU) : joinDU p (e.map .A ++ q) = e.map .A ++ joinDU p q := by
  induction e with
  | nil => rfl
  | cons x e ih => rw [List.map_cons, List.cons_append, jd_A1 hp, ih, List.cons_append]
theorem jd_KK (n : Nat) (c d : List Attr) (p q : List DU) : joinDU (List.replicate n (.K c) ++ p) (List.replicate n (.K d) ++ q) = List.replicate n (.K (fm botG c d)) ++ joinDU p q := by
  induction n with
  | zero => rfl
  | succ n ih => rw [List.replicate_succ, List.replicate_succ, List.replicate_succ, List.cons_append, List.cons_append, joinDU, ih, List.cons_append]
theorem jd_KC (n : Nat) (c : List Attr) (p q : List DU) : joinDU (List.replicate n (.K c) ++ p) (List.replicate n .C ++ q) = List.replicate n .C ++ joinDU p q := by
  induction n with
  | zero => rfl
  | succ n ih => rw [List.replicate_succ, List.replicate_succ, List.cons_append, List.cons_append, joinDU, ih, List.cons_append]
theorem jd_AK (e : List Elem) (d : List Attr) (p q : List DU) : joinDU (e.map .A ++ p) (List.replicate e.length (.K d) ++ q) = (e.map (chgE d)).map .A ++ joinDU p q := by
  induction e with
  | nil => rfl
  | cons x e ih => rw [List.map_cons, List.length_cons, List.replicate_succ, List.cons_append, List.cons_append, joinDU, ih]; rfl
theorem jd_AC (e : List Elem) (p q : List DU) : joinDU (e.map .A ++ p) (List.replicate e.length .C ++ q) = joinDU p q := by
  induction e with
  | nil => rfl
  | cons x e ih => rw [List.map_cons, List.length_cons, List.replicate_succ, List.cons_append, List.cons_append, joinDU, ih]
end Go.Ch
end
section
set_option linter.unusedVariables false
set_option linter.unusedSimpArgs false
namespace Go.Ch
open Go Go.Ab

structure JD (w : DWr) (ps : List DStep) (pu : Int) (qs : List DStep) (qu : Int) (T : Nat) (G : DWr) : Prop where
  gp : GoodRD ps pu
  gq : GoodRD qs qu
  dp : DN 100000000000 ps
  dq : DN 100000000000 qs
  eq : newN (ruD ps pu) = oldN (ruD qs qu)
  di : DI w (joinDU (ruD ps pu) (ruD qs qu)) T G
def jmD (ps : List DStep) (pu : Int) (qs : List DStep) (qu : Int) : Nat := (ruD ps pu).length + (ruD qs qu).length
theorem dn_tk {m : Nat} {l : List DStep} {u n : Int} (h : DN m l) : DN m (tkL l u n) := by
  unfold tkL; split
  · exact fun s hs => h s (List.mem_of_mem_drop hs)
  · exact h
theorem exS_C {l : List DStep} {u n : Int} (k : (l.getD 0 default).kind = 2) : exS (tkE l u n) = List.replicate n.toNat .C := by
  unfold tkE
  rw [if_neg (by omega)]
  unfold exS
  simp only
  rw [if_neg (by omega), if_pos k]
theorem exS_A {l : List DStep} {u n : Int} (k : (l.getD 0 default).kind = 1) : exS (tkE l u n) = (tkE l u n).elems.map .A := by
  unfold tkE
  rw [if_pos k]
  unfold exS
  simp only
  rw [if_pos k]
theorem exS_K {l : List DStep} {u n : Int} (k : (l.getD 0 default).kind = 0) : exS (tkE l u n) = List.replicate n.toNat (.K (l.getD 0 default).attrs) := by
  unfold tkE
  rw [if_neg (by omega)]
  unfold exS
  simp only
  rw [if_neg (by omega), if_neg (by omega)]
section
variable {w : DWr} {ps qs : List DStep} {pu qu : Int} {T : Nat} {G : DWr}
theorem JD.cut (h : JD w ps pu qs qu T G) (h0 : 0 < ps.length) (hk : (ps.getD 0 default).kind = 2) {n : Int} (hn : n = szD (ps.getD 0 default) - pu) :
    JD ⟨w.out, w.add, w.cut + n⟩ (tkL ps pu n) (tkN ps pu n) qs qu T G ∧ jmD (tkL ps pu n) (tkN ps pu n) qs qu < jmD ps pu qs qu := by
  have hl := h.gp.lt h0
  obtain ⟨g, e⟩ := tkD_ok (n := n) h.gp h0 (by omega) (by omega)
  rw [exS_C hk] at e
  have hd := h.di
  have he := h.eq
  rw [e, jd_C] at hd
  rw [e, newN_app, (lens_Cs _).2] at he
  have hd2 := hd.cuts
  rw [show ((n.toNat : Nat) : Int) = n by omega] at hd2
  refine ⟨⟨g, h.gq, dn_tk h.dp, h.dq, by omega, hd2⟩, ?_⟩
  unfold jmD
  rw [e, List.length_append, List.length_replicate]
  omega
theorem noCD {l : List DStep} {u : Int} (h : GoodRD l u) (hk : 0 < l.length → (l.getD 0 default).kind ≠ 2) : NoCD (ruD l u) := by
  by_cases h0 : 0 < l.length
  · have hl := h.lt h0
    have hp := h.pos
    have k2 := hk h0
    obtain ⟨g, e⟩ := tkD_ok (n := 1) h h0 (by decide) (by omega)
    have hs := (stepD_sz (step_iff.2 (h.ok _ (getD_mem' h0)))).1
    rcases hs with k | k | k
    · rw [e, exS_K k]; trivial
    · rw [e, exS_A k]
      have hem : (tkE l u 1).elems.length = 1 := by
        unfold tkE
        rw [if_pos k]
        simp only [List.length_drop, List.length_take]
        have : szD (l.getD 0 default) = (l.getD 0 default).elems.length := by unfold szD; rw [if_pos k]
        omega
      generalize (tkE l u 1).elems = z at hem
      cases z with
      | nil => simp at hem
      | cons x r => trivial
    · exact absurd k k2
  · rw [ruD_nil (by omega)]; trivial
theorem JD.add (h : JD w ps pu qs qu T G) (hp : 0 < ps.length → (ps.getD 0 default).kind ≠ 2) (h0 : 0 < qs.length) (hk : (qs.getD 0 default).kind = 1) {n : Int} (hn : n = szD (qs.getD 0 default) - qu) :
    JD ⟨w.out, w.add ++ (tkE qs qu n).elems, w.cut⟩ ps pu (tkL qs qu n) (tkN qs qu n) T G := by
  have hl := h.gq.lt h0
  obtain ⟨g, e⟩ := tkD_ok (n := n) h.gq h0 (by omega) (by omega)
  rw [exS_A hk] at e
  have hd := h.di
  have he := h.eq
  rw [e, jd_A _ (noCD h.gp hp)] at hd
  rw [e, oldN_app, (lens_As _).1] at he
  exact ⟨h.gp, g, h.dp, dn_tk h.dq, by omega, hd.elems⟩
theorem tkE_len {l : List DStep} {u n : Int} (k : (l.getD 0 default).kind = 1) (hu : 0 ≤ u) (hn : 0 ≤ n) (hl : u + n ≤ szD (l.getD 0 default)) : (tkE l u n).elems.length = n.toNat := by
  unfold tkE
  rw [if_pos k]
  simp only [List.length_drop, List.length_take]
  have : szD (l.getD 0 default) = (l.getD 0 default).elems.length := by unfold szD; rw [if_pos k]
  omega
theorem JD.both (h : JD w ps pu qs qu T G) (a : 0 < ps.length) (b : 0 < qs.length) (kp : (ps.getD 0 default).kind ≠ 2) (kq : (qs.getD 0 default).kind ≠ 1) {n : Int} (hn : n = min (szD (ps.getD 0 default) - pu) (szD (qs.getD 0 default) - qu)) :
    (((ps.getD 0 default).kind = 0 ∧ (qs.getD 0 default).kind = 0 → JD ⟨keepD (flushD w) n (fm botG (ps.getD 0 default).attrs (qs.getD 0 default).attrs), [], 0⟩ (tkL ps pu n) (tkN ps pu n) (tkL qs qu n) (tkN qs qu n) T G) ∧
    ((ps.getD 0 default).kind = 0 ∧ (qs.getD 0 default).kind = 2 → JD ⟨w.out, w.add, w.cut + n⟩ (tkL ps pu n) (tkN ps pu n) (tkL qs qu n) (tkN qs qu n) T G) ∧
    ((ps.getD 0 default).kind = 1 ∧ (qs.getD 0 default).kind = 0 → JD ⟨w.out, w.add ++ (tkE ps pu n).elems.map (chgE (qs.getD 0 default).attrs), w.cut⟩ (tkL ps pu n) (tkN ps pu n) (tkL qs qu n) (tkN qs qu n) T G) ∧
    ((ps.getD 0 default).kind = 1 ∧ (qs.getD 0 default).kind = 2 → JD w (tkL ps pu n) (tkN ps pu n) (tkL qs qu n) (tkN qs qu n) T G)) ∧
    jmD (tkL ps pu n) (tkN ps pu n) (tkL qs qu n) (tkN qs qu n) < jmD ps pu qs qu := by
  have l1 := h.gp.lt a
  have l2 := h.gq.lt b
  have p1 := h.gp.pos
  have p2 := h.gq.pos
  obtain ⟨g1, e1⟩ := tkD_ok (n := n) h.gp a (by omega) (by omega)
  obtain ⟨g2, e2⟩ := tkD_ok (n := n) h.gq b (by omega) (by omega)
  have hd := h.di
  have he := h.eq
  have k1 := (stepD_sz (step_iff.2 (h.gp.ok _ (getD_mem' a)))).1
  have k2 := (stepD_sz (step_iff.2 (h.gq.ok _ (getD_mem' b)))).1
  refine ⟨⟨fun k => ?_, fun k => ?_, fun k => ?_, fun k => ?_⟩, ?_⟩
  · rw [e1, e2, exS_K k.1, exS_K k.2] at hd he
    rw [jd_KK, show n.toNat = (n.toNat - 1) + 1 by omega] at hd
    rw [newN_app, oldN_app, (lens_Ks _ _).1, (lens_Ks _ _).2] at he
    have hd2 := hd.keep
    rw [show (((n.toNat - 1 + 1 : Nat)) : Int) = n by omega] at hd2
    exact ⟨g1, g2, dn_tk h.dp, dn_tk h.dq, by omega, hd2⟩
  · rw [e1, e2, exS_K k.1, exS_C k.2] at hd he
    rw [jd_KC] at hd
    rw [newN_app, oldN_app, (lens_Cs _).1, (lens_Ks _ _).2] at he
    have hd2 := hd.cuts
    rw [show ((n.toNat : Nat) : Int) = n by omega] at hd2
    exact ⟨g1, g2, dn_tk h.dp, dn_tk h.dq, by omega, hd2⟩
  · have hz := tkE_len (n := n) k.1 p1 (by omega) (by omega)
    rw [e1, e2, exS_A k.1, exS_K k.2] at hd he
    rw [newN_app, oldN_app, (lens_Ks _ _).1, (lens_As _).2] at he
    rw [← hz, jd_AK] at hd
    exact ⟨g1, g2, dn_tk h.dp, dn_tk h.dq, by omega, hd.elems⟩
  · have hz := tkE_len (n := n) k.1 p1 (by omega) (by omega)
    rw [e1, e2, exS_A k.1, exS_C k.2] at hd he
    rw [newN_app, oldN_app, (lens_Cs _).1, (lens_As _).2] at he
    rw [← hz, jd_AC] at hd
    exact ⟨g1, g2, dn_tk h.dp, dn_tk h.dq, by omega, hd⟩
  · have hs := exS_sz (h.gp.ok _ (getD_mem' a))
    have hl := congrArg List.length (tkE_split (n := n) (h.gp.ok _ (getD_mem' a)) p1 (by omega) (by omega))
    simp only [List.length_append, List.length_drop] at hl
    unfold jmD
    rw [e1, e2, List.length_append, List.length_append]
    omega
end
end Go.Ch
end
section
set_option linter.unusedVariables false
set_option linter.unusedSimpArgs false
namespace Go.Ch
open Go Go.Ab

theorem joinDU_units (p q : List DU) (hp : KOk p) (hq : KOk q) : ∀ u ∈ joinDU p q, UnitOk u := by
  have okA : ∀ e : Elem, elemE e = 0 ∧ e.attrs.length ≤ 100000000000 → UnitOk (.A e) := fun e h => ⟨h.1, by omega⟩
  have okK : ∀ c : List Attr, VG true c ∧ c.length ≤ 100000000000 → UnitOk (.K c) := fun e h => ⟨h.1, by omega⟩
  have okU : ∀ us : List DU, KOk us → ∀ u ∈ us, UnitOk u := fun us h u hu => by
    cases u with
    | K c => exact okK c (h.1 c hu)
    | A e => exact okA e (h.2 e hu)
    | C => trivial
  induction p, q using joinDU.induct with
  | case1 q p ih =>
    rw [joinDU]
    intro u hu
    rcases List.mem_cons.1 hu with rfl | hu
    · trivial
    · exact ih hp.tail hq u hu
  | case2 p e q hne ih =>
    rw [joinDU]
    rotate_left
    · exact hne
    intro u hu
    rcases List.mem_cons.1 hu with rfl | hu
    · exact okA _ (hq.2 e (by simp))
    · exact ih hp hq.tail u hu
  | case3 c p d q ih =>
    rw [joinDU]
    intro u hu
    rcases List.mem_cons.1 hu with rfl | hu
    · have h1 := hp.1 c (by simp)
      have h2 := hq.1 d (by simp)
      have := fm_len' botG c d
      exact ⟨bot_V np_mt h1.1 h2.1, by omega⟩
    · exact ih hp.tail hq.tail u hu
  | case4 c p q ih =>
    rw [joinDU]
    intro u hu
    rcases List.mem_cons.1 hu with rfl | hu
    · trivial
    · exact ih hp.tail hq.tail u hu
  | case5 e p d q ih =>
    rw [joinDU]
    intro u hu
    rcases List.mem_cons.1 hu with rfl | hu
    · have h1 := hp.2 e (by simp)
      have h2 := hq.1 d (by simp)
      have := fm_len' rawG e.attrs d
      refine ⟨chgE_ok h1.1 h2.1, ?_⟩
      show (fm rawG e.attrs d).length ≤ _
      omega
    · exact ih hp.tail hq.tail u hu
  | case6 e p q ih =>
    rw [joinDU]
    exact ih hp.tail hq.tail
  | case7 p hne =>
    rw [show joinDU p [] = p by unfold joinDU; split <;> simp_all]
    exact okU _ hp
  | case8 q h1 h2 =>
    rw [show joinDU [] q = [] by unfold joinDU; split <;> simp_all]
    intro u hu; cases hu
def joinD (a b : List DStep) : List DStep := doneD (joinDU (exD a) (exD b))
theorem goodRD0 {l : List DStep} (h : DValid l) : GoodRD l 0 := ⟨h.1.all, Int.le_refl _, fun h0 => by have := stepD_sz (step_iff.2 (h.1.all _ (getD_mem' h0))); omega, fun _ => rfl⟩
theorem lens_V {l : List DStep} (h : DValid l) : (oldN (exD l) : Int) = oldD l ∧ (newN (exD l) : Int) = newD l := lens_D (fun s hs => okW (h.1.all s hs))
theorem join_start {a b : List DStep} (va : DValid a) (vb : DValid b) (da : DN 100000000000 a) (db : DN 100000000000 b) (hm : newD a = oldD b) :
    (∀ u ∈ joinDU (exD a) (exD b), UnitOk u) ∧ (oldN (joinDU (exD a) (exD b)) : Int) = oldD a ∧ (newN (joinDU (exD a) (exD b)) : Int) = newD b ∧
    JD ⟨[], [], 0⟩ a 0 b 0 (joinDU (exD a) (exD b)).length (foldD ⟨[], [], 0⟩ (joinDU (exD a) (exD b))) ∧ DValid (joinD a b) ∧ DSw (exD (joinD a b)) (joinDU (exD a) (exD b)) ∧
    oldD (joinD a b) = oldD a ∧ newD (joinD a b) = newD b := by
  have hu := joinDU_units _ _ (exD_K va.1.all da) (exD_K vb.1.all db)
  have la := lens_V va
  have lb := lens_V vb
  have hl := joinDU_lens _ (exD a) (exD b) (Nat.le_refl _) (by omega)
  have hs := len_sum (joinDU (exD a) (exD b))
  have a1 := va.2.1
  have b1 := vb.2.2
  obtain ⟨d1, d2, d3, d4⟩ := doneD_ok hu (by omega) (by omega)
  exact ⟨hu, by omega, by omega, ⟨goodRD0 va, goodRD0 vb, da, db, by rw [ruD0, ruD0]; omega, by rw [ruD0, ruD0]; exact DI.start hu (by omega)⟩, d1, d2, by unfold joinD; omega, by unfold joinD; omega⟩
theorem rd_one {l : List DStep} {u : Int} (h : GoodRD l u) (h0 : 0 < l.length) : ((l.getD 0 default).kind ≠ 1 → 1 ≤ oldN (ruD l u)) ∧ ((l.getD 0 default).kind ≠ 2 → 1 ≤ newN (ruD l u)) := by
  have hl := h.lt h0
  have hp := h.pos
  obtain ⟨g, e⟩ := tkD_ok (n := 1) h h0 (by decide) (by omega)
  have hs := (stepD_sz (step_iff.2 (h.ok _ (getD_mem' h0)))).1
  rcases hs with k | k | k
  · rw [e, exS_K k, oldN_app, newN_app, (lens_Ks _ _).1, (lens_Ks _ _).2]; constructor <;> intro _ <;> omega
  · have hz := tkE_len (n := 1) k hp (by omega) (by omega)
    rw [e, exS_A k, oldN_app, newN_app, (lens_As _).1, (lens_As _).2, hz]; constructor <;> intro _ <;> omega
  · rw [e, exS_C k, oldN_app, newN_app, (lens_Cs _).1, (lens_Cs _).2]; constructor <;> intro _ <;> omega
variable {w : DWr} {ps qs : List DStep} {pu qu : Int} {T : Nat} {G : DWr}
theorem JD.two (h : JD w ps pu qs qu T G) (h0 : 0 < ps.length ∨ 0 < qs.length) (hp : 0 < ps.length → (ps.getD 0 default).kind ≠ 2) (hq : 0 < qs.length → (qs.getD 0 default).kind ≠ 1) : 0 < ps.length ∧ 0 < qs.length := by
  have he := h.eq
  rcases Nat.eq_zero_or_pos ps.length with a | a
  · rcases Nat.eq_zero_or_pos qs.length with b | b
    · omega
    · have := (rd_one h.gq b).1 (hq b)
      rw [ruD_nil a] at he
      simp only [newN] at he
      omega
  · rcases Nat.eq_zero_or_pos qs.length with b | b
    · have := (rd_one h.gp a).2 (hp a)
      rw [ruD_nil b] at he
      simp only [oldN] at he
      omega
    · exact ⟨a, b⟩
theorem JD.done (h : JD w ps pu qs qu T G) (a : ps.length = 0) (b : qs.length = 0) : w = G := by
  have := h.di
  rw [ruD_nil a, ruD_nil b] at this
  exact DI.done (by simpa [joinDU] using this)
theorem JD.add2 (h : JD w ps pu qs qu T G) (hp : 0 < ps.length → (ps.getD 0 default).kind ≠ 2) (h0 : 0 < qs.length) (hk : (qs.getD 0 default).kind = 1) {n : Int} (hn : n = szD (qs.getD 0 default) - qu) :
    jmD ps pu (tkL qs qu n) (tkN qs qu n) < jmD ps pu qs qu := by
  have hl := h.gq.lt h0
  obtain ⟨g, e⟩ := tkD_ok (n := n) h.gq h0 (by omega) (by omega)
  have hz := tkE_len (n := n) hk h.gq.pos (by omega) (by omega)
  rw [exS_A hk] at e
  unfold jmD
  rw [e, List.length_append, List.length_map, hz]
  omega
theorem kindD_cases {l : List DStep} {u : Int} (h : GoodRD l u) : (kindD l = -1 ∧ l.length = 0) ∨ (kindD l = (l.getD 0 default).kind ∧ 0 < l.length ∧ (kindD l = 0 ∨ kindD l = 1 ∨ kindD l = 2)) := by
  unfold kindD
  split
  · rename_i h0; exact .inl ⟨rfl, h0⟩
  · rename_i h0
    have h0' : 0 < l.length := by omega
    have hs := (stepD_sz (step_iff.2 (h.ok _ (getD_mem' h0')))).1
    exact .inr ⟨rfl, by omega, hs⟩
theorem k01 {l : List DStep} {u : Int} (h : GoodRD l u) (h0 : 0 < l.length) (k : (l.getD 0 default).kind ≠ 2) : (l.getD 0 default).kind = 0 ∨ (l.getD 0 default).kind = 1 := by
  have := (stepD_sz (step_iff.2 (h.ok _ (getD_mem' h0)))).1
  omega
theorem k02 {l : List DStep} {u : Int} (h : GoodRD l u) (h0 : 0 < l.length) (k : (l.getD 0 default).kind ≠ 1) : (l.getD 0 default).kind = 0 ∨ (l.getD 0 default).kind = 2 := by
  have := (stepD_sz (step_iff.2 (h.ok _ (getD_mem' h0)))).1
  omega
theorem szD_bd {l : List DStep} {u : Int} (h : GoodRD l u) (hd : DN 100000000000 l) (h0 : 0 < l.length) : 0 ≤ u ∧ u < szD (l.getD 0 default) ∧ szD (l.getD 0 default) ≤ 100000000000 ∧
    (l.getD 0 default).attrs.length ≤ 100000000000 ∧ (l.getD 0 default).elems.length ≤ 100000000000 ∧ AN 100000000000 (l.getD 0 default).elems := by
  have hs := stepD_sz (step_iff.2 (h.ok _ (getD_mem' h0)))
  obtain ⟨b1, b2, b3⟩ := hd _ (getD_mem' h0)
  have hl := h.lt h0
  exact ⟨h.pos, hl, by omega, b2, b1, b3⟩
theorem szD_k {l : List DStep} {u : Int} (h : GoodRD l u) (h0 : 0 < l.length) (k : (l.getD 0 default).kind ≠ 1) : szD (l.getD 0 default) ≤ 2147483647 := by
  have hs := stepD_sz (step_iff.2 (h.ok _ (getD_mem' h0)))
  have : szD (l.getD 0 default) = (l.getD 0 default).n := by unfold szD; rw [if_neg k]
  omega
theorem tkE_kind (l : List DStep) (u n : Int) : (tkE l u n).kind = (l.getD 0 default).kind := by unfold tkE; split <;> rfl
theorem tkE_attrs (l : List DStep) (u n : Int) : (tkE l u n).attrs = (l.getD 0 default).attrs := by unfold tkE; split <;> rfl
theorem tkE_n {l : List DStep} {u n : Int} (h : (l.getD 0 default).kind ≠ 1) : (tkE l u n).n = n := by unfold tkE; rw [if_neg h]
theorem tkE_an {l : List DStep} {u n : Int} {m : Nat} (h : AN m (l.getD 0 default).elems) : AN m (tkE l u n).elems := by
  unfold tkE
  split
  · exact fun x hx => h x (List.mem_of_mem_take (List.mem_of_mem_drop hx))
  · exact h
theorem an_up {m k : Nat} {l : List Elem} (h : AN m l) (hm : m ≤ k) : AN k l := fun x hx => Nat.le_trans (h x hx) hm
theorem an_chg {m k : Nat} {l : List Elem} {c : List Attr} (h : AN m l) (hm : m + c.length ≤ k) : AN k (l.map (chgE c)) := fun x hx => by
  obtain ⟨y, hy, rfl⟩ := List.mem_map.1 hx
  have h1 := h y hy
  have := fm_len' rawG y.attrs c
  show (fm rawG y.attrs c).length ≤ k
  omega
theorem join_law {f : List Elem} {a b : List DStep} (hp : partE f 0 = 0) (ha : AN 100000000000 f) (va : DValid a) (vb : DValid b) (da : DN 100000000000 a) (db : DN 100000000000 b) (hl : oldD a = f.length) (hb : oldD b = newD a) :
    AN 400000000000 f ∧ DN 400000000000 a ∧ DN 400000000000 b ∧ ((rawD f a).length : Int) = newD a ∧ partE (rawD f a) 0 = 0 ∧ AN 400000000000 (rawD f a) ∧ DValid (joinD a b) ∧ DN 400000000000 (joinD a b) ∧ oldD (joinD a b) = f.length ∧
    sameF (rawD f (joinD a b)) (rawD (rawD f a) b) = true := by
  have hf := eok_of hp ha
  have ka := exD_K va.1.all da
  have kb := exD_K vb.1.all db
  obtain ⟨u1, u2, u3, u4, u5, u6, u7, u8⟩ := join_start va vb da db (by omega)
  have la := lens_V va
  have lb := lens_V vb
  have o1 : oldN (exD a) = f.length := by omega
  have hal := applyU_len _ _ o1
  have hs := len_sum (joinDU (exD a) (exD b))
  have hao := applyU_ok _ _ ka hf
  have a1 := va.2.1
  have b1 := vb.2.2
  refine ⟨hf.an, da.mono (by decide), db.mono (by decide), ?_, part_iff.2 (fun x hx => (hao x hx).1), fun x hx => by have := (hao x hx).2; omega, u5, doneD_dn u1 (by omega), by omega, ?_⟩
  · show ((applyU (exD a) f).length : Int) = _; omega
  · have : rawD f (joinD a b) = rawD (rawD f a) b := by
      show applyU (exD (joinD a b)) f = applyU (exD b) (applyU (exD a) f)
      rw [sw_applyU u6]
      exact joinDU_acts _ _ _ _ (Nat.le_refl _) o1 (by omega) (okU_of ka) (okU_of kb) (fun x hx => elem_ok (hf x hx).1)
    rw [this]; exact sameF_self _
end Go.Ch
end
section
set_option linter.unusedVariables false
set_option linter.unusedSimpArgs false
set_option maxRecDepth 100000
set_option maxHeartbeats 4000000
open Go Go.Proofs Go.Ab
namespace Go.Ch
theorem fc_dTake2 (l : List DStep) (u n : Int) (s : DStep) (hs : tkE l u n = s) (h0 : 0 < l.length) (hu : 0 ≤ u ∧ 0 ≤ n ∧ u + n ≤ szD (l.getD 0 default) ∧ u + n ≤ 9223372036854775807) :
    FC Try.prog 112 [.ptr 0 0, VI n] (app emp [(0, .box [VL 4 dstepT l, VI u])]) (.t (dstepT s)) (app emp [(0, .box [VL 4 dstepT (tkL l u n), VI (tkN l u n)]), (1, .box [VI s.kind, VI s.n, VL 2 attrT s.attrs, VL 3 elemT s.elems])]) := hs ▸ fc_dTake l u n h0 hu

theorem fc_dJoin (a b : List DStep) (va : DValid a) (vb : DValid b) (da : DN 100000000000 a) (db : DN 100000000000 b) (hm : newD a = oldD b) : FC Try.prog 56 [VL 4 dstepT a, VL 4 dstepT b] (app emp []) (.tup [VL 4 dstepT (joinD a b), VI 0]) (app emp []) := by
 refine .go Try.f56 ?_
 refine .len 0 (fun hl0 => ?_)
 refine .len 1 (fun hl1 => ?_)
 have ca := checkD_iff.2 va
 have cb := checkD_iff.2 vb
 have da4 := da.mono (n := 400000000000) (by decide)
 have db4 := db.mono (n := 400000000000) (by decide)
 obtain ⟨_, _, _, st, vj, _⟩ := join_start va vb da db hm
 have cj := checkD_iff.2 vj
 refine .br [.r [], .r [(1, X (Xc0 (fc_dCheck a (by assumption)) X0))], .r []] ((checkD a) != 0) (fun h2 => ?_) (fun h2 => ?_)
 ·
  (try simp only [bne_iff_ne, bne_eq_false_iff_eq, ne_eq] at h2)
  exfalso
  omega
 ·
  (try simp only [bne_iff_ne, bne_eq_false_iff_eq, ne_eq] at h2)
  refine .br [.r [(1, X (Xc0 (fc_dCheck b (by assumption)) X0))], .r []] ((checkD b) != 0) (fun h5 => ?_) (fun h5 => ?_)
  ·
   (try simp only [bne_iff_ne, bne_eq_false_iff_eq, ne_eq] at h5)
   exfalso
   omega
  ·
   (try simp only [bne_iff_ne, bne_eq_false_iff_eq, ne_eq] at h5)
   refine .br [.r [(1, X (Xc0 (fc_dLens a (by assumption)) X0))], .r [(1, X (Xc0 (fc_dLens b (by assumption)) X0))], .r []] ((oldD b) != (newD a)) (fun h9 => ?_) (fun h9 => ?_)
   ·
    (try simp only [bne_iff_ne, bne_eq_false_iff_eq, ne_eq] at h9)
    exfalso
    omega
   ·
    (try simp only [bne_iff_ne, bne_eq_false_iff_eq, ne_eq] at h9)
    refine .loop (α := Int × (List DStep) × (List Elem) × (List DStep) × Int × (List DStep) × Int) [.r [], .le (.nB 232 0 4), .le (.nB 232 1 3), .r []] 306 (fun (y, o, x, ps, pu, qs, qu) => ([(12, .ptr 232 0), (13, .ptr 258 0), (14, .ptr 282 0)], [(232, .box [.row 240 o.length, .row 241 x.length, VI y]), (240, OR 4 dstepT o), (241, OR 3 elemT x), (258, .box [VL 4 dstepT ps, VI pu]), (282, .box [VL 4 dstepT qs, VI qu])])) (fun (y, o, x, ps, pu, qs, qu) => JD ⟨o, x, y⟩ ps pu qs qu (joinDU (exD a) (exD b)).length (foldD ⟨[], [], 0⟩ (joinDU (exD a) (exD b)))) (fun (y, o, x, ps, pu, qs, qu) => jmD ps pu qs qu) (0, [], [], a, 0, b, 0) ?_ ?_
    ·
     exact st
    rintro ⟨y, o, x, ps, pu, qs, qu⟩ I13 ih13
    try dsimp only at I13
    have kp := kindD_cases I13.gp
    have kq := kindD_cases I13.gq
    have hb := I13.di.bd
    simp only at hb
    have hf := I13.di.fl.1
    refine .br [.r [(1, X (Xc4 [(0, 258)] (fc_dKind ps pu) X0)), (5, Xv 1 (!(decide ((kindD ps) ≥ 0))) (Xc4 [(0, 282)] (fc_dKind qs qu) X0)), (6, Xv 1 (!(decide ((kindD ps) ≥ 0))) X0), (7, X (Xk' (decide ((kindD ps) ≥ 0))))]] (decide ((kindD ps) ≥ 0) || decide ((kindD qs) ≥ 0)) (fun h13 => ?_) (fun h13 => ?_)
    ·
     (try simp only [decide_eq_true_eq, decide_eq_false_iff_not, Int.not_lt, Int.not_le, ge_iff_le, Bool.or_eq_true, Bool.or_eq_false_iff] at h13)
     refine .br [.r [(1, X (Xc4 [(0, 258)] (fc_dKind ps pu) X0))]] ((kindD ps) == 2) (fun h14 => ?_) (fun h14 => ?_)
     ·
      (try simp only [beq_iff_eq, beq_eq_false_iff_ne, ne_eq] at h14)
      have lp0 : 0 < ps.length := by omega
      have k1 : (ps.getD 0 default).kind = 2 := by omega
      clear kp kq
      have sp := szD_bd I13.gp I13.dp lp0
      obtain ⟨s, hs⟩ : ∃ z, tkE ps pu (szD (ps.getD 0 default) - pu) = z := ⟨_, rfl⟩
      have hn : s.n = szD (ps.getD 0 default) - pu := by rw [← hs]; exact tkE_n (by omega)
      have hC := JD.cut I13 lp0 k1 rfl
      refine .back [.r [(4, X (Xc4 [(0, 258)] (fc_dLeft ps pu (by omega) (by omega)) X0)), (5, X (Xc3 442 [(0, 258)] (fc_dTake2 ps pu (szD (ps.getD 0 default) - pu) s hs (by omega) (by omega)) X0)), (7, X (Xn (y + s.n)))]] [(232, 232), (240, 240), (241, 241), (258, 258), (282, 282)] (ih13 ((y + s.n), o, x, (tkL ps pu (szD (ps.getD 0 default) - pu)), (tkN ps pu (szD (ps.getD 0 default) - pu)), qs, qu) ?_ ?_)
      ·
       rw [hn]; exact hC.1
      ·
       exact hC.2
     ·
      (try simp only [beq_iff_eq, beq_eq_false_iff_ne, ne_eq] at h14)
      refine .br [.r [(1, X (Xc4 [(0, 282)] (fc_dKind qs qu) X0))]] ((kindD qs) == 1) (fun h16 => ?_) (fun h16 => ?_)
      ·
       (try simp only [beq_iff_eq, beq_eq_false_iff_ne, ne_eq] at h16)
       have lq0 : 0 < qs.length := by omega
       have k2 : (qs.getD 0 default).kind = 1 := by omega
       have k1 : 0 < ps.length → (ps.getD 0 default).kind ≠ 2 := fun h => by omega
       clear kp kq
       have sq := szD_bd I13.gq I13.dq lq0
       obtain ⟨s, hs⟩ : ∃ z, tkE qs qu (szD (qs.getD 0 default) - qu) = z := ⟨_, rfl⟩
       have hA := JD.add I13 k1 lq0 k2 rfl
       have hA2 := JD.add2 I13 k1 lq0 k2 rfl
       have hAn := an_up (tkE_an (u := qu) (n := szD (qs.getD 0 default) - qu) sq.2.2.2.2.2) (k := 400000000000) (by decide)
       rw [hs] at hA hAn
       have hAb := hA.di.bd
       simp only [List.length_append] at hAb
       refine .back [.r [(2, X (Xc4 [(0, 282)] (fc_dLeft qs qu (by omega) (by omega)) X0)), (3, X (Xc3 458 [(0, 282)] (fc_dTake2 qs qu (szD (qs.getD 0 default) - qu) s hs (by omega) (by omega)) X0)), (5, X (Xc3 474 [(0, 232), (1, 240), (2, 241)] (fc_dElems o x y s.elems (by assumption) (by omega)) X0))]] [(232, 232), (240, 240), (241, 241), (258, 258), (282, 282)] (ih13 (y, o, (x ++ s.elems), ps, pu, (tkL qs qu (szD (qs.getD 0 default) - qu)), (tkN qs qu (szD (qs.getD 0 default) - qu))) ?_ ?_)
       ·
        exact hA
       ·
        exact hA2
      ·
       (try simp only [beq_iff_eq, beq_eq_false_iff_ne, ne_eq] at h16)
       obtain ⟨lp0, lq0⟩ := JD.two I13 (by omega) (fun h => by omega) (fun h => by omega)
       have k1 : (ps.getD 0 default).kind ≠ 2 := by omega
       have k3 : (qs.getD 0 default).kind ≠ 1 := by omega
       have sk := fun _ : Unit => k01 I13.gp lp0 k1
       have tk := fun _ : Unit => k02 I13.gq lq0 k3
       have hB1 := fun n => JD.both (n := n) I13 lp0 lq0 k1 k3
       clear kp kq h13 h14 h16 k1 k3
       have sp := szD_bd I13.gp I13.dp lp0
       have sq := szD_bd I13.gq I13.dq lq0
       obtain ⟨m, hmm⟩ : ∃ z, min (szD (ps.getD 0 default) - pu) (szD (qs.getD 0 default) - qu) = z := ⟨_, rfl⟩
       have hB := hB1 m hmm.symm
       have m1 : 1 ≤ m ∧ m ≤ szD (ps.getD 0 default) - pu ∧ m ≤ szD (qs.getD 0 default) - qu ∧ m ≤ 100000000000 := by omega
       have m2 : pu + m ≤ szD (ps.getD 0 default) ∧ qu + m ≤ szD (qs.getD 0 default) := by omega
       obtain ⟨s, hs⟩ : ∃ z, tkE ps pu m = z := ⟨_, rfl⟩
       obtain ⟨t, ht⟩ : ∃ z, tkE qs qu m = z := ⟨_, rfl⟩
       have ek1 := tkE_kind ps pu m
       have ek2 := tkE_kind qs qu m
       have ea1 := tkE_attrs ps pu m
       have ea2 := tkE_attrs qs qu m
       have hE0 := tkE_an (u := pu) (n := m) sp.2.2.2.2.2
       rw [hs] at ek1 ea1 hE0
       rw [ht] at ek2 ea2
       have al : s.attrs.length ≤ 100000000000 ∧ t.attrs.length ≤ 100000000000 := by rw [ea1, ea2]; omega
       rw [hs, ← ea1, ← ea2, ← ek1, ← ek2] at hB
       rw [← ek1] at sk
       rw [← ek2] at tk
       clear hB1
       refine .br [.r [(1, X (Xc4 [(0, 258)] (fc_dLeft ps pu (by omega) (by omega)) X0)), (3, X (Xc4 [(0, 282)] (fc_dLeft qs qu (by omega) (by omega)) X0)), (4, X (Xmin (szD (ps.getD 0 default) - pu) (szD (qs.getD 0 default) - qu)))], .le (.eq 15 (VI (min (szD (ps.getD 0 default) - pu) (szD (qs.getD 0 default) - qu))) (VI m) (.of_eq (by rw [hmm]))), .r [(2, X (Xc3 498 [(0, 258)] (fc_dTake2 ps pu m s hs (by omega) (by omega)) X0)), (5, X (Xc3 522 [(0, 282)] (fc_dTake2 qs qu m t ht (by omega) (by omega)) X0))], .r [(5, Xv 1 (s.kind == 0) X0), (6, Xv 1 (s.kind == 0) X0), (7, X (Xk (s.kind == 0)))]] ((s.kind == 0) && (t.kind == 0)) (fun h20 => ?_) (fun h20 => ?_)
       ·
        (try simp only [Bool.and_eq_true, Bool.and_eq_false_iff, Bool.not_eq_true', Bool.not_eq_false', beq_iff_eq, beq_eq_false_iff_ne, ne_eq] at h20)
        have fl := fm_len' botG s.attrs t.attrs
        have mk := szD_k I13.gp lp0 (by rw [← ek1, h20.1]; decide)
        refine .back [.r [(5, X (Xc1 674 (fc_bothA s.attrs t.attrs (by omega)) X0)), (6, X (Xc3 682 [(0, 232), (1, 240), (2, 241)] (fc_dKeep o x y m (fm botG s.attrs t.attrs) (by omega) (by omega) (by omega) (by assumption)) X0))]] [(232, 232), (240, 240), (682, 241), (258, 258), (282, 282)] (ih13 (0, (keepD (flushD ⟨o, x, y⟩) m (fm botG s.attrs t.attrs)), [], (tkL ps pu m), (tkN ps pu m), (tkL qs qu m), (tkN qs qu m)) ?_ ?_)
        ·
         exact hB.1.1 h20
        ·
         exact hB.2
       ·
        (try simp only [Bool.and_eq_true, Bool.and_eq_false_iff, Bool.not_eq_true', Bool.not_eq_false', beq_iff_eq, beq_eq_false_iff_ne, ne_eq] at h20)
        refine .br [.r []] (s.kind == 0) (fun h22 => ?_) (fun h22 => ?_)
        ·
         (try simp only [beq_iff_eq, beq_eq_false_iff_ne, ne_eq] at h22)
         refine .back [.r [(3, X (Xn (y + m)))]] [(232, 232), (240, 240), (241, 241), (258, 258), (282, 282)] (ih13 ((y + m), o, x, (tkL ps pu m), (tkN ps pu m), (tkL qs qu m), (tkN qs qu m)) ?_ ?_)
         ·
          exact hB.1.2.1 ⟨h22, (tk ()).resolve_left (h20.resolve_left (fun h => h h22))⟩
         ·
          exact hB.2
        ·
         (try simp only [beq_iff_eq, beq_eq_false_iff_ne, ne_eq] at h22)
         refine .br [.r []] (t.kind == 0) (fun h24 => ?_) (fun h24 => ?_)
         ·
          (try simp only [beq_iff_eq, beq_eq_false_iff_ne, ne_eq] at h24)
          refine .at 698 [(232, 232), (240, 240), (241, 241), (258, 258), (282, 282), (530, 530), (538, 538)] ([(12, .ptr 232 0), (13, .ptr 258 0), (14, .ptr 282 0), (16, .ptr 530 0), (17, .ptr 538 0), (114, VB (t.kind == 0))], [(232, .box [.row 240 o.length, .row 241 x.length, VI y]), (240, OR 4 dstepT o), (241, OR 3 elemT x), (258, .box [VL 4 dstepT (tkL ps pu m), VI (tkN ps pu m)]), (282, .box [VL 4 dstepT (tkL qs qu m), VI (tkN qs qu m)]), (530, .box [VI s.kind, VI s.n, VL 2 attrT s.attrs, VL 3 elemT s.elems]), (538, .box [VI t.kind, VI t.n, VL 2 attrT t.attrs, VL 3 elemT t.elems])]) ?_
          have hE1 : ∀ x ∈ s.elems, x.attrs.length + t.attrs.length < 1099511627776 := fun x hx => by have := hE0 x hx; omega
          have hE2 := an_chg hE0 (c := t.attrs) (k := 400000000000) (by omega)
          have hE4 : (List.map (chgE t.attrs) s.elems).length = s.elems.length := List.length_map _
          have s1 := (sk ()).resolve_left h22
          have hE3 : s.elems.length = m.toNat := by rw [← hs]; exact tkE_len (by rw [← ek1]; exact s1) sp.1 (by omega) m2.1
          have hA := hB.1.2.2.1 ⟨s1, h24⟩
          have hAb := hA.di.bd
          simp only [List.length_append, List.length_map] at hAb
          clear h20 h22
          refine .back [.r [(4, X (Xc1 730 (fc_changed s.elems t.attrs (by omega) (by assumption)) X0)), (5, X (Xc3 738 [(0, 232), (1, 240), (2, 241)] (fc_dElems o x y (List.map (chgE t.attrs) s.elems) (by assumption) (by omega)) X0))]] [(232, 232), (240, 240), (241, 241), (258, 258), (282, 282)] (ih13 (y, o, (x ++ (List.map (chgE t.attrs) s.elems)), (tkL ps pu m), (tkN ps pu m), (tkL qs qu m), (tkN qs qu m)) ?_ ?_)
          ·
           exact hA
          ·
           exact hB.2
         ·
          (try simp only [beq_iff_eq, beq_eq_false_iff_ne, ne_eq] at h24)
          refine .at 698 [(232, 232), (240, 240), (241, 241), (258, 258), (282, 282), (530, 530), (538, 538)] ([(12, .ptr 232 0), (13, .ptr 258 0), (14, .ptr 282 0), (16, .ptr 530 0), (17, .ptr 538 0), (114, VB (t.kind == 0))], [(232, .box [.row 240 o.length, .row 241 x.length, VI y]), (240, OR 4 dstepT o), (241, OR 3 elemT x), (258, .box [VL 4 dstepT (tkL ps pu m), VI (tkN ps pu m)]), (282, .box [VL 4 dstepT (tkL qs qu m), VI (tkN qs qu m)]), (530, .box [VI s.kind, VI s.n, VL 2 attrT s.attrs, VL 3 elemT s.elems]), (538, .box [VI t.kind, VI t.n, VL 2 attrT t.attrs, VL 3 elemT t.elems])]) ?_
          refine .back [] [(232, 232), (240, 240), (241, 241), (258, 258), (282, 282)] (ih13 (y, o, x, (tkL ps pu m), (tkN ps pu m), (tkL qs qu m), (tkN qs qu m)) ?_ ?_)
          ·
           exact hB.1.2.2.2 ⟨(sk ()).resolve_left h22, (tk ()).resolve_left h24⟩
          ·
           exact hB.2
    ·
     (try simp only [decide_eq_true_eq, decide_eq_false_iff_not, Int.not_lt, Int.not_le, ge_iff_le, Bool.or_eq_true, Bool.or_eq_false_iff] at h13)
     have hG := JD.done I13 (by omega) (by omega)
     have hfx : flushD ⟨o, x, y⟩ = joinD a b := by rw [hG]; rfl
     have hcd : checkD (flushD ⟨o, x, y⟩) = 0 := by rw [hfx]; exact cj
     have hfl2 := I13.di.fl.2
     have e1 : ((joinD a b) : List DStep) = (flushD ⟨o, x, y⟩) := by
      rw [hfx]
     exact .finE [.r [(0, X (Xc3 370 [(0, 232), (1, 240), (2, 241)] (fc_dDone o x y (by omega) (by assumption) (by assumption)) X0))], .le (.fr 4 [(((flushD ⟨o, x, y⟩).length) : Nat) = (List.map dstepT (flushD ⟨o, x, y⟩)).length] ⟨lm, trivial⟩)] [] (fun z0 => (.tup [VL 4 dstepT z0, VI 0], [])) ((flushD ⟨o, x, y⟩) : List DStep) ((joinD a b) : List DStep) e1
end Go.Ch
end
section
set_option linter.unusedVariables false
set_option linter.unusedSimpArgs false
set_option maxRecDepth 100000
set_option maxHeartbeats 4000000
open Go Go.Proofs Go.Ab
namespace Go.Ch
theorem fc_deltas  : FC Try.prog 46 [] (app emp []) (VB true) (app emp []) := by
 refine .go Try.f46 ?_
 obtain ⟨p1, p2, p3, p4⟩ := probe_facts
 have p5 := probe_dn
 have p6 := ltr_an { data := #[97, 98] } 400000000000
 unfold probeD at *
 have e1 : ((true && (sameF (rawD (lettersL ({ data := #[97, 98] })) [({ kind := 1, n := 0, attrs := [], elems := (lettersL ({ data := #[120] })) } : DStep), ({ kind := 2, n := 1, attrs := [], elems := [] } : DStep), ({ kind := 0, n := 1, attrs := [], elems := [] } : DStep)]) (lettersL ({ data := #[120, 98] })))) : Bool) = true := by
  rw [p4]; simp
 exact .finE [.r [], .r [(0, X (Xc1 8 (fc_letters ({ data := #[97, 98] }) (by decide)) X0)), (1, X (Xc1 16 (fc_letters ({ data := #[120] }) (by decide)) X0)), (2, X (Xf [(2, 2)])), (3, X (Xf [(2, 2), (3, 3)])), (4, X (Xf [(2, 2), (3, 3)])), (6, X (Xc1 56 (fc_dApply (lettersL ({ data := #[97, 98] })) [({ kind := 1, n := 0, attrs := [], elems := (lettersL ({ data := #[120] })) } : DStep), ({ kind := 2, n := 1, attrs := [], elems := [] } : DStep), ({ kind := 0, n := 1, attrs := [], elems := [] } : DStep)] (by assumption) (by assumption) (by assumption) (by assumption) (by omega)) (rowC dstepT [({ kind := 1, n := 0, attrs := [], elems := (lettersL ({ data := #[120] })) } : DStep), ({ kind := 2, n := 1, attrs := [], elems := [] } : DStep), ({ kind := 0, n := 1, attrs := [], elems := [] } : DStep)] X0)))], .r [(4, Xg true (Xc1 136 (fc_letters ({ data := #[120, 98] }) (by decide)) X0)), (5, Xv 2 true (Xc0 (fc_sameFlow (rawD (lettersL ({ data := #[97, 98] })) [({ kind := 1, n := 0, attrs := [], elems := (lettersL ({ data := #[120] })) } : DStep), ({ kind := 2, n := 1, attrs := [], elems := [] } : DStep), ({ kind := 0, n := 1, attrs := [], elems := [] } : DStep)]) (lettersL ({ data := #[120, 98] }))) X0)), (6, X (Xk true))]] [] (fun z0 => (VB z0, [])) ((true && (sameF (rawD (lettersL ({ data := #[97, 98] })) [({ kind := 1, n := 0, attrs := [], elems := (lettersL ({ data := #[120] })) } : DStep), ({ kind := 2, n := 1, attrs := [], elems := [] } : DStep), ({ kind := 0, n := 1, attrs := [], elems := [] } : DStep)]) (lettersL ({ data := #[120, 98] })))) : Bool) (true : Bool) e1.symm

end Go.Ch
end
section
set_option linter.unusedVariables false
set_option linter.unusedSimpArgs false
set_option maxRecDepth 100000
set_option maxHeartbeats 4000000
open Go Go.Proofs Go.Ab
namespace Go.Ch
theorem fc_lawJoin (f : List Elem) (p q : List Int) (hsz : SzE f) (ha : AN 100000000000 f) : FC Try.prog 12 [VL 3 elemT f, VL 1 intT p, VL 1 intT q] (app emp []) (VB true) (app emp []) := by
 refine .go Try.f12 ?_
 refine .len 0 (fun hl0 => ?_)
 refine .len 1 (fun hl1 => ?_)
 refine .len 2 (fun hl2 => ?_)
 have t1 := tag_one
 have t2 := tag_two
 refine .br [.r [], .r [(0, X (Xc0 fc_deltas X0))], .f, .r [(1, X (Xl elemT f))]] (decide ((f.length : Int) > 40)) (fun h3 => ?_) (fun h3 => ?_)
 ·
  (try simp only [decide_eq_true_eq, decide_eq_false_iff_not, Int.not_lt, Int.not_le, gt_iff_lt] at h3)
  have hz0 : SzE (f.take 40) := by first | exact hsz | exact fun x hx => hsz x (List.mem_of_mem_take hx)
  refine .br [.r [(1, X (Xst elemT 3 f 40))], .r [(1, X (Xc0 (fc_partError (f.take 40) (by assumption)) X0))]] ((partE (f.take 40) 0) != 0) (fun h5 => ?_) (fun h5 => ?_)
  ·
   (try simp only [bne_iff_ne, bne_eq_false_iff_eq, ne_eq] at h5)
   exact .fin [.r []] []
  ·
   (try simp only [bne_iff_ne, bne_eq_false_iff_eq, ne_eq] at h5)
   have hp1 : partE (f.take 40) 0 = 0 := by omega
   have hq2 : AN 100000000000 (f.take 40) := by first | exact ha | exact an_take ha _
   have hlen : ((f.take 40)).length ≤ 40 := by first | omega | (simp only [List.length_take]; omega)
   have hco := change_ok (raw := p) tag_one (n := Int.toNat (((f.take 40)).length : Int)) (by omega)
   obtain ⟨a, hA⟩ : ∃ z, doneD (actR (chgX p ({ data := #[111, 110, 101] }) (Int.toNat (((f.take 40)).length : Int))) 0) = z := ⟨_, rfl⟩
   rw [hA] at hco
   obtain ⟨_, _, _, _, va, oa, da, na, _⟩ := hco
   have hr := undo_final va da (eok_of hp1 hq2) (by omega)
   have hrl : ((rawD (f.take 40) a).length : Int) = newD a := hr.2.2.2.2.2.2.2.2.2.1
   have hcb := change_ok (raw := q) tag_two (n := Int.toNat ((rawD (f.take 40) a).length : Int)) (by omega)
   obtain ⟨b, hB⟩ : ∃ z, doneD (actR (chgX q ({ data := #[116, 119, 111] }) (Int.toNat ((rawD (f.take 40) a).length : Int))) 0) = z := ⟨_, rfl⟩
   rw [hB] at hcb
   obtain ⟨_, _, _, _, vb, ob, db, nb, _⟩ := hcb
   clear hr
   obtain ⟨j1, j2, j3, j4, j5, j6, j7, j8, j9, j10⟩ := join_law hp1 hq2 va vb da db (by omega) (by omega)
   have e1 : (((((true || false) || false) || false) && (sameF (rawD (f.take 40) (joinD a b)) (rawD (rawD (f.take 40) a) b))) : Bool) = true := by
    simp [j10]
   exact .finE [.r [(1, X (Xl elemT (f.take 40))), (3, X (Xc1 120 (fc_draw ((f.take 40).length : Int) p ({ data := #[111, 110, 101] }) (by assumption) (by omega)) X0))], .le (.eq 7 (VL 4 dstepT (doneD (actR (chgX p ({ data := #[111, 110, 101] }) (Int.toNat ((f.take 40).length : Int))) 0))) (VL 4 dstepT a) (.of_eq (by rw [hA]))), .r [(2, X (Xc1 152 (fc_dApply (f.take 40) a (by assumption) (by assumption) (by assumption) (by assumption) (by omega)) X0))], .r [(1, X (Xl elemT (rawD (f.take 40) a))), (3, X (Xc1 224 (fc_draw ((rawD (f.take 40) a).length : Int) q ({ data := #[116, 119, 111] }) (by assumption) (by omega)) X0))], .le (.eq 10 (VL 4 dstepT (doneD (actR (chgX q ({ data := #[116, 119, 111] }) (Int.toNat ((rawD (f.take 40) a).length : Int))) 0))) (VL 4 dstepT b) (.of_eq (by rw [hB]))), .r [(2, X (Xc1 256 (fc_dApply (rawD (f.take 40) a) b (by assumption) (by assumption) (by assumption) (by assumption) (by omega)) X0))], .r [(2, X (Xc1 320 (fc_dJoin a b (by assumption) (by assumption) (by assumption) (by assumption) (by omega)) X0))], .r [(2, X (Xc1 384 (fc_dApply (f.take 40) (joinD a b) (by assumption) (by assumption) (by assumption) (by assumption) (by omega)) X0))], .r [(4, Xv 1 true X0), (5, X (Xk true)), (8, Xv 1 (true || false) X0), (9, X (Xk (true || false))), (12, Xv 1 ((true || false) || false) X0), (13, X (Xk ((true || false) || false))), (17, Xv 2 (((true || false) || false) || false) (Xc0 (fc_sameFlow (rawD (f.take 40) (joinD a b)) (rawD (rawD (f.take 40) a) b)) X0)), (18, X (Xk (((true || false) || false) || false)))]] [] (fun z0 => (VB z0, [])) (((((true || false) || false) || false) && (sameF (rawD (f.take 40) (joinD a b)) (rawD (rawD (f.take 40) a) b))) : Bool) (true : Bool) e1.symm
 ·
  (try simp only [decide_eq_true_eq, decide_eq_false_iff_not, Int.not_lt, Int.not_le, gt_iff_lt] at h3)
  have hz0 : SzE f := by first | exact hsz | exact fun x hx => hsz x (List.mem_of_mem_take hx)
  refine .br [.r [(1, X (Xc0 (fc_partError f (by assumption)) X0))]] ((partE f 0) != 0) (fun h5 => ?_) (fun h5 => ?_)
  ·
   (try simp only [bne_iff_ne, bne_eq_false_iff_eq, ne_eq] at h5)
   exact .fin [.r []] []
  ·
   (try simp only [bne_iff_ne, bne_eq_false_iff_eq, ne_eq] at h5)
   have hp1 : partE f 0 = 0 := by omega
   have hq2 : AN 100000000000 f := by first | exact ha | exact an_take ha _
   have hlen : (f).length ≤ 40 := by first | omega | (simp only [List.length_take]; omega)
   have hco := change_ok (raw := p) tag_one (n := Int.toNat ((f).length : Int)) (by omega)
   obtain ⟨a, hA⟩ : ∃ z, doneD (actR (chgX p ({ data := #[111, 110, 101] }) (Int.toNat ((f).length : Int))) 0) = z := ⟨_, rfl⟩
   rw [hA] at hco
   obtain ⟨_, _, _, _, va, oa, da, na, _⟩ := hco
   have hr := undo_final va da (eok_of hp1 hq2) (by omega)
   have hrl : ((rawD f a).length : Int) = newD a := hr.2.2.2.2.2.2.2.2.2.1
   have hcb := change_ok (raw := q) tag_two (n := Int.toNat ((rawD f a).length : Int)) (by omega)
   obtain ⟨b, hB⟩ : ∃ z, doneD (actR (chgX q ({ data := #[116, 119, 111] }) (Int.toNat ((rawD f a).length : Int))) 0) = z := ⟨_, rfl⟩
   rw [hB] at hcb
   obtain ⟨_, _, _, _, vb, ob, db, nb, _⟩ := hcb
   clear hr
   obtain ⟨j1, j2, j3, j4, j5, j6, j7, j8, j9, j10⟩ := join_law hp1 hq2 va vb da db (by omega) (by omega)
   have e2 : (((((true || false) || false) || false) && (sameF (rawD f (joinD a b)) (rawD (rawD f a) b))) : Bool) = true := by
    simp [j10]
   exact .finE [.r [(1, X (Xl elemT f)), (3, X (Xc1 96 (fc_draw (f.length : Int) p ({ data := #[111, 110, 101] }) (by assumption) (by omega)) X0))], .le (.eq 7 (VL 4 dstepT (doneD (actR (chgX p ({ data := #[111, 110, 101] }) (Int.toNat (f.length : Int))) 0))) (VL 4 dstepT a) (.of_eq (by rw [hA]))), .r [(2, X (Xc1 128 (fc_dApply f a (by assumption) (by assumption) (by assumption) (by assumption) (by omega)) X0))], .r [(1, X (Xl elemT (rawD f a))), (3, X (Xc1 200 (fc_draw ((rawD f a).length : Int) q ({ data := #[116, 119, 111] }) (by assumption) (by omega)) X0))], .le (.eq 10 (VL 4 dstepT (doneD (actR (chgX q ({ data := #[116, 119, 111] }) (Int.toNat ((rawD f a).length : Int))) 0))) (VL 4 dstepT b) (.of_eq (by rw [hB]))), .r [(2, X (Xc1 232 (fc_dApply (rawD f a) b (by assumption) (by assumption) (by assumption) (by assumption) (by omega)) X0))], .r [(2, X (Xc1 296 (fc_dJoin a b (by assumption) (by assumption) (by assumption) (by assumption) (by omega)) X0))], .r [(2, X (Xc1 360 (fc_dApply f (joinD a b) (by assumption) (by assumption) (by assumption) (by assumption) (by omega)) X0))], .r [(4, Xv 1 true X0), (5, X (Xk true)), (8, Xv 1 (true || false) X0), (9, X (Xk (true || false))), (12, Xv 1 ((true || false) || false) X0), (13, X (Xk ((true || false) || false))), (17, Xv 2 (((true || false) || false) || false) (Xc0 (fc_sameFlow (rawD f (joinD a b)) (rawD (rawD f a) b)) X0)), (18, X (Xk (((true || false) || false) || false)))]] [] (fun z0 => (VB z0, [])) (((((true || false) || false) || false) && (sameF (rawD f (joinD a b)) (rawD (rawD f a) b))) : Bool) (true : Bool) e2.symm
end Go.Ch
end
section
set_option linter.unusedVariables false
set_option linter.unusedSimpArgs false
namespace Go.Proofs.Ytbdbibmbfmlobaa.frame
open Go Go.Proofs
def chs (l : List Nat) : List Char := l.map Char.ofNat
def w1 : List Char := chs [104, 97, 114, 110, 101, 115, 115]
def w2 : List Char := chs [102, 99, 57, 53, 99, 99, 54, 48, 52, 99, 55, 51, 55, 49, 100, 51, 97, 56, 102, 99, 55, 97, 51, 57, 52, 52, 50, 100, 100, 57, 102, 97, 97, 99, 52, 99, 99, 102, 50, 53, 100, 98, 52, 98, 52, 52, 50, 100, 56, 50, 102, 102, 97, 49, 97, 50, 48, 51, 57, 48, 102, 97, 101, 102]
def w3 : List Char := chs [99, 117, 116]
def sp : Char := Char.ofNat 32
theorem ws_sp (r : List Char) : wordsSigns (sp :: r) = [] :: wordsSigns r := rfl
theorem ws_c (c : Char) (r : List Char) (h : c ≠ sp) : wordsSigns (c :: r) = match wordsSigns r with
    | w :: ws => (c :: w) :: ws
    | [] => [[c]] := by
  rw [wordsSigns.eq_def]
  split
  · rename_i e; cases e
  · rename_i e; simp only [List.cons.injEq] at e; exact absurd e.1 h
  · rename_i e; simp only [List.cons.injEq] at e; obtain ⟨rfl, rfl⟩ := e; rfl
theorem ws_app : ∀ (a : List Char), (a.all fun c => c != sp) = true → ∀ r, wordsSigns (a ++ sp :: r) = a :: wordsSigns r
  | [], _, r => ws_sp r
  | c :: a, h, r => by
    simp only [List.all_cons, Bool.and_eq_true, bne_iff_ne] at h
    rw [List.cons_append, ws_c _ _ h.1, ws_app a h.2 r]
theorem tl (l : List Char) : (String.ofList l).toList = l := String.toList_ofList
theorem k1 : ("harness" : String).toList = w1 := tl w1
theorem k2 : ("cut" : String).toList = w3 := tl w3
theorem k3 : ("gc" : String).toList = chs [103, 99] := tl (chs [103, 99])
theorem k4 : ("spec" : String).toList = chs [115, 112, 101, 99] := tl (chs [115, 112, 101, 99])
theorem k5 : ("carried" : String).toList = chs [99, 97, 114, 114, 105, 101, 100] := tl (chs [99, 97, 114, 114, 105, 101, 100])
theorem lifts (r : List (List Char)) : stripLifts liftWords (w3 :: r) = ([], w3 :: r) := by
  unfold liftWords
  simp only [stripLifts]
  have key : ∀ l : List Nat, (w3 == chs l) = false → ∀ (s : String), s = String.ofList (chs l) → (w3 == s.toList) = false := fun l h s e => by rw [e, tl]; exact h
  rw [if_neg (by rw [key [102, 105, 110, 97, 108, 115] (by kernel_rfl) "finals" rfl]; decide)]
  rw [if_neg (by rw [key [114, 101, 102, 108, 101, 99, 116, 114, 111, 119, 115] (by kernel_rfl) "reflectrows" rfl]; decide)]
  rw [if_neg (by rw [key [108, 101, 97, 110, 114, 111, 119, 115] (by kernel_rfl) "leanrows" rfl]; decide)]
  rw [if_neg (by rw [key [111, 110, 101, 98, 117, 105, 108, 100] (by kernel_rfl) "onebuild" rfl]; decide)]
  rw [if_neg (by rw [key [112, 117, 98, 108, 105, 99, 115, 117, 109, 115] (by kernel_rfl) "publicsums" rfl]; decide)]
  rw [if_neg (by rw [key [101, 113, 103, 117, 97, 114, 100] (by kernel_rfl) "eqguard" rfl]; decide)]
  rw [if_neg (by rw [key [111, 119, 110, 117, 110, 115, 97, 102, 101] (by kernel_rfl) "ownunsafe" rfl]; decide)]
  rw [if_neg (by rw [key [108, 105, 98, 98, 101, 115, 105, 100, 101] (by kernel_rfl) "libbeside" rfl]; decide)]
  rw [if_neg (by rw [key [111, 119, 110, 98, 101, 115, 105, 100, 101] (by kernel_rfl) "ownbeside" rfl]; decide)]
  rw [if_neg (by rw [key [114, 101, 102, 108, 98, 101, 115, 105, 100, 101] (by kernel_rfl) "reflbeside" rfl]; decide)]
  rw [if_neg (by rw [key [97, 108, 105, 97, 115, 101, 115] (by kernel_rfl) "aliases" rfl]; decide)]
  rw [if_neg (by rw [key [97, 102, 116, 101, 114, 105, 110, 105, 116] (by kernel_rfl) "afterinit" rfl]; decide)]
  rw [if_neg (by rw [key [99, 114, 99, 112, 108, 97, 105, 110] (by kernel_rfl) "crcplain" rfl]; decide)]
  rw [if_neg (by rw [key [114, 111, 97, 100, 117, 110, 115, 97, 102, 101] (by kernel_rfl) "roadunsafe" rfl]; decide)]
  rw [if_neg (by rw [key [102, 109, 116, 104, 97, 110, 100, 111, 110] (by kernel_rfl) "fmthandon" rfl]; decide)]
theorem words {P : Program} {rest : List Char} (h : P.initOrder.toList = w1 ++ sp :: (w2 ++ sp :: (w3 ++ sp :: rest))) : behindMainWord (wordsSigns P.initOrder.toList) = w3 :: wordsSigns rest := by
  rw [h, ws_app w1 (by kernel_rfl), ws_app w2 (by kernel_rfl), ws_app w3 (by kernel_rfl)]
  unfold behindMainWord
  rw [k1]
  exact if_pos (by kernel_rfl)
theorem may {P : Program} {rest : List Char} (h : P.initOrder.toList = w1 ++ sp :: (w2 ++ sp :: (w3 ++ sp :: rest))) (hl : P.laysLater = false) (hb : P.bearsReflect = false) (hd : P.doorFits [] = true) : P.mayEnter = true := by
  unfold Program.mayEnter
  rw [words h]
  simp only [lifts, k2, k3, k4, k5, hl, hb, hd]
  have h1 : (w3 == chs [103, 99]) = false := by kernel_rfl
  have h2 : (w3 == chs [115, 112, 101, 99]) = false := by kernel_rfl
  have h3 : (w3 == chs [99, 97, 114, 114, 105, 101, 100]) = false := by kernel_rfl
  rw [h1, h2, h3]
  simp
theorem fin {P : Program} {rest : List Char} (h : P.initOrder.toList = w1 ++ sp :: (w2 ++ sp :: (w3 ++ sp :: rest))) : P.liftsFinal = false := by
  unfold Program.liftsFinal Program.headLifts
  rw [words h]
  simp only [lifts, k2, k5]
  have h3 : (w3 == chs [99, 97, 114, 114, 105, 101, 100]) = false := by kernel_rfl
  simp [h3]
theorem mk {P : Program} {rest : List Char} (h : P.initOrder.toList = w1 ++ sp :: (w2 ++ sp :: (w3 ++ sp :: rest))) : P.make = some .cut := by
  unfold Program.make
  rw [words h]
  simp only [k2, k3, k4, k5]
  have h1 : (w3 == chs [103, 99]) = false := by kernel_rfl
  have h2 : (w3 == chs [115, 112, 101, 99]) = false := by kernel_rfl
  rw [h1, h2]
  simp
theorem head : Try.pinned.checked.prog.initOrder = String.ofList (w1 ++ sp :: (w2 ++ sp :: (w3 ++ sp :: chs [97, 116, 32, 99, 104, 97, 110, 99, 101, 114, 121, 47, 99, 104, 97, 110, 99, 101, 114, 121, 107, 101, 101, 112, 49, 46, 83, 112, 97, 110, 83, 105, 122, 101, 115, 65, 100, 100, 32, 99, 104, 97, 110, 99, 101, 114, 121, 47, 99, 104, 97, 110, 99, 101, 114, 121, 107, 101, 101, 112, 49, 46, 65, 116, 116, 114, 85, 110, 100, 111, 82, 101, 115, 116, 111, 114, 101, 115, 32, 99, 104, 97, 110, 99, 101, 114, 121, 47, 99, 104, 97, 110, 99, 101, 114, 121, 107, 101, 101, 112, 49, 46, 65, 116, 116, 114, 66, 101, 116, 119, 101, 101, 110, 76, 101, 97, 100, 115, 32, 99, 104, 97, 110, 99, 101, 114, 121, 47, 99, 104, 97, 110, 99, 101, 114, 121, 107, 101, 101, 112, 49, 46, 65, 116, 116, 114, 80, 97, 105, 114, 77, 101, 101, 116, 115, 32, 99, 104, 97, 110, 99, 101, 114, 121, 47, 99, 104, 97, 110, 99, 101, 114, 121, 107, 101, 101, 112, 49, 46, 65, 120, 105, 115, 74, 111, 105, 110, 65, 115, 115, 111, 99, 105, 97, 116, 101, 115, 32, 99, 104, 97, 110, 99, 101, 114, 121, 47, 99, 104, 97, 110, 99, 101, 114, 121, 107, 101, 101, 112, 49, 46, 65, 120, 105, 115, 80, 97, 105, 114, 77, 101, 101, 116, 115, 32, 99, 104, 97, 110, 99, 101, 114, 121, 47, 99, 104, 97, 110, 99, 101, 114, 121, 107, 101, 101, 112, 49, 46, 65, 120, 105, 115, 80, 108, 97, 99, 101, 115, 75, 101, 101, 112, 79, 114, 100, 101, 114, 32, 99, 104, 97, 110, 99, 101, 114, 121, 47, 99, 104, 97, 110, 99, 101, 114, 121, 107, 101, 101, 112, 49, 46, 68, 101, 108, 116, 97, 84, 105, 100, 121, 65, 99, 116, 115, 32, 99, 104, 97, 110, 99, 101, 114, 121, 47, 99, 104, 97, 110, 99, 101, 114, 121, 107, 101, 101, 112, 49, 46, 68, 101, 108, 116, 97, 85, 110, 100, 111, 82, 101, 115, 116, 111, 114, 101, 115, 32, 99, 104, 97, 110, 99, 101, 114, 121, 47, 99, 104, 97, 110, 99, 101, 114, 121, 107, 101, 101, 112, 49, 46, 68, 101, 108, 116, 97, 74, 111, 105, 110, 65, 99, 116, 115, 32, 99, 104, 97, 110, 99, 101, 114, 121, 47, 99, 104, 97, 110, 99, 101, 114, 121, 107, 101, 101, 112, 49, 46, 68, 101, 108, 116, 97, 80, 97, 105, 114, 77, 101, 101, 116, 115, 32, 99, 104, 97, 110, 99, 101, 114, 121, 47, 99, 104, 97, 110, 99, 101, 114, 121, 107, 101, 101, 112, 49, 46, 68, 105, 102, 102, 66, 111, 116, 104, 87, 97, 121, 115, 32, 99, 104, 97, 110, 99, 101, 114, 121, 47, 99, 104, 97, 110, 99, 101, 114, 121, 107, 101, 101, 112, 49, 46, 84, 114, 97, 99, 107, 65, 99, 99, 101, 112, 116, 83, 104, 111, 119, 115, 32, 99, 104, 97, 110, 99, 101, 114, 121, 47, 99, 104, 97, 110, 99, 101, 114, 121, 107, 101, 101, 112, 49, 46, 83, 112, 97, 110, 84, 104, 114, 111, 117, 103, 104, 67, 111, 110, 116, 97, 105, 110, 115, 32, 99, 104, 97, 110, 99, 101, 114, 121, 47, 99, 104, 97, 110, 99, 101, 114, 121, 107, 101, 101, 112, 49, 46, 77, 101, 114, 103, 101, 79, 110, 101, 83, 105, 100, 101, 100, 32, 99, 104, 97, 110, 99, 101, 114, 121, 47, 99, 104, 97, 110, 99, 101, 114, 121, 107, 101, 101, 112, 49, 46, 77, 101, 114, 103, 101, 69, 120, 99, 104, 97, 110, 103, 101, 100, 32, 99, 104, 97, 110, 99, 101, 114, 121, 47, 99, 104, 97, 110, 99, 101, 114, 121, 107, 101, 101, 112, 49, 46, 68, 101, 108, 116, 97, 65, 120, 105, 115, 65, 103, 114, 101, 101, 115]))) := by kernel_rfl
set_option maxRecDepth 100000 in
theorem headL : Try.pinned.checked.prog.initOrder.toList = w1 ++ sp :: (w2 ++ sp :: (w3 ++ sp :: chs [97, 116, 32, 99, 104, 97, 110, 99, 101, 114, 121, 47, 99, 104, 97, 110, 99, 101, 114, 121, 107, 101, 101, 112, 49, 46, 83, 112, 97, 110, 83, 105, 122, 101, 115, 65, 100, 100, 32, 99, 104, 97, 110, 99, 101, 114, 121, 47, 99, 104, 97, 110, 99, 101, 114, 121, 107, 101, 101, 112, 49, 46, 65, 116, 116, 114, 85, 110, 100, 111, 82, 101, 115, 116, 111, 114, 101, 115, 32, 99, 104, 97, 110, 99, 101, 114, 121, 47, 99, 104, 97, 110, 99, 101, 114, 121, 107, 101, 101, 112, 49, 46, 65, 116, 116, 114, 66, 101, 116, 119, 101, 101, 110, 76, 101, 97, 100, 115, 32, 99, 104, 97, 110, 99, 101, 114, 121, 47, 99, 104, 97, 110, 99, 101, 114, 121, 107, 101, 101, 112, 49, 46, 65, 116, 116, 114, 80, 97, 105, 114, 77, 101, 101, 116, 115, 32, 99, 104, 97, 110, 99, 101, 114, 121, 47, 99, 104, 97, 110, 99, 101, 114, 121, 107, 101, 101, 112, 49, 46, 65, 120, 105, 115, 74, 111, 105, 110, 65, 115, 115, 111, 99, 105, 97, 116, 101, 115, 32, 99, 104, 97, 110, 99, 101, 114, 121, 47, 99, 104, 97, 110, 99, 101, 114, 121, 107, 101, 101, 112, 49, 46, 65, 120, 105, 115, 80, 97, 105, 114, 77, 101, 101, 116, 115, 32, 99, 104, 97, 110, 99, 101, 114, 121, 47, 99, 104, 97, 110, 99, 101, 114, 121, 107, 101, 101, 112, 49, 46, 65, 120, 105, 115, 80, 108, 97, 99, 101, 115, 75, 101, 101, 112, 79, 114, 100, 101, 114, 32, 99, 104, 97, 110, 99, 101, 114, 121, 47, 99, 104, 97, 110, 99, 101, 114, 121, 107, 101, 101, 112, 49, 46, 68, 101, 108, 116, 97, 84, 105, 100, 121, 65, 99, 116, 115, 32, 99, 104, 97, 110, 99, 101, 114, 121, 47, 99, 104, 97, 110, 99, 101, 114, 121, 107, 101, 101, 112, 49, 46, 68, 101, 108, 116, 97, 85, 110, 100, 111, 82, 101, 115, 116, 111, 114, 101, 115, 32, 99, 104, 97, 110, 99, 101, 114, 121, 47, 99, 104, 97, 110, 99, 101, 114, 121, 107, 101, 101, 112, 49, 46, 68, 101, 108, 116, 97, 74, 111, 105, 110, 65, 99, 116, 115, 32, 99, 104, 97, 110, 99, 101, 114, 121, 47, 99, 104, 97, 110, 99, 101, 114, 121, 107, 101, 101, 112, 49, 46, 68, 101, 108, 116, 97, 80, 97, 105, 114, 77, 101, 101, 116, 115, 32, 99, 104, 97, 110, 99, 101, 114, 121, 47, 99, 104, 97, 110, 99, 101, 114, 121, 107, 101, 101, 112, 49, 46, 68, 105, 102, 102, 66, 111, 116, 104, 87, 97, 121, 115, 32, 99, 104, 97, 110, 99, 101, 114, 121, 47, 99, 104, 97, 110, 99, 101, 114, 121, 107, 101, 101, 112, 49, 46, 84, 114, 97, 99, 107, 65, 99, 99, 101, 112, 116, 83, 104, 111, 119, 115, 32, 99, 104, 97, 110, 99, 101, 114, 121, 47, 99, 104, 97, 110, 99, 101, 114, 121, 107, 101, 101, 112, 49, 46, 83, 112, 97, 110, 84, 104, 114, 111, 117, 103, 104, 67, 111, 110, 116, 97, 105, 110, 115, 32, 99, 104, 97, 110, 99, 101, 114, 121, 47, 99, 104, 97, 110, 99, 101, 114, 121, 107, 101, 101, 112, 49, 46, 77, 101, 114, 103, 101, 79, 110, 101, 83, 105, 100, 101, 100, 32, 99, 104, 97, 110, 99, 101, 114, 121, 47, 99, 104, 97, 110, 99, 101, 114, 121, 107, 101, 101, 112, 49, 46, 77, 101, 114, 103, 101, 69, 120, 99, 104, 97, 110, 103, 101, 100, 32, 99, 104, 97, 110, 99, 101, 114, 121, 47, 99, 104, 97, 110, 99, 101, 114, 121, 107, 101, 101, 112, 49, 46, 68, 101, 108, 116, 97, 65, 120, 105, 115, 65, 103, 114, 101, 101, 115])) := by rw [head, tl]
theorem later : Try.pinned.checked.prog.laysLater = false := by kernel_rfl
theorem refl : Try.pinned.checked.prog.bearsReflect = false := by kernel_rfl
theorem door : Try.pinned.checked.prog.doorFits [] = true := by kernel_rfl
theorem mayEnter : Try.pinned.checked.prog.mayEnter = true := may headL later refl door
theorem made : Try.pinned.checked.prog.make = some .cut := mk headL
theorem laid : laidOutB Try.pinned.checked.prog = true := by kernel_rfl
theorem rowed : mapsRowed Try.pinned.checked.prog = true := by kernel_rfl
theorem noStops : Try.pinned.checked.prog.stops = [] := by kernel_rfl
theorem noKnobs : Try.pinned.checked.prog.stopKnobs = [] := by kernel_rfl
theorem heard : Try.pinned.checked.prog.stopsHeard = true := by kernel_rfl
theorem keys : Try.pinned.checked.prog.plainKeys = true := by kernel_rfl
theorem liftsNo : Try.pinned.checked.prog.liftsFinal = false := fin headL
end Go.Proofs.Ytbdbibmbfmlobaa.frame
end
section
set_option linter.unusedVariables false
namespace Go.Ab
open Go Go.Proofs.Ytbdbibmbfmlobaa
variable {P : Program} {W : World}

def RdM (P : Program) (t : TypeId) (k : Nat) {α : Type} (f : α → Tree) (μ : α → Nat) : Prop :=
  (∀ a, Elt k (f a)) ∧ P.cellsOf t = k ∧ ∀ (H : Type) (enc : TypeId × Value → H) (W : World) (fuel : Nat) (cs : List Value) (x : DataW H × List MemPlace),
    DataW.trod enc P W 0 (fun _ => true) true fuel t cs = some x → ∃ a : α, CellsR W (f a).cells cs ∧ μ a ≤ Rows.uptoBulk x.1

theorem bulk_pos {H : Type} (d : DataW H) : 1 ≤ Rows.uptoBulk d := by
  cases d with
  | lit l => cases l <;> simp [Rows.uptoBulk]
  | _ => simp [Rows.uptoBulk]

theorem RdM.int {t : TypeId} {k : IntKind} (ht : P.underlying t = some (.int k)) (hc : P.cellsOf t = 1) : RdM P t 1 (fun z : Int => .sc (.int k z)) (fun _ => 1) := by
  refine ⟨fun _ => elt1, hc, fun H enc W fuel cs x h => ?_⟩
  obtain ⟨n, rfl, _, _⟩ := DataW.trod_int ht h
  exact ⟨n, cells1 rfl (.sc _ rfl), bulk_pos _⟩
/-- An integer with its bounds. -/
theorem RdM.i64 {t : TypeId} (ht : P.underlying t = some (.int .i64)) (hc : P.cellsOf t = 1) : RdM P t 1 (fun z : { z : Int // -9223372036854775808 ≤ z ∧ z ≤ 9223372036854775807 } => .sc (.int .i64 z.1)) (fun _ => 1) := by
  refine ⟨fun _ => elt1, hc, fun H enc W fuel cs x h => ?_⟩
  obtain ⟨n, rfl, _, hw⟩ := DataW.trod_int ht h
  exact ⟨⟨n, by simpa [Lit.wf, IntKind.min, IntKind.max, IntKind.signed, IntKind.bits] using hw⟩, cells1 rfl (.sc _ rfl), bulk_pos _⟩
theorem RdM.bool {t : TypeId} (ht : P.underlying t = some .bool) (hc : P.cellsOf t = 1) : RdM P t 1 (fun b : Bool => .sc (.bool b)) (fun _ => 1) := by
  refine ⟨fun _ => elt1, hc, fun H enc W fuel cs x h => ?_⟩
  obtain ⟨n, rfl, _⟩ := DataW.trod_bool ht h
  exact ⟨n, cells1 rfl (.sc _ rfl), bulk_pos _⟩
theorem RdM.str {t : TypeId} (ht : P.underlying t = some .string) (hc : P.cellsOf t = 1) : RdM P t 1 (fun s : ByteArray => .sc (.string s)) (fun s => s.size + 1) := by
  refine ⟨fun _ => elt1, hc, fun H enc W fuel cs x h => ?_⟩
  obtain ⟨n, rfl, rfl, _⟩ := DataW.trod_string ht h
  exact ⟨n, cells1 rfl (.sc _ rfl), by simp [Rows.uptoBulk]⟩

theorem sum_le {α H : Type} {μ : α → Nat} : ∀ {l : List α} {es : List (DataW H)}, l.length = es.length → (∀ (i : Nat) (a : α) (d : DataW H), l[i]? = some a → es[i]? = some d → μ a ≤ Rows.uptoBulk d) → (l.map μ).sum ≤ Rows.uptoBulkAll es
  | [], es, _, _ => by simp
  | a :: l, [], h, _ => by simp at h
  | a :: l, d :: es, h, hi => by
    have h0 := hi 0 a d rfl rfl
    have ih := sum_le (l := l) (es := es) (by simpa using h) (fun i a' d' h1 h2 => hi (i + 1) a' d' (by simpa using h1) (by simpa using h2))
    simp only [List.map_cons, List.sum_cons, Rows.uptoBulkAll]
    omega

theorem RdM.slice {t e : TypeId} {k : Nat} {α : Type} {f : α → Tree} {μ : α → Nat} (ht : P.underlying t = some (.slice e)) (hk : 0 < k) (hc : P.cellsOf t = 1) (he : RdM P e k f μ) : RdM P t 1 (fun l : List α => .lst k (l.map f)) (fun l => (l.map μ).sum + 1) := by
  obtain ⟨h1, h2, h3⟩ := he
  refine ⟨fun l => ⟨rfl, fun T hT => by simp [Tree.cells] at hT; subst hT; rfl⟩, hc, fun H enc W fuel cs x h => ?_⟩
  have hx : ∀ l : List α, ∀ x ∈ l.map f, Elt k x := fun l x hx => by
    obtain ⟨a, _, rfl⟩ := List.mem_map.1 hx
    exact h1 a
  rcases DataW.trod_slice ht h with ⟨rfl, hx0⟩ | ⟨a, len, cap, elems, rest, n, _, rfl, hxe, hb, hl, hm, hlen, hel, _, _⟩
  · refine ⟨[], cells1 rfl (.lst k [] none 0 [] hk (fun x hx => by simp at hx) (Nat.le_refl _) (by simp [maxLen]) (fun h => absurd rfl h) (by simp) (fun j T u hT => by simp [flat] at hT)), ?_⟩
    exact bulk_pos _
  · have key : ∀ i, i < len → ∃ y : α, (∃ cs', cs'.length = k ∧ (∀ r, r < k → W.cell? (a.add (i * k + r)) = cs'[r]?) ∧ CellsR W (f y).cells cs') ∧ ∀ d, (elems.map (·.1))[i]? = some d → μ y ≤ Rows.uptoBulk d := by
      intro i hi
      have h4 := hel i hi
      have h5 : elems[i]? = some elems[i] := by rw [List.getElem?_eq_getElem (by omega)]
      rw [h5, h2] at h4
      obtain ⟨cs', h6, h7⟩ := Option.bind_eq_some_iff.1 h4
      obtain ⟨q1, q2, q3⟩ := World.cells?_some h6
      obtain ⟨y, hy, hμ⟩ := h3 H enc W n cs' _ h7
      refine ⟨y, ⟨cs', q2, fun r hr => ?_, hy⟩, fun d hd => ?_⟩
      · rw [← q3 r hr]
        rw [Addr.add_add]
      · rw [List.getElem?_map, h5] at hd
        simp only [Option.map_some, Option.some.injEq] at hd
        subst hd; exact hμ
    obtain ⟨l, hl1, hl2'⟩ := list_of len _ key
    have hl2 := fun i a h => (hl2' i a h).1
    have hspot : l ≠ [] → ∃ u, W.cell? a = some u := by
      intro hne
      have h0 : 0 < len := by rw [← hl1]; exact List.length_pos_iff.2 hne
      obtain ⟨cs', c1, c2, c3⟩ := hl2 0 l[0] (by rw [List.getElem?_eq_getElem (by omega)])
      have := c2 0 hk
      simp only [Nat.zero_mul, Nat.add_zero] at this
      rw [List.getElem?_eq_getElem (by omega)] at this
      have e : a.add 0 = a := by simp [Addr.add]
      rw [e] at this
      exact ⟨_, this⟩
    refine ⟨l, cells1 rfl ?_, ?_⟩
    rotate_left
    · rw [hxe]
      simp only [Rows.uptoBulk]
      have := sum_le (μ := μ) (l := l) (es := elems.map (·.1)) (by simp [hl1, hlen]) (fun i y d h1 h2 => (hl2' i y h1).2 d h2)
      omega
    have hget : ∀ j, j < len * k → ∃ u, W.cell? (a.add j) = some u ∧ ∀ T, (flat (l.map f))[j]? = some T → TRep W (fun b => b < W.heap.size) T u := by
      intro j hj
      have hi : j / k < len := Nat.div_lt_of_lt_mul (by rw [Nat.mul_comm]; exact hj)
      have hr : j % k < k := Nat.mod_lt _ hk
      have hji : j = j / k * k + j % k := by rw [Nat.mul_comm]; exact (Nat.div_add_mod j k).symm
      obtain ⟨cs', c1, c2, c3⟩ := hl2 (j / k) l[j / k] (by rw [List.getElem?_eq_getElem (by omega)])
      have c4 := c2 (j % k) hr
      rw [← hji, List.getElem?_eq_getElem (by omega)] at c4
      refine ⟨_, c4, fun T hT => ?_⟩
      rw [hji, flat_get (hx l) (i := j / k) (X := f l[j / k]) (by simp [List.getElem?_eq_getElem (show j / k < l.length by omega)]) hr] at hT
      exact c3.2 (j % k) T _ hT (by rw [List.getElem?_eq_getElem (by omega)])
    obtain ⟨us, hu1, hu2⟩ := list_of (len * k) _ hget
    have hlm : (l.map f).length = len := by simp [hl1]
    have := TRep.lst (w := W) (ok := fun b => b < W.heap.size) k (l.map f) (some a) cap us hk (hx l) (by omega) hm (fun hne => ?_) (by rw [hlm]; exact hu1) (fun j T u hT hu => (hu2 j u hu).2 T hT)
    · rw [hlm] at this; exact this
    · obtain ⟨u, hu⟩ := hspot (fun e => hne (by rw [e]; rfl))
      have hs := World.cell?_spot hu
      obtain ⟨b, o, sp⟩ := a
      simp only at hs
      subst hs
      refine ⟨b, o, rfl, ?_, fun j u hj => ?_⟩
      · simp only [World.cell?] at hu
        by_cases hb : b < W.heap.size
        · exact hb
        · rw [Array.getElem?_eq_none (by omega)] at hu; simp at hu
      · have := (hu2 j u hj).1
        rw [add_lit'] at this
        exact this

theorem RdM.map {t : TypeId} {k : Nat} {α β : Type} {f : α → Tree} {μ : α → Nat} {f' : β → Tree} {μ' : β → Nat} (h : RdM P t k f μ) (g : α → β) (hf : ∀ a, f' (g a) = f a) (hm : ∀ a, μ' (g a) ≤ μ a) (he : ∀ b, Elt k (f' b)) : RdM P t k f' μ' := by
  obtain ⟨h1, h2, h3⟩ := h
  refine ⟨he, h2, fun H enc W fuel cs x hx => ?_⟩
  obtain ⟨a, ha, hb⟩ := h3 H enc W fuel cs x hx
  exact ⟨g a, by rw [hf]; exact ha, Nat.le_trans (hm a) hb⟩

/-- The fields of a struct, from a cell on. -/
def RdFM (P : Program) (off : Nat) (fs : List Field) (k : Nat) {β : Type} (g : β → List Tree) (μ : β → Nat) : Prop :=
  (∀ b, (g b).length = k ∧ ∀ T ∈ g b, T.isCell = true) ∧ ∀ (H : Type) (enc : TypeId × Value → H) (W : World) (n : Nat) (cs : List Value) (ys : List (DataW H × List MemPlace)),
    ys.length = fs.length → (∀ (i : Nat) (f : Field), fs[i]? = some f → DataW.trod enc P W 0 (fun _ => true) true n f.type ((cs.drop f.offset).take (P.cellsOf f.type)) = ys[i]?) →
    ∃ b : β, (∀ (j : Nat) (T : Tree) (u : Value), (g b)[j]? = some T → cs[off + j]? = some u → TRep W (fun b => b < W.heap.size) T u) ∧ μ b ≤ Rows.uptoBulkAll (ys.map (·.1))
theorem RdFM.nil {off : Nat} : RdFM P off [] 0 (fun _ : Unit => []) (fun _ => 0) :=
  ⟨fun _ => ⟨rfl, fun T hT => by simp at hT⟩, fun H enc W n cs ys h1 h2 => ⟨(), fun j T u hT => by simp at hT, Nat.zero_le _⟩⟩
theorem RdFM.cons {off : Nat} {f : Field} {fs : List Field} {k1 k2 : Nat} {α β : Type} {f1 : α → Tree} {μ1 : α → Nat} {g2 : β → List Tree} {μ2 : β → Nat} (ho : f.offset = off) (h : RdM P f.type k1 f1 μ1) (hs : RdFM P (off + k1) fs k2 g2 μ2) : RdFM P off (f :: fs) (k1 + k2) (fun p : α × β => (f1 p.1).cells ++ g2 p.2) (fun p => μ1 p.1 + μ2 p.2) := by
  obtain ⟨h1, h2, h3⟩ := h
  obtain ⟨s1, s2⟩ := hs
  refine ⟨fun p => ⟨by rw [List.length_append, (h1 p.1).1, (s1 p.2).1], fun T hT => ?_⟩, fun H enc W n cs ys hl hy => ?_⟩
  · rcases List.mem_append.1 hT with hT | hT
    · exact (h1 p.1).2 T hT
    · exact (s1 p.2).2 T hT
  · cases ys with
    | nil => simp at hl
    | cons y ys =>
      have e0 := hy 0 f rfl
      simp only [List.getElem?_cons_zero, ho, h2] at e0
      obtain ⟨a, ⟨ha1, ha2⟩, ha3⟩ := h3 H enc W n _ _ e0
      obtain ⟨b, hb, hb3⟩ := s2 H enc W n cs ys (by simpa using hl) (fun i f' hf => by simpa using hy (i + 1) f' (by simpa using hf))
      refine ⟨(a, b), fun j T u hT hu => ?_, by simp only [List.map_cons, Rows.uptoBulkAll]; omega⟩
      by_cases hj : j < (f1 a).cells.length
      · rw [List.getElem?_append_left hj] at hT
        have hk : j < k1 := by rw [(h1 a).1] at hj; exact hj
        refine ha2 j T u hT ?_
        rw [List.getElem?_take, if_pos hk, List.getElem?_drop]
        exact hu
      · rw [List.getElem?_append_right (by show (f1 a).cells.length ≤ j; omega)] at hT
        rw [(h1 a).1] at hj hT
        refine hb (j - k1) T u hT ?_
        rw [← hu]; congr 1; omega
theorem RdM.struct {t : TypeId} {fs : Array Field} {k : Nat} {β : Type} {g : β → List Tree} {μ : β → Nat} (ht : P.underlying t = some (.struct fs)) (hc : P.cellsOf t = k) (h : RdFM P 0 fs.toList k g μ) : RdM P t k (fun b => .agg (g b)) (fun b => μ b + 1) := by
  obtain ⟨s1, s2⟩ := h
  refine ⟨fun b => s1 b, hc, fun H enc W fuel cs x hx => ?_⟩
  obtain ⟨xs, n, _, hxe, hl, hlen, hf⟩ := DataW.trod_struct ht hx
  obtain ⟨b, hb, hμ⟩ := s2 H enc W n cs xs (by simpa using hlen) (fun i f hi => hf i f (by simpa using hi))
  refine ⟨b, ⟨by rw [hl, hc]; exact (s1 b).1.symm, fun j T u hT hu => hb j T u hT (by simpa using hu)⟩, ?_⟩
  rw [hxe]; simp only [Rows.uptoBulk]; omega

/-- A one-cell argument. -/
theorem RdM.arg {t : TypeId} {α : Type} {f : α → Tree} {μ : α → Nat} (h : RdM P t 1 f μ) (h1 : ∀ a, (f a).isCell = true) {H : Type} {enc : TypeId × Value → H} {v : Value} {d : DataW H} {ps : List MemPlace} (hd : DataW.Trod enc P W 0 (fun _ => true) true t v d ps) (hv : v.cells.toList = [v]) :
    ∃ a, TRep W (fun b => b < W.heap.size) (f a) v ∧ μ a ≤ Rows.uptoBulk d := by
  obtain ⟨fuel, hf⟩ := hd
  obtain ⟨a, ⟨c1, c2⟩, c3⟩ := h.2.2 H enc W fuel _ _ hf
  refine ⟨a, c2 0 _ _ ?_ (by rw [hv]; rfl), c3⟩
  cases hfa : f a with
  | agg cs => have := h1 a; rw [hfa] at this; cases this
  | sc v => rfl
  | lst k xs => rfl
theorem bulk_bound {H : Type} {l : List (DataW H)} (hk : Rows.uptoSmall H l = true) : Rows.uptoBulkAll l ≤ 1048576 := of_decide_eq_true hk
theorem sum_mem {α : Type} {μ : α → Nat} {l : List α} {a : α} (h : a ∈ l) : μ a ≤ (l.map μ).sum := by
  induction l with
  | nil => cases h
  | cons b l ih =>
    simp only [List.map_cons, List.sum_cons]
    rcases List.mem_cons.1 h with rfl | h
    · omega
    · have := ih h; omega
theorem sum_len {α : Type} {μ : α → Nat} (hμ : ∀ a, 1 ≤ μ a) (l : List α) : l.length ≤ (l.map μ).sum := by
  induction l with
  | nil => simp
  | cons b l ih => have := hμ b; simp only [List.map_cons, List.sum_cons, List.length_cons]; omega
end Go.Ab
end
