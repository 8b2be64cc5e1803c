/- Parts of the proof: ChDelta7, DeltaLaws, DeltaJoin, DeltaPair, ChDelta9, ChDelta10, DeltaRead, DeltaRuns, DeltaJD, DeltaJF, DeltaPD, DeltaTidy, DeltaTB, ChDelta16, ChDelta8, DeltaTL, ChDelta17, Frame, AbBulk. -/
import Derived.Test.YtbdbibmbfmlobaaM1
import Derived.Test.YtbdbibmbfmlobaaM2
import Derived.Test.YtbdbibmbfmlobaaM3
import Derived.Test.YtbdbibmbfmlobaaM4
import Derived.Test.YtbdbibmbfmlobaaM5
import Derived.Test.YtbdbibmbfmlobaaRows
import Derived.JoinedOf
import Derived.ProofKit
section
set_option linter.unusedVariables false
set_option linter.unusedSimpArgs false
set_option maxRecDepth 100000
set_option maxHeartbeats 4000000
open Go Go.Proofs Go.Ab
namespace Go.Ch
theorem fc_draw (n : Int) (raw : List Int) (tag : ByteArray) (ht : TagOk tag) (hn : 0 ≤ n ∧ n ≤ 10000000) : FC Try.prog 48 [VI n, VL 1 intT raw, VS tag] (app emp []) (VL 4 dstepT (doneD (actR (chgX raw tag n.toNat) 0))) (app emp []) := by
 refine .go Try.f48 ?_
 refine .len 1 (fun hl1 => ?_)
 obtain ⟨hc1, hc2, hc3, hc4, hc5, hc6, hc7, hc8, hc9⟩ := change_ok (raw := raw) ht (n := n.toNat) (by omega)
 refine .loop (α := Nat × Int × (List (List Elem)) × (List Bool) × (List (List Attr))) [.r [], .r [], .r [], .le (.nB 8 0 1), .le (.nB 8 1 1), .le (.nB 8 2 1), .r []] 59 (fun (i, used, I, C, S) => ([(0, VI n), (2, VS tag), (7, .ptr 8 0), (8, .ptr 32 0), (9, VI (i : Int))], [(8, .box [.row 48 I.length, .row 49 C.length, .row 50 S.length]), (32, .box [VL 1 intT raw, VI used]), (48, OR 1 elemsT I), (49, OR 1 boolT C), (50, OR 1 attrsT S)])) (fun (i, used, I, C, S) => (i : Int) ≤ n ∧ 0 ≤ used ∧ used ≤ 3 * i ∧ I.length = i ∧ C.length = i ∧ S.length = i ∧ chgX raw tag n.toNat = chgF raw tag n.toNat (n.toNat - i) used ⟨I, C, S⟩) (fun (i, used, I, C, S) => n.toNat + 1 - i) (0, 0, [], [], []) ?_ ?_
 ·
  exact ⟨by omega, by decide, by omega, rfl, rfl, rfl, rfl⟩
 rintro ⟨i, used, I, C, S⟩ I4 ih4
 try dsimp only at I4
 have r1 := rollU_le raw used
 have r2 := rollU_le raw (rollU raw used)
 have r3 := rollU_le raw (rollU raw (rollU raw used))
 have v1 := rollV_bd raw used (n := 8) (by decide)
 have v2 := rollV_bd raw (rollU raw used) (n := 8) (by decide)
 have v3 := rollV_bd raw (rollU raw (rollU raw used)) (n := 8) (by decide)
 refine .br [.r []] (decide ((i : Int) ≤ n)) (fun h4 => ?_) (fun h4 => ?_)
 ·
  (try simp only [decide_eq_true_eq, decide_eq_false_iff_not, Int.not_lt, Int.not_le] at h4)
  refine .loop (α := Nat × (List Elem)) [.r [], .r [(1, X (Xc3 99 [(0, 32)] (fc_roll raw used 8 (by omega) (by omega) (by omega)) X0)), (2, X (Xn ((rollV raw used 8) - 5))), (3, X (Xmax 0 ((rollV raw used 8) - 5)))], .le (.nR 10 3)] 132 (fun (j, e) => ([(0, VI n), (2, VS tag), (7, .ptr 8 0), (8, .ptr 32 0), (9, VI (i : Int)), (10, .row 131 e.length), (24, VI (max 0 ((rollV raw used 8) - 5))), (25, VI (j : Int))], [(8, .box [.row 48 I.length, .row 49 C.length, .row 50 S.length]), (32, .box [VL 1 intT raw, VI (rollU raw used)]), (48, OR 1 elemsT I), (49, OR 1 boolT C), (50, OR 1 attrsT S), (131, OR 3 elemT e)])) (fun (j, e) => (j : Int) ≤ (max 0 ((rollV raw used 8) - 5)) ∧ e = insL tag i j) (fun (j, e) => ((max 0 ((rollV raw used 8) - 5))).toNat - j) (0, []) ?_ ?_
  ·
   exact ⟨by omega, rfl⟩
  rintro ⟨j, e⟩ I8 ih8
  try dsimp only at I8
  have el : e.length = j := by rw [I8.2]; simp [insL]
  refine .br [.r []] (decide ((j : Int) < (max 0 ((rollV raw used 8) - 5)))) (fun h8 => ?_) (fun h8 => ?_)
  ·
   (try simp only [decide_eq_true_eq, decide_eq_false_iff_not, Int.not_lt, Int.not_le] at h8)
   refine .back [.r [], .r [(3, X (Xn ((i : Int) + (j : Int)))), (4, X (Xrem ((i : Int) + (j : Int)) 26)), (5, X (Xn (65 + (((i : Int) + (j : Int)) % 26)))), (7, X (Xc1 212 (fc_on tag) X0)), (10, X (rowC elemT [({ char := (65 + (((i : Int) + (j : Int)) % 26)), ref := 0, attrs := [({ name := tag, val := { data := #[111, 110] } } : Attr)] } : Elem)] (Xap 3 elemT 131 e [({ char := (65 + (((i : Int) + (j : Int)) % 26)), ref := 0, attrs := [({ name := tag, val := { data := #[111, 110] } } : Attr)] } : Elem)])))], .r [(0, X (Xn ((j : Int) + 1)))]] [(8, 8), (32, 32), (48, 48), (49, 49), (50, 50), (131, 131)] (ih8 ((j + 1), (e ++ [({ char := (65 + (((i : Int) + (j : Int)) % 26)), ref := 0, attrs := [({ name := tag, val := { data := #[111, 110] } } : Attr)] } : Elem)])) ?_ ?_)
   ·
    refine ⟨by omega, ?_⟩
    rw [I8.2]
    unfold insL
    rw [List.range_succ, List.map_append]
    rfl
   ·
    ((try dsimp only); omega)
  ·
   (try simp only [decide_eq_true_eq, decide_eq_false_iff_not, Int.not_lt, Int.not_le] at h8)
   refine .br [.r [(3, X (rowC elemT e X0)), (4, X (rowC elemsT [e] (Xap 1 elemsT 48 I [e])))], .r []] ((i : Int) == n) (fun h13 => ?_) (fun h13 => ?_)
   ·
    (try simp only [beq_iff_eq, beq_eq_false_iff_ne, ne_eq] at h13)
    have hj : insK raw used = j := by unfold insK; omega
    have hX : chgX raw tag n.toNat = ⟨I ++ [e], C, S⟩ := by rw [I4.2.2.2.2.2.2, show n.toNat - i = 0 by omega, chgF, hj, show n.toNat = i by omega, ← I8.2]
    rw [hX] at hc1 hc2 hc3 hc4
    have e1 : ((doneD (actR (chgX raw tag n.toNat) 0)) : List DStep) = (doneD (actR ({ ins := (I ++ [e]), cut := C, set := S } : Act) 0)) := by
     rw [hX]
    exact .finE [.r [(1, X (Xc1 228 (fc_deltaOf ({ ins := (I ++ [e]), cut := C, set := S } : Act) (by assumption) (by assumption) (by assumption) (by assumption)) (rowC elemsT (I ++ [e]) (rowC boolT C (rowC attrsT S X0)))))]] [] (fun z0 => (VL 4 dstepT z0, [])) ((doneD (actR ({ ins := (I ++ [e]), cut := C, set := S } : Act) 0)) : List DStep) ((doneD (actR (chgX raw tag n.toNat) 0)) : List DStep) e1
   ·
    (try simp only [beq_iff_eq, beq_eq_false_iff_ne, ne_eq] at h13)
    have hj : insK raw used = j := by unfold insK; omega
    refine .br [.r [], .r [(1, X (Xc3 236 [(0, 32)] (fc_roll raw (rollU raw used) 8 (by omega) (by omega) (by omega)) X0))], .r []] ((rollV raw (rollU raw used) 8) == 1) (fun h16 => ?_) (fun h16 => ?_)
    ·
     (try simp only [beq_iff_eq, beq_eq_false_iff_ne, ne_eq] at h16)
     refine .back [.r [(0, X (Xc1 260 (fc_on ({ data := #[98, 111, 108, 100] })) X0))], .r [(3, X (Xc3 300 [(0, 32)] (fc_roll raw (rollU raw (rollU raw used)) 8 (by omega) (by omega) (by omega)) X0)), (6, X (rowC boolT [((rollV raw (rollU raw (rollU raw used)) 8) == 0)] (Xap 1 boolT 49 C [((rollV raw (rollU raw (rollU raw used)) 8) == 0)]))), (11, X (rowC attrsT [[({ name := ({ data := #[98, 111, 108, 100] }), val := { data := #[111, 110] } } : Attr)]] (Xap 1 attrsT 50 S [[({ name := ({ data := #[98, 111, 108, 100] }), val := { data := #[111, 110] } } : Attr)]])))], .r [(1, X (Xn ((i : Int) + 1)))]] [(8, 8), (32, 32), (48, 48), (49, 49), (50, 50)] (ih4 ((i + 1), (rollU raw (rollU raw (rollU raw used))), (I ++ [e]), (C ++ [((rollV raw (rollU raw (rollU raw used)) 8) == 0)]), (S ++ [[({ name := ({ data := #[98, 111, 108, 100] }), val := { data := #[111, 110] } } : Attr)]])) ?_ ?_)
     ·
      refine ⟨by omega, by omega, by omega, by simp; omega, by simp; omega, by simp; omega, ?_⟩
      rw [I4.2.2.2.2.2.2, show n.toNat - i = (n.toNat - (i + 1)) + 1 by omega, chgF, show n.toNat - ((n.toNat - (i + 1)) + 1) = i by omega, hj, ← I8.2]
      unfold setL
      (repeat (first | rw [if_pos (by omega)] | rw [if_neg (by omega)]))
     ·
      ((try dsimp only); omega)
    ·
     (try simp only [beq_iff_eq, beq_eq_false_iff_ne, ne_eq] at h16)
     refine .br [.r []] ((rollV raw (rollU raw used) 8) == 2) (fun h18 => ?_) (fun h18 => ?_)
     ·
      (try simp only [beq_iff_eq, beq_eq_false_iff_ne, ne_eq] at h18)
      refine .back [.r [], .r [(3, X (Xc3 324 [(0, 32)] (fc_roll raw (rollU raw (rollU raw used)) 8 (by omega) (by omega) (by omega)) X0)), (6, X (rowC boolT [((rollV raw (rollU raw (rollU raw used)) 8) == 0)] (Xap 1 boolT 49 C [((rollV raw (rollU raw (rollU raw used)) 8) == 0)]))), (10, X (rowC attrT [({ name := { data := #[98, 111, 108, 100] }, val := { data := #[] } } : Attr)] X0)), (11, X (rowC attrsT [[({ name := { data := #[98, 111, 108, 100] }, val := { data := #[] } } : Attr)]] (Xap 1 attrsT 50 S [[({ name := { data := #[98, 111, 108, 100] }, val := { data := #[] } } : Attr)]])))], .r [(1, X (Xn ((i : Int) + 1)))]] [(8, 8), (32, 32), (48, 48), (49, 49), (50, 50)] (ih4 ((i + 1), (rollU raw (rollU raw (rollU raw used))), (I ++ [e]), (C ++ [((rollV raw (rollU raw (rollU raw used)) 8) == 0)]), (S ++ [[({ name := { data := #[98, 111, 108, 100] }, val := { data := #[] } } : Attr)]])) ?_ ?_)
      ·
       refine ⟨by omega, by omega, by omega, by simp; omega, by simp; omega, by simp; omega, ?_⟩
       rw [I4.2.2.2.2.2.2, show n.toNat - i = (n.toNat - (i + 1)) + 1 by omega, chgF, show n.toNat - ((n.toNat - (i + 1)) + 1) = i by omega, hj, ← I8.2]
       unfold setL
       (repeat (first | rw [if_pos (by omega)] | rw [if_neg (by omega)]))
      ·
       ((try dsimp only); omega)
     ·
      (try simp only [beq_iff_eq, beq_eq_false_iff_ne, ne_eq] at h18)
      refine .br [.r []] ((rollV raw (rollU raw used) 8) == 3) (fun h20 => ?_) (fun h20 => ?_)
      ·
       (try simp only [beq_iff_eq, beq_eq_false_iff_ne, ne_eq] at h20)
       refine .back [.r [], .r [(3, X (Xc3 364 [(0, 32)] (fc_roll raw (rollU raw (rollU raw used)) 8 (by omega) (by omega) (by omega)) X0)), (6, X (rowC boolT [((rollV raw (rollU raw (rollU raw used)) 8) == 0)] (Xap 1 boolT 49 C [((rollV raw (rollU raw (rollU raw used)) 8) == 0)]))), (10, X (rowC attrT [({ name := { data := #[98, 111, 108, 100] }, val := tag } : Attr), ({ name := tag, val := { data := #[111, 110] } } : Attr)] X0)), (11, X (rowC attrsT [[({ name := { data := #[98, 111, 108, 100] }, val := tag } : Attr), ({ name := tag, val := { data := #[111, 110] } } : Attr)]] (Xap 1 attrsT 50 S [[({ name := { data := #[98, 111, 108, 100] }, val := tag } : Attr), ({ name := tag, val := { data := #[111, 110] } } : Attr)]])))], .r [(1, X (Xn ((i : Int) + 1)))]] [(8, 8), (32, 32), (48, 48), (49, 49), (50, 50)] (ih4 ((i + 1), (rollU raw (rollU raw (rollU raw used))), (I ++ [e]), (C ++ [((rollV raw (rollU raw (rollU raw used)) 8) == 0)]), (S ++ [[({ name := { data := #[98, 111, 108, 100] }, val := tag } : Attr), ({ name := tag, val := { data := #[111, 110] } } : Attr)]])) ?_ ?_)
       ·
        refine ⟨by omega, by omega, by omega, by simp; omega, by simp; omega, by simp; omega, ?_⟩
        rw [I4.2.2.2.2.2.2, show n.toNat - i = (n.toNat - (i + 1)) + 1 by omega, chgF, show n.toNat - ((n.toNat - (i + 1)) + 1) = i by omega, hj, ← I8.2]
        unfold setL
        (repeat (first | rw [if_pos (by omega)] | rw [if_neg (by omega)]))
       ·
        ((try dsimp only); omega)
      ·
       (try simp only [beq_iff_eq, beq_eq_false_iff_ne, ne_eq] at h20)
       refine .back [.le (.nL 12 2), .r [(3, X (Xc3 316 [(0, 32)] (fc_roll raw (rollU raw (rollU raw used)) 8 (by omega) (by omega) (by omega)) X0)), (6, X (rowC boolT [((rollV raw (rollU raw (rollU raw used)) 8) == 0)] (Xap 1 boolT 49 C [((rollV raw (rollU raw (rollU raw used)) 8) == 0)]))), (11, X (rowC attrsT [[]] (Xap 1 attrsT 50 S [[]])))], .r [(1, X (Xn ((i : Int) + 1)))]] [(8, 8), (32, 32), (48, 48), (49, 49), (50, 50)] (ih4 ((i + 1), (rollU raw (rollU raw (rollU raw used))), (I ++ [e]), (C ++ [((rollV raw (rollU raw (rollU raw used)) 8) == 0)]), (S ++ [[]])) ?_ ?_)
       ·
        refine ⟨by omega, by omega, by omega, by simp; omega, by simp; omega, by simp; omega, ?_⟩
        rw [I4.2.2.2.2.2.2, show n.toNat - i = (n.toNat - (i + 1)) + 1 by omega, chgF, show n.toNat - ((n.toNat - (i + 1)) + 1) = i by omega, hj, ← I8.2]
        unfold setL
        (repeat (first | rw [if_pos (by omega)] | rw [if_neg (by omega)]))
       ·
        ((try dsimp only); omega)
 ·
  (try simp only [decide_eq_true_eq, decide_eq_false_iff_not, Int.not_lt, Int.not_le] at h4)
  exfalso
  omega
end Go.Ch
end
section
set_option linter.unusedVariables false
set_option linter.unusedSimpArgs false
namespace Go.Ch
open Go Go.Ab

variable {w G : DWr} {us : List DU} {T : Nat}
theorem DI.all : ∀ {us : List DU} {w : DWr}, DI w us T G → DI G [] T G
  | [], w, h => by have := h.done; subst this; exact h
  | .K c :: us, w, h => DI.all h.keep1
  | .A e :: us, w, h => DI.all (DI.elems (e := [e]) h)
  | .C :: us, w, h => DI.all h.cut1
theorem ltr_an (s : ByteArray) (n : Nat) : AN n (lettersL s) := fun x hx => by
  obtain ⟨i, _, rfl⟩ := List.mem_map.1 hx
  simp [ltr]
def probeD : List DStep := [⟨1, 0, [], lettersL { data := #[120] }⟩, ⟨2, 1, [], []⟩, ⟨0, 1, [], []⟩]
theorem probe_dn : DN 400000000000 probeD := by
  intro s hs
  simp only [probeD, List.mem_cons, List.not_mem_nil, or_false] at hs
  rcases hs with rfl | rfl | rfl
  · exact ⟨by simp [lettersL, ByteArray.size], by simp, ltr_an _ _⟩
  · exact ⟨by simp, by simp, fun x hx => by cases hx⟩
  · exact ⟨by simp, by simp, fun x hx => by cases hx⟩
theorem probe_facts : partE (lettersL { data := #[97, 98] }) 0 = 0 ∧ DValid probeD ∧ oldD probeD = ((lettersL { data := #[97, 98] }).length : Int) ∧ sameF (rawD (lettersL { data := #[97, 98] }) probeD) (lettersL { data := #[120, 98] }) = true :=
  ⟨by decide +kernel, checkD_iff.1 (by decide +kernel), by decide +kernel, by decide +kernel⟩
end Go.Ch
end
section
set_option linter.unusedVariables false
set_option linter.unusedSimpArgs false
namespace Go.Ch
open Go Go.Ab

def joinDU : List DU → List DU → List DU
  | .C :: p, q => .C :: joinDU p q
  | p, .A e :: q => .A e :: joinDU p q
  | .K c :: p, .K d :: q => .K (fm botG c d) :: joinDU p q
  | .K _ :: p, .C :: q => .C :: joinDU p q
  | .A e :: p, .K d :: q => .A (chgE d e) :: joinDU p q
  | .A _ :: p, .C :: q => joinDU p q
  | p, [] => p
  | [], _ => []
termination_by p q => p.length + q.length
end Go.Ch
end
section
set_option linter.unusedVariables false
set_option linter.unusedSimpArgs false
namespace Go.Ch
open Go Go.Ab

def pairDU : List DU → List DU → List DU × List DU
  | .A e :: p, q => (.A e :: (pairDU p q).1, .K [] :: (pairDU p q).2)
  | [], .A e :: q => (.K [] :: (pairDU [] q).1, .A e :: (pairDU [] q).2)
  | .K c :: p, .A e :: q => (.K [] :: (pairDU (.K c :: p) q).1, .A e :: (pairDU (.K c :: p) q).2)
  | .C :: p, .A e :: q => (.K [] :: (pairDU (.C :: p) q).1, .A e :: (pairDU (.C :: p) q).2)
  | .K c :: p, .K d :: q => (.K (fm wioG c d) :: (pairDU p q).1, .K d :: (pairDU p q).2)
  | .K _ :: p, .C :: q => ((pairDU p q).1, .C :: (pairDU p q).2)
  | .C :: p, .K _ :: q => (.C :: (pairDU p q).1, (pairDU p q).2)
  | .C :: p, .C :: q => pairDU p q
  | _, [] => ([], [])
  | [], _ => ([], [])
termination_by p q => p.length + q.length
end Go.Ch
namespace Go.Ch
open Go Go.Ab
/-! ### Readers -/
def kindD (l : List DStep) : Int := if l.length = 0 then -1 else (l.getD 0 default).kind
end Go.Ch
end
section
set_option linter.unusedVariables false
set_option linter.unusedSimpArgs false
set_option maxRecDepth 100000
set_option maxHeartbeats 4000000
open Go Go.Proofs Go.Ab
namespace Go.Ch
end Go.Ch
end
section
set_option linter.unusedVariables false
set_option linter.unusedSimpArgs false
set_option maxRecDepth 100000
set_option maxHeartbeats 4000000
open Go Go.Proofs Go.Ab
namespace Go.Ch
def tkE (l : List DStep) (u n : Int) : DStep := if (l.getD 0 default).kind = 1 then ⟨(l.getD 0 default).kind, (l.getD 0 default).n, (l.getD 0 default).attrs, ((l.getD 0 default).elems.take (u + n).toNat).drop u.toNat⟩ else ⟨(l.getD 0 default).kind, n, (l.getD 0 default).attrs, (l.getD 0 default).elems⟩
def tkL (l : List DStep) (u n : Int) : List DStep := if u + n = szD (l.getD 0 default) then l.drop 1 else l
def tkN (l : List DStep) (u n : Int) : Int := if u + n = szD (l.getD 0 default) then 0 else u + n

end Go.Ch
end
section
set_option linter.unusedVariables false
set_option linter.unusedSimpArgs false
namespace Go.Ch
open Go Go.Ab

def ruD (l : List DStep) (u : Int) : List DU := (exD l).drop u.toNat
structure GoodRD (l : List DStep) (u : Int) : Prop where
  ok : ∀ s ∈ l, DOk s
  pos : 0 ≤ u
  lt : 0 < l.length → u < szD (l.getD 0 default)
  nil : l.length = 0 → u = 0
theorem exS_sz {s : DStep} (h : DOk s) : ((exS s).length : Int) = szD s := by
  unfold exS szD
  rcases h with ⟨k, _⟩ | ⟨k, _, _, n1, _⟩
  · rw [if_pos k, if_pos k, List.length_map]
  · have k1 : ¬ s.kind = 1 := by omega
    rw [if_neg k1, if_neg k1]
    split <;> rw [List.length_replicate] <;> omega
theorem ruD0 (l : List DStep) : ruD l 0 = exD l := rfl
theorem ruD_nil {l : List DStep} {u : Int} (h : l.length = 0) : ruD l u = [] := by
  rw [List.length_eq_zero_iff.1 h]; unfold ruD; simp [exD]
theorem tkE_split {l : List DStep} {u n : Int} (ho : DOk (l.getD 0 default)) (hu : 0 ≤ u) (hn : 0 ≤ n) (hl : u + n ≤ szD (l.getD 0 default)) :
    (exS (l.getD 0 default)).drop u.toNat = exS (tkE l u n) ++ (exS (l.getD 0 default)).drop (u + n).toNat := by
  unfold tkE
  generalize l.getD 0 default = s at *
  have hz : (u + n).toNat = u.toNat + n.toNat := by omega
  unfold szD at hl
  by_cases k1 : s.kind = 1
  · rw [if_pos k1] at hl ⊢
    unfold exS
    simp only [if_pos k1]
    rw [← List.map_drop, ← List.map_drop, ← List.map_append]
    congr 1
    conv => lhs; rw [← List.take_append_drop (u + n).toNat s.elems]
    rw [List.drop_append_of_le_length (by rw [List.length_take]; omega)]
  · rw [if_neg k1] at hl ⊢
    unfold exS
    simp only [if_neg k1]
    split
    · rw [List.drop_replicate, List.drop_replicate, List.replicate_append_replicate]; congr 1; omega
    · rw [List.drop_replicate, List.drop_replicate, List.replicate_append_replicate]; congr 1; omega
theorem tkD_ok {l : List DStep} {u n : Int} (h : GoodRD l u) (h0 : 0 < l.length) (hn : 0 ≤ n) (hl : u + n ≤ szD (l.getD 0 default)) :
    GoodRD (tkL l u n) (tkN l u n) ∧ ruD l u = exS (tkE l u n) ++ ruD (tkL l u n) (tkN l u n) := by
  have ho : DOk (l.getD 0 default) := h.ok _ (getD_mem' h0)
  have hz := exS_sz ho
  have hp := h.pos
  have hs := tkE_split ho hp hn hl
  have hd := dropD (l := l) (i := 0) h0
  rw [List.drop_zero] at hd
  have he : exD l = exS (l.getD 0 default) ++ exD (l.drop 1) := by conv => lhs; rw [hd, exD]
  have hlt := h.lt h0
  unfold tkL tkN
  by_cases e : u + n = szD (l.getD 0 default)
  · rw [if_pos e, if_pos e]
    refine ⟨⟨fun s hs => h.ok s (List.mem_of_mem_drop hs), Int.le_refl _, fun h1 => ?_, fun _ => rfl⟩, ?_⟩
    · have := stepD_sz (step_iff.2 (h.ok _ (List.mem_of_mem_drop (getD_mem' h1))))
      omega
    · rw [ruD0]
      unfold ruD
      rw [he, List.drop_append_of_le_length (by omega), hs, List.drop_eq_nil_of_le (show (exS (l.getD 0 default)).length ≤ (u + n).toNat by omega), List.append_nil]
  · rw [if_neg e, if_neg e]
    refine ⟨⟨h.ok, by omega, fun _ => by omega, fun h1 => by omega⟩, ?_⟩
    unfold ruD
    rw [he, List.drop_append_of_le_length (by omega), List.drop_append_of_le_length (by omega), hs, List.append_assoc]
end Go.Ch
end
section
set_option linter.unusedVariables false
set_option linter.unusedSimpArgs false
namespace Go.Ch
open Go Go.Ab

theorem jd_C (n : Nat) (p q : List DU) : joinDU (List.replicate n .C ++ p) q = List.replicate n .C ++ joinDU p q := by
  induction n with
  | zero => rfl
  | succ n ih => rw [List.replicate_succ, List.cons_append, joinDU, ih, List.cons_append]
def NoCD : List DU → Prop
  | .C :: _ => False
  | _ => True
theorem jd_A1 {p : List DU} (hp : NoCD p) (e : Elem) (q : List DU) : joinDU p (.A e :: q) = .A e :: joinDU p q := by
  rw [joinDU]
  intro p' h
  subst h
  exact hp
theorem jd_A (e : List Elem) {p : List DU} (hp : NoCD p) (q : List DU) : joinDU p (e.map .A ++ q) = e.map .A ++ joinDU p q := by
  induction e with
  | nil => rfl
  | cons x e ih => rw [List.map_cons, List.cons_append, jd_A1 hp, ih, List.cons_append]
theorem jd_KK (n : Nat) (c d : List Attr) (p q : List DU) : joinDU (List.replicate n (.K c) ++ p) (List.replicate n (.K d) ++ q) = List.replicate n (.K (fm botG c d)) ++ joinDU p q := by
  induction n with
  | zero => rfl
  | succ n ih => rw [List.replicate_succ, List.replicate_succ, List.replicate_succ, List.cons_append, List.cons_append, joinDU, ih, List.cons_append]
theorem jd_KC (n : Nat) (c : List Attr) (p q : List DU) : joinDU (List.replicate n (.K c) ++ p) (List.replicate n .C ++ q) = List.replicate n .C ++ joinDU p q := by
  induction n with
  | zero => rfl
  | succ n ih => rw [List.replicate_succ, List.replicate_succ, List.cons_append, List.cons_append, joinDU, ih, List.cons_append]
theorem jd_AK (e : List Elem) (d : List Attr) (p q : List DU) : joinDU (e.map .A ++ p) (List.replicate e.length (.K d) ++ q) = (e.map (chgE d)).map .A ++ joinDU p q := by
  induction e with
  | nil => rfl
  | cons x e ih => rw [List.map_cons, List.length_cons, List.replicate_succ, List.cons_append, List.cons_append, joinDU, ih]; rfl
theorem jd_AC (e : List Elem) (p q : List DU) : joinDU (e.map .A ++ p) (List.replicate e.length .C ++ q) = joinDU p q := by
  induction e with
  | nil => rfl
  | cons x e ih => rw [List.map_cons, List.length_cons, List.replicate_succ, List.cons_append, List.cons_append, joinDU, ih]
end Go.Ch
end
section
set_option linter.unusedVariables false
set_option linter.unusedSimpArgs false
namespace Go.Ch
open Go Go.Ab

structure JD (w : DWr) (ps : List DStep) (pu : Int) (qs : List DStep) (qu : Int) (T : Nat) (G : DWr) : Prop where
  gp : GoodRD ps pu
  gq : GoodRD qs qu
  dp : DN 100000000000 ps
  dq : DN 100000000000 qs
  eq : newN (ruD ps pu) = oldN (ruD qs qu)
  di : DI w (joinDU (ruD ps pu) (ruD qs qu)) T G
def jmD (ps : List DStep) (pu : Int) (qs : List DStep) (qu : Int) : Nat := (ruD ps pu).length + (ruD qs qu).length
theorem dn_tk {m : Nat} {l : List DStep} {u n : Int} (h : DN m l) : DN m (tkL l u n) := by
  unfold tkL; split
  · exact fun s hs => h s (List.mem_of_mem_drop hs)
  · exact h
theorem exS_C {l : List DStep} {u n : Int} (k : (l.getD 0 default).kind = 2) : exS (tkE l u n) = List.replicate n.toNat .C := by
  unfold tkE
  rw [if_neg (by omega)]
  unfold exS
  simp only
  rw [if_neg (by omega), if_pos k]
theorem exS_A {l : List DStep} {u n : Int} (k : (l.getD 0 default).kind = 1) : exS (tkE l u n) = (tkE l u n).elems.map .A := by
  unfold tkE
  rw [if_pos k]
  unfold exS
  simp only
  rw [if_pos k]
theorem exS_K {l : List DStep} {u n : Int} (k : (l.getD 0 default).kind = 0) : exS (tkE l u n) = List.replicate n.toNat (.K (l.getD 0 default).attrs) := by
  unfold tkE
  rw [if_neg (by omega)]
  unfold exS
  simp only
  rw [if_neg (by omega), if_neg (by omega)]
section
variable {w : DWr} {ps qs : List DStep} {pu qu : Int} {T : Nat} {G : DWr}
theorem JD.cut (h : JD w ps pu qs qu T G) (h0 : 0 < ps.length) (hk : (ps.getD 0 default).kind = 2) {n : Int} (hn : n = szD (ps.getD 0 default) - pu) :
    JD ⟨w.out, w.add, w.cut + n⟩ (tkL ps pu n) (tkN ps pu n) qs qu T G ∧ jmD (tkL ps pu n) (tkN ps pu n) qs qu < jmD ps pu qs qu := by
  have hl := h.gp.lt h0
  obtain ⟨g, e⟩ := tkD_ok (n := n) h.gp h0 (by omega) (by omega)
  rw [exS_C hk] at e
  have hd := h.di
  have he := h.eq
  rw [e, jd_C] at hd
  rw [e, newN_app, (lens_Cs _).2] at he
  have hd2 := hd.cuts
  rw [show ((n.toNat : Nat) : Int) = n by omega] at hd2
  refine ⟨⟨g, h.gq, dn_tk h.dp, h.dq, by omega, hd2⟩, ?_⟩
  unfold jmD
  rw [e, List.length_append, List.length_replicate]
  omega
theorem noCD {l : List DStep} {u : Int} (h : GoodRD l u) (hk : 0 < l.length → (l.getD 0 default).kind ≠ 2) : NoCD (ruD l u) := by
  by_cases h0 : 0 < l.length
  · have hl := h.lt h0
    have hp := h.pos
    have k2 := hk h0
    obtain ⟨g, e⟩ := tkD_ok (n := 1) h h0 (by decide) (by omega)
    have hs := (stepD_sz (step_iff.2 (h.ok _ (getD_mem' h0)))).1
    rcases hs with k | k | k
    · rw [e, exS_K k]; trivial
    · rw [e, exS_A k]
      have hem : (tkE l u 1).elems.length = 1 := by
        unfold tkE
        rw [if_pos k]
        simp only [List.length_drop, List.length_take]
        have : szD (l.getD 0 default) = (l.getD 0 default).elems.length := by unfold szD; rw [if_pos k]
        omega
      generalize (tkE l u 1).elems = z at hem
      cases z with
      | nil => simp at hem
      | cons x r => trivial
    · exact absurd k k2
  · rw [ruD_nil (by omega)]; trivial
theorem JD.add (h : JD w ps pu qs qu T G) (hp : 0 < ps.length → (ps.getD 0 default).kind ≠ 2) (h0 : 0 < qs.length) (hk : (qs.getD 0 default).kind = 1) {n : Int} (hn : n = szD (qs.getD 0 default) - qu) :
    JD ⟨w.out, w.add ++ (tkE qs qu n).elems, w.cut⟩ ps pu (tkL qs qu n) (tkN qs qu n) T G := by
  have hl := h.gq.lt h0
  obtain ⟨g, e⟩ := tkD_ok (n := n) h.gq h0 (by omega) (by omega)
  rw [exS_A hk] at e
  have hd := h.di
  have he := h.eq
  rw [e, jd_A _ (noCD h.gp hp)] at hd
  rw [e, oldN_app, (lens_As _).1] at he
  exact ⟨h.gp, g, h.dp, dn_tk h.dq, by omega, hd.elems⟩
theorem tkE_len {l : List DStep} {u n : Int} (k : (l.getD 0 default).kind = 1) (hu : 0 ≤ u) (hn : 0 ≤ n) (hl : u + n ≤ szD (l.getD 0 default)) : (tkE l u n).elems.length = n.toNat := by
  unfold tkE
  rw [if_pos k]
  simp only [List.length_drop, List.length_take]
  have : szD (l.getD 0 default) = (l.getD 0 default).elems.length := by unfold szD; rw [if_pos k]
  omega
theorem JD.both (h : JD w ps pu qs qu T G) (a : 0 < ps.length) (b : 0 < qs.length) (kp : (ps.getD 0 default).kind ≠ 2) (kq : (qs.getD 0 default).kind ≠ 1) {n : Int} (hn : n = min (szD (ps.getD 0 default) - pu) (szD (qs.getD 0 default) - qu)) :
    (((ps.getD 0 default).kind = 0 ∧ (qs.getD 0 default).kind = 0 → JD ⟨keepD (flushD w) n (fm botG (ps.getD 0 default).attrs (qs.getD 0 default).attrs), [], 0⟩ (tkL ps pu n) (tkN ps pu n) (tkL qs qu n) (tkN qs qu n) T G) ∧
    ((ps.getD 0 default).kind = 0 ∧ (qs.getD 0 default).kind = 2 → JD ⟨w.out, w.add, w.cut + n⟩ (tkL ps pu n) (tkN ps pu n) (tkL qs qu n) (tkN qs qu n) T G) ∧
    ((ps.getD 0 default).kind = 1 ∧ (qs.getD 0 default).kind = 0 → JD ⟨w.out, w.add ++ (tkE ps pu n).elems.map (chgE (qs.getD 0 default).attrs), w.cut⟩ (tkL ps pu n) (tkN ps pu n) (tkL qs qu n) (tkN qs qu n) T G) ∧
    ((ps.getD 0 default).kind = 1 ∧ (qs.getD 0 default).kind = 2 → JD w (tkL ps pu n) (tkN ps pu n) (tkL qs qu n) (tkN qs qu n) T G)) ∧
    jmD (tkL ps pu n) (tkN ps pu n) (tkL qs qu n) (tkN qs qu n) < jmD ps pu qs qu := by
  have l1 := h.gp.lt a
  have l2 := h.gq.lt b
  have p1 := h.gp.pos
  have p2 := h.gq.pos
  obtain ⟨g1, e1⟩ := tkD_ok (n := n) h.gp a (by omega) (by omega)
  obtain ⟨g2, e2⟩ := tkD_ok (n := n) h.gq b (by omega) (by omega)
  have hd := h.di
  have he := h.eq
  have k1 := (stepD_sz (step_iff.2 (h.gp.ok _ (getD_mem' a)))).1
  have k2 := (stepD_sz (step_iff.2 (h.gq.ok _ (getD_mem' b)))).1
  refine ⟨⟨fun k => ?_, fun k => ?_, fun k => ?_, fun k => ?_⟩, ?_⟩
  · rw [e1, e2, exS_K k.1, exS_K k.2] at hd he
    rw [jd_KK, show n.toNat = (n.toNat - 1) + 1 by omega] at hd
    rw [newN_app, oldN_app, (lens_Ks _ _).1, (lens_Ks _ _).2] at he
    have hd2 := hd.keep
    rw [show (((n.toNat - 1 + 1 : Nat)) : Int) = n by omega] at hd2
    exact ⟨g1, g2, dn_tk h.dp, dn_tk h.dq, by omega, hd2⟩
  · rw [e1, e2, exS_K k.1, exS_C k.2] at hd he
    rw [jd_KC] at hd
    rw [newN_app, oldN_app, (lens_Cs _).1, (lens_Ks _ _).2] at he
    have hd2 := hd.cuts
    rw [show ((n.toNat : Nat) : Int) = n by omega] at hd2
    exact ⟨g1, g2, dn_tk h.dp, dn_tk h.dq, by omega, hd2⟩
  · have hz := tkE_len (n := n) k.1 p1 (by omega) (by omega)
    rw [e1, e2, exS_A k.1, exS_K k.2] at hd he
    rw [newN_app, oldN_app, (lens_Ks _ _).1, (lens_As _).2] at he
    rw [← hz, jd_AK] at hd
    exact ⟨g1, g2, dn_tk h.dp, dn_tk h.dq, by omega, hd.elems⟩
  · have hz := tkE_len (n := n) k.1 p1 (by omega) (by omega)
    rw [e1, e2, exS_A k.1, exS_C k.2] at hd he
    rw [newN_app, oldN_app, (lens_Cs _).1, (lens_As _).2] at he
    rw [← hz, jd_AC] at hd
    exact ⟨g1, g2, dn_tk h.dp, dn_tk h.dq, by omega, hd⟩
  · have hs := exS_sz (h.gp.ok _ (getD_mem' a))
    have hl := congrArg List.length (tkE_split (n := n) (h.gp.ok _ (getD_mem' a)) p1 (by omega) (by omega))
    simp only [List.length_append, List.length_drop] at hl
    unfold jmD
    rw [e1, e2, List.length_append, List.length_append]
    omega
end
end Go.Ch
end
section
set_option linter.unusedVariables false
set_option linter.unusedSimpArgs false
namespace Go.Ch
open Go Go.Ab

def joinD (a b : List DStep) : List DStep := doneD (joinDU (exD a) (exD b))
theorem rd_one {l : List DStep} {u : Int} (h : GoodRD l u) (h0 : 0 < l.length) : ((l.getD 0 default).kind ≠ 1 → 1 ≤ oldN (ruD l u)) ∧ ((l.getD 0 default).kind ≠ 2 → 1 ≤ newN (ruD l u)) := by
  have hl := h.lt h0
  have hp := h.pos
  obtain ⟨g, e⟩ := tkD_ok (n := 1) h h0 (by decide) (by omega)
  have hs := (stepD_sz (step_iff.2 (h.ok _ (getD_mem' h0)))).1
  rcases hs with k | k | k
  · rw [e, exS_K k, oldN_app, newN_app, (lens_Ks _ _).1, (lens_Ks _ _).2]; constructor <;> intro _ <;> omega
  · have hz := tkE_len (n := 1) k hp (by omega) (by omega)
    rw [e, exS_A k, oldN_app, newN_app, (lens_As _).1, (lens_As _).2, hz]; constructor <;> intro _ <;> omega
  · rw [e, exS_C k, oldN_app, newN_app, (lens_Cs _).1, (lens_Cs _).2]; constructor <;> intro _ <;> omega
variable {w : DWr} {ps qs : List DStep} {pu qu : Int} {T : Nat} {G : DWr}
theorem JD.two (h : JD w ps pu qs qu T G) (h0 : 0 < ps.length ∨ 0 < qs.length) (hp : 0 < ps.length → (ps.getD 0 default).kind ≠ 2) (hq : 0 < qs.length → (qs.getD 0 default).kind ≠ 1) : 0 < ps.length ∧ 0 < qs.length := by
  have he := h.eq
  rcases Nat.eq_zero_or_pos ps.length with a | a
  · rcases Nat.eq_zero_or_pos qs.length with b | b
    · omega
    · have := (rd_one h.gq b).1 (hq b)
      rw [ruD_nil a] at he
      simp only [newN] at he
      omega
  · rcases Nat.eq_zero_or_pos qs.length with b | b
    · have := (rd_one h.gp a).2 (hp a)
      rw [ruD_nil b] at he
      simp only [oldN] at he
      omega
    · exact ⟨a, b⟩
theorem JD.done (h : JD w ps pu qs qu T G) (a : ps.length = 0) (b : qs.length = 0) : w = G := by
  have := h.di
  rw [ruD_nil a, ruD_nil b] at this
  exact DI.done (by simpa [joinDU] using this)
end Go.Ch
end
section
set_option linter.unusedVariables false
set_option linter.unusedSimpArgs false
namespace Go.Ch
open Go Go.Ab

def NoAD : List DU → Prop
  | .A _ :: _ => False
  | _ => True
theorem pd_KK (n : Nat) (c d : List Attr) (p q : List DU) : pairDU (List.replicate n (.K c) ++ p) (List.replicate n (.K d) ++ q) = (List.replicate n (.K (fm wioG c d)) ++ (pairDU p q).1, List.replicate n (.K d) ++ (pairDU p q).2) := by
  induction n with
  | zero => rfl
  | succ n ih => rw [List.replicate_succ, List.replicate_succ, List.replicate_succ, List.cons_append, List.cons_append, pairDU, ih]; rfl
theorem pd_KC (n : Nat) (c : List Attr) (p q : List DU) : pairDU (List.replicate n (.K c) ++ p) (List.replicate n .C ++ q) = ((pairDU p q).1, List.replicate n .C ++ (pairDU p q).2) := by
  induction n with
  | zero => rfl
  | succ n ih => rw [List.replicate_succ, List.replicate_succ, List.cons_append, List.cons_append, pairDU, ih]; rfl
theorem pd_CK (n : Nat) (c : List Attr) (p q : List DU) : pairDU (List.replicate n .C ++ p) (List.replicate n (.K c) ++ q) = (List.replicate n .C ++ (pairDU p q).1, (pairDU p q).2) := by
  induction n with
  | zero => rfl
  | succ n ih => rw [List.replicate_succ, List.replicate_succ, List.cons_append, List.cons_append, pairDU, ih]; rfl
theorem pd_CC (n : Nat) (p q : List DU) : pairDU (List.replicate n .C ++ p) (List.replicate n .C ++ q) = pairDU p q := by
  induction n with
  | zero => rfl
  | succ n ih => rw [List.replicate_succ, List.cons_append, List.cons_append, pairDU, ih]
def pairD1 (a b : List DStep) : List DStep := doneD (pairDU (exD a) (exD b)).1
def pairD2 (a b : List DStep) : List DStep := doneD (pairDU (exD a) (exD b)).2
structure PD (wx wy : DWr) (ps : List DStep) (pu : Int) (qs : List DStep) (qu : Int) (T U : Nat) (G H : DWr) : Prop where
  gp : GoodRD ps pu
  gq : GoodRD qs qu
  dp : DN 100000000000 ps
  dq : DN 100000000000 qs
  eq : oldN (ruD ps pu) = oldN (ruD qs qu)
  dx : DI wx (pairDU (ruD ps pu) (ruD qs qu)).1 T G
  dy : DI wy (pairDU (ruD ps pu) (ruD qs qu)).2 U H
section
variable {wx wy : DWr} {ps qs : List DStep} {pu qu : Int} {T U : Nat} {G H : DWr}
theorem PD.both (h : PD wx wy ps pu qs qu T U G H) (a : 0 < ps.length) (b : 0 < qs.length) (kp : (ps.getD 0 default).kind ≠ 1) (kq : (qs.getD 0 default).kind ≠ 1) {n : Int} (hn : n = min (szD (ps.getD 0 default) - pu) (szD (qs.getD 0 default) - qu)) :
    (((ps.getD 0 default).kind = 0 ∧ (qs.getD 0 default).kind = 0 → PD ⟨keepD (flushD wx) n (fm wioG (ps.getD 0 default).attrs (qs.getD 0 default).attrs), [], 0⟩ ⟨keepD (flushD wy) n (qs.getD 0 default).attrs, [], 0⟩ (tkL ps pu n) (tkN ps pu n) (tkL qs qu n) (tkN qs qu n) T U G H) ∧
    ((ps.getD 0 default).kind = 0 ∧ (qs.getD 0 default).kind = 2 → PD wx ⟨wy.out, wy.add, wy.cut + n⟩ (tkL ps pu n) (tkN ps pu n) (tkL qs qu n) (tkN qs qu n) T U G H) ∧
    ((ps.getD 0 default).kind = 2 ∧ (qs.getD 0 default).kind = 0 → PD ⟨wx.out, wx.add, wx.cut + n⟩ wy (tkL ps pu n) (tkN ps pu n) (tkL qs qu n) (tkN qs qu n) T U G H) ∧
    ((ps.getD 0 default).kind = 2 ∧ (qs.getD 0 default).kind = 2 → PD wx wy (tkL ps pu n) (tkN ps pu n) (tkL qs qu n) (tkN qs qu n) T U G H)) ∧
    jmD (tkL ps pu n) (tkN ps pu n) (tkL qs qu n) (tkN qs qu n) < jmD ps pu qs qu := by
  have l1 := h.gp.lt a
  have l2 := h.gq.lt b
  have p1 := h.gp.pos
  have p2 := h.gq.pos
  obtain ⟨g1, e1⟩ := tkD_ok (n := n) h.gp a (by omega) (by omega)
  obtain ⟨g2, e2⟩ := tkD_ok (n := n) h.gq b (by omega) (by omega)
  have hx := h.dx
  have hy := h.dy
  have he := h.eq
  refine ⟨⟨fun k => ?_, fun k => ?_, fun k => ?_, fun k => ?_⟩, ?_⟩
  · rw [e1, e2, exS_K k.1, exS_K k.2] at hx hy he
    rw [pd_KK, show n.toNat = (n.toNat - 1) + 1 by omega] at hx hy
    rw [oldN_app, oldN_app, (lens_Ks _ _).1, (lens_Ks _ _).1] at he
    have hx2 := hx.keep
    have hy2 := hy.keep
    rw [show (((n.toNat - 1 + 1 : Nat)) : Int) = n by omega] at hx2 hy2
    exact ⟨g1, g2, dn_tk h.dp, dn_tk h.dq, by omega, hx2, hy2⟩
  · rw [e1, e2, exS_K k.1, exS_C k.2] at hx hy he
    rw [pd_KC] at hx hy
    rw [oldN_app, oldN_app, (lens_Cs _).1, (lens_Ks _ _).1] at he
    have hy2 := hy.cuts
    rw [show ((n.toNat : Nat) : Int) = n by omega] at hy2
    exact ⟨g1, g2, dn_tk h.dp, dn_tk h.dq, by omega, hx, hy2⟩
  · rw [e1, e2, exS_C k.1, exS_K k.2] at hx hy he
    rw [pd_CK] at hx hy
    rw [oldN_app, oldN_app, (lens_Cs _).1, (lens_Ks _ _).1] at he
    have hx2 := hx.cuts
    rw [show ((n.toNat : Nat) : Int) = n by omega] at hx2
    exact ⟨g1, g2, dn_tk h.dp, dn_tk h.dq, by omega, hx2, hy⟩
  · rw [e1, e2, exS_C k.1, exS_C k.2] at hx hy he
    rw [pd_CC] at hx hy
    rw [oldN_app, oldN_app, (lens_Cs _).1] at he
    exact ⟨g1, g2, dn_tk h.dp, dn_tk h.dq, by omega, hx, hy⟩
  · have hs := exS_sz (h.gp.ok _ (getD_mem' a))
    have hl := congrArg List.length (tkE_split (n := n) (h.gp.ok _ (getD_mem' a)) p1 (by omega) (by omega))
    simp only [List.length_append, List.length_drop] at hl
    unfold jmD
    rw [e1, e2, List.length_append, List.length_append]
    omega
theorem PD.two (h : PD wx wy ps pu qs qu T U G H) (h0 : 0 < ps.length ∨ 0 < qs.length) (hp : 0 < ps.length → (ps.getD 0 default).kind ≠ 1) (hq : 0 < qs.length → (qs.getD 0 default).kind ≠ 1) : 0 < ps.length ∧ 0 < qs.length := by
  have he := h.eq
  rcases Nat.eq_zero_or_pos ps.length with a | a
  · rcases Nat.eq_zero_or_pos qs.length with b | b
    · omega
    · have := (rd_one h.gq b).1 (hq b)
      rw [ruD_nil a] at he
      simp only [oldN] at he
      omega
  · rcases Nat.eq_zero_or_pos qs.length with b | b
    · have := (rd_one h.gp a).1 (hp a)
      rw [ruD_nil b] at he
      simp only [oldN] at he
      omega
    · exact ⟨a, b⟩
theorem PD.done (h : PD wx wy ps pu qs qu T U G H) (a : ps.length = 0) (b : qs.length = 0) : wx = G ∧ wy = H := by
  have hx := h.dx
  have hy := h.dy
  rw [ruD_nil a, ruD_nil b] at hx hy
  exact ⟨DI.done (by simpa [pairDU] using hx), DI.done (by simpa [pairDU] using hy)⟩
end
end Go.Ch
end
section
set_option linter.unusedVariables false
set_option linter.unusedSimpArgs false
namespace Go.Ch
open Go Go.Ab

def lenE (s : DStep) : Int := if (s.kind = 1 ∧ s.elems.length = 0 ∧ stepD s = 11) ∨ (s.kind ≠ 1 ∧ s.n = 0 ∧ stepD s = 2) then chkA true s.attrs 0 else stepD s
def tdW (w : DWr) (s : DStep) : DWr :=
  if s.kind = 0 then (if s.n = 0 then w else ⟨keepD (flushD w) s.n s.attrs, [], 0⟩) else if s.kind = 1 then ⟨w.out, w.add ++ s.elems, w.cut⟩ else ⟨w.out, w.add, w.cut + s.n⟩
def tdBad (w : DWr) (s : DStep) : Prop := s.kind ≠ 0 ∧ s.kind ≠ 1 ∧ 2147483647 < w.cut + s.n
instance (w : DWr) (s : DStep) : Decidable (tdBad w s) := by unfold tdBad; infer_instance
def tidyG (w : DWr) : List DStep → List DStep × Int
  | [] => if checkD (flushD w) = 0 then (flushD w, 0) else ([], 3)
  | s :: l => if lenE s ≠ 0 then ([], lenE s) else if tdBad w s then ([], 3) else tidyG (tdW w s) l
def tidyL (d : List DStep) : List DStep := (tidyG ⟨[], [], 0⟩ d).1
def tidyE (d : List DStep) : Int := (tidyG ⟨[], [], 0⟩ d).2
theorem tidyG_valid : ∀ (d : List DStep) (w : DWr), (tidyG w d).2 = 0 → DValid (tidyG w d).1
  | [], w, h => by
    unfold tidyG at h ⊢
    split at h
    · rename_i hc; rw [if_pos hc]; exact checkD_iff.1 hc
    · cases h
  | s :: l, w, h => by
    unfold tidyG at h ⊢
    split at h
    · rename_i he; exact absurd h he
    · rename_i he
      rw [if_neg he]
      split at h
      · cases h
      · rename_i hb; rw [if_neg hb]; exact tidyG_valid l _ h
theorem lenE_ok {s : DStep} (h : lenE s = 0) : (s.kind = 0 ∨ s.kind = 1 ∨ s.kind = 2) ∧ 0 ≤ s.n ∧ s.n ≤ 2147483647 := by
  unfold lenE at h
  split at h
  · rename_i hc
    rcases hc with ⟨k, e, q⟩ | ⟨k, n0, q⟩
    · unfold stepD at q
      rw [if_pos k] at q
      split at q
      · cases q
      · rename_i hh; exact ⟨.inr (.inl k), by omega, by omega⟩
    · unfold stepD at q
      rw [if_neg k] at q
      split at q
      · rename_i hk; exact ⟨by omega, by omega, by omega⟩
      · cases q
  · obtain ⟨a, b, c, _⟩ := stepD_sz h; exact ⟨a, b, c⟩
/-- What holds of all steps and elements that come in holds of all that go out. -/
theorem keep_all {P : List Attr → Prop} {R : Elem → Prop} {l : List DStep} {n : Int} {c : List Attr} (h : ∀ s ∈ l, P s.attrs ∧ ∀ x ∈ s.elems, R x) (hc : P c) : ∀ s ∈ keepD l n c, P s.attrs ∧ ∀ x ∈ s.elems, R x := by
  unfold keepD
  split
  · rename_i hl
    intro s hs
    rcases List.mem_or_eq_of_mem_set hs with hs | rfl
    · exact h s hs
    · exact h (l.getD (l.length - 1) default) (getD_mem' (by omega))
  · intro s hs
    rcases List.mem_append.1 hs with hs | hs
    · exact h s hs
    · rw [List.mem_singleton] at hs; subst hs; exact ⟨hc, fun x hx => by cases hx⟩
theorem flush_all {P : List Attr → Prop} {R : Elem → Prop} {w : DWr} (h0 : P []) (h : ∀ s ∈ w.out, P s.attrs ∧ ∀ x ∈ s.elems, R x) (ha : ∀ x ∈ w.add, R x) : ∀ s ∈ flushD w, P s.attrs ∧ ∀ x ∈ s.elems, R x := by
  unfold flushD
  intro s hs
  rcases List.mem_append.1 hs with hs | hs
  · rcases List.mem_append.1 hs with hs | hs
    · exact h s hs
    · split at hs
      · rw [List.mem_singleton] at hs; subst hs; exact ⟨h0, ha⟩
      · cases hs
  · split at hs
    · rw [List.mem_singleton] at hs; subst hs; exact ⟨h0, fun x hx => by cases hx⟩
    · cases hs
theorem tdW_all {P : List Attr → Prop} {R : Elem → Prop} {w : DWr} {s : DStep} (h0 : P []) (h : ∀ s ∈ w.out, P s.attrs ∧ ∀ x ∈ s.elems, R x) (ha : ∀ x ∈ w.add, R x) (hs : P s.attrs ∧ ∀ x ∈ s.elems, R x) :
    (∀ t ∈ (tdW w s).out, P t.attrs ∧ ∀ x ∈ t.elems, R x) ∧ ∀ x ∈ (tdW w s).add, R x := by
  unfold tdW
  split
  · split
    · exact ⟨h, ha⟩
    · exact ⟨keep_all (flush_all h0 h ha) hs.1, fun x hx => by cases hx⟩
  · split
    · exact ⟨h, fun x hx => by rcases List.mem_append.1 hx with hx | hx; exact ha x hx; exact hs.2 x hx⟩
    · exact ⟨h, ha⟩
theorem tidyG_all {P : List Attr → Prop} {R : Elem → Prop} (h0 : P []) : ∀ (d : List DStep) (w : DWr), (∀ s ∈ w.out, P s.attrs ∧ ∀ x ∈ s.elems, R x) → (∀ x ∈ w.add, R x) → (∀ s ∈ d, P s.attrs ∧ ∀ x ∈ s.elems, R x) →
    ∀ s ∈ (tidyG w d).1, P s.attrs ∧ ∀ x ∈ s.elems, R x
  | [], w, h, ha, _ => by
    unfold tidyG
    split
    · exact flush_all h0 h ha
    · intro s hs; cases hs
  | s :: l, w, h, ha, hd => by
    unfold tidyG
    split
    · intro s hs; cases hs
    · split
      · intro s hs; cases hs
      · obtain ⟨q1, q2⟩ := tdW_all h0 h ha (hd s (by simp))
        exact tidyG_all h0 l _ q1 q2 (fun t ht => hd t (by simp [ht]))
theorem lenE_step {s : DStep} (h : stepD s = 0) : lenE s = 0 := by
  unfold lenE
  rw [if_neg]
  · exact h
  · rintro (⟨_, _, q⟩ | ⟨_, _, q⟩) <;> rw [h] at q <;> cases q
/-! ### A delta stays as it is -/
theorem flush_last {w : DWr} (h : ∀ t, (flushD w).getLast? = some t → t.kind ≠ 1 ∧ t.kind ≠ 2) : w.add = [] ∧ ¬ 0 < w.cut := by
  unfold flushD at h
  by_cases hc : 0 < w.cut
  · rw [if_pos hc] at h
    have := h ⟨2, w.cut, [], []⟩ (by simp)
    exact absurd rfl this.2
  · rw [if_neg hc, List.append_nil] at h
    by_cases ha : 0 < w.add.length
    · rw [if_pos ha] at h
      have := h ⟨1, 0, [], w.add⟩ (by simp)
      exact absurd rfl this.1
    · exact ⟨List.length_eq_zero_iff.1 (by omega), hc⟩
theorem flush_cut {w : DWr} (hc : 0 ≤ w.cut) (h : ∀ t, (flushD w).getLast? = some t → t.kind ≠ 2) : w.cut = 0 := by
  unfold flushD at h
  by_cases h1 : 0 < w.cut
  · rw [if_pos h1] at h
    have := h ⟨2, w.cut, [], []⟩ (by simp)
    exact absurd rfl this
  · omega
theorem keepD_new {l : List DStep} {n : Int} {c : List Attr} (h : ∀ t, l.getLast? = some t → ¬ (t.kind = 0 ∧ sameL t.attrs c = true)) : keepD l n c = l ++ [⟨0, n, c, []⟩] := by
  unfold keepD
  rw [if_neg]
  rintro ⟨h1, h2, h3⟩
  refine h (l.getD (l.length - 1) default) ?_ ⟨h2, h3⟩
  rw [List.getLast?_eq_getElem?, List.getD, List.getElem?_eq_getElem (by omega)]
  rfl
/-- One step of a delta. -/
theorem tdW_next {w : DWr} {s : DStep} (hc : 0 ≤ w.cut) (hs : DOk s) (ha : ∀ t, (flushD w).getLast? = some t → adjD t s = false) : flushD (tdW w s) = flushD w ++ [s] ∧ 0 ≤ (tdW w s).cut ∧ (s.kind = 2 → w.cut = 0) := by
  have hno : ∀ t, (flushD w).getLast? = some t → ¬ ((t.kind = s.kind ∧ (¬ s.kind = 0 ∨ sameL t.attrs s.attrs = true)) ∨ (t.kind = 2 ∧ s.kind = 1)) := fun t ht q => by
    have := ha t ht
    rw [adjD_yes.2 q] at this
    cases this
  rcases hs with ⟨k, n, a, e, q⟩ | ⟨k, e, b, n1, n2, v⟩
  · obtain ⟨w1, w2⟩ := flush_last (w := w) (fun t ht => ⟨fun h => hno t ht (.inl ⟨by omega, .inl (by omega)⟩), fun h => hno t ht (.inr ⟨h, k⟩)⟩)
    have hpos : 0 < s.elems.length := List.length_pos_iff.2 e
    have hS : s = ⟨1, 0, [], s.elems⟩ := by obtain ⟨k', n', a', e'⟩ := s; simp only at k n a; subst k; subst n; subst a; rfl
    unfold tdW
    rw [if_neg (by omega), if_pos k]
    refine ⟨?_, hc, fun h => by omega⟩
    unfold flushD
    simp only [w1, List.nil_append, if_neg w2, List.append_nil]
    rw [if_pos hpos, if_neg (by simp), List.append_nil, ← hS]
  · rcases k with k | k
    · have hS : s = ⟨0, s.n, s.attrs, []⟩ := by obtain ⟨k', n', a', e'⟩ := s; simp only at k e; subst k; subst e; rfl
      unfold tdW
      rw [if_pos k, if_neg (by omega)]
      refine ⟨?_, Int.le_refl _, fun h => by omega⟩
      have : flushD ⟨keepD (flushD w) s.n s.attrs, [], 0⟩ = keepD (flushD w) s.n s.attrs := by unfold flushD; simp
      rw [this, keepD_new (fun t ht q => hno t ht (.inl ⟨by omega, .inr q.2⟩)), ← hS]
    · have hw := flush_cut hc (fun t ht h => hno t ht (.inl ⟨by omega, .inl (by omega)⟩))
      have hS : s = ⟨2, s.n, [], []⟩ := by
        have := b k
        obtain ⟨k', n', a', e'⟩ := s; simp only at k e this; subst k; subst e; subst this; rfl
      unfold tdW
      rw [if_neg (by omega), if_neg (by omega)]
      refine ⟨?_, by simp only; omega, fun _ => hw⟩
      unfold flushD
      simp only [hw]
      rw [if_pos (show (0:Int) < 0 + s.n by omega), if_neg (show ¬ (0:Int) < 0 by omega), List.append_nil, Int.zero_add, ← hS]
theorem adj_at {p q : List DStep} {t s : DStep} : DForm (p ++ s :: q) → p.getLast? = some t → adjD t s = false := by
  induction p with
  | nil => intro _ h; simp at h
  | cons x p ih =>
    intro hf h
    cases p with
    | nil =>
      simp at h; subst h
      exact hf.2.1
    | cons y p =>
      rw [List.getLast?_cons_cons] at h
      exact ih hf.2.2 h
/-- The rest of a delta, whatever is ahead of it. -/
theorem tidyG_run : ∀ (q : List DStep) (w : DWr), 0 ≤ w.cut → DForm (flushD w ++ q) → checkD (flushD w ++ q) = 0 → tidyG w q = (flushD w ++ q, 0)
  | [], w, hc, hf, hk => by rw [List.append_nil] at hk ⊢; unfold tidyG; rw [if_pos hk]
  | s :: q, w, hc, hf, hk => by
    have hs : DOk s := hf.all s (by simp)
    obtain ⟨n1, n2, n3⟩ := tdW_next hc hs (fun t ht => adj_at hf ht)
    unfold tidyG
    rw [if_neg (by rw [lenE_step (step_iff.2 hs)]; decide), if_neg]
    · have e : flushD (tdW w s) ++ q = flushD w ++ s :: q := by rw [n1]; simp
      rw [tidyG_run q _ n2 (by rw [e]; exact hf) (by rw [e]; exact hk), e]
    · rintro ⟨k0, k1, hb⟩
      have hz := stepD_sz (step_iff.2 hs)
      have := n3 (by omega)
      omega
theorem tidy_same {d : List DStep} (h : DValid d) : tidyL d = d ∧ tidyE d = 0 := by
  have := tidyG_run d ⟨[], [], 0⟩ (Int.le_refl _) (by simpa [flushD] using h.1) (by simpa [flushD] using checkD_iff.2 h)
  unfold tidyL tidyE
  rw [this]
  exact ⟨by simp [flushD], rfl⟩
/-! ### Also in parts -/
def spl (s : DStep) : List DStep := List.replicate s.n.toNat ⟨s.kind, 1, s.attrs, []⟩ ++ s.elems.flatMap fun e => [⟨1, 0, [], [e]⟩, ⟨0, 0, [], []⟩]
def splitL (d : List DStep) : List DStep := d.flatMap spl
theorem lenE_keep0 : lenE ⟨0, 0, [], []⟩ = 0 := by
  unfold lenE
  rw [if_pos]
  · exact (chk_iff (e := true) (l := [])).2 vg_nil
  · exact .inr ⟨by decide, rfl, by unfold stepD; decide⟩
theorem tidyG_cons {w : DWr} {s : DStep} {l : List DStep} (h : lenE s = 0) (hb : ¬ tdBad w s) : tidyG w (s :: l) = tidyG (tdW w s) l := by
  conv => lhs; unfold tidyG
  rw [if_neg (by rw [h]; decide), if_neg hb]
theorem flush_flat (l : List DStep) : flushD ⟨l, [], 0⟩ = l := by unfold flushD; simp
theorem split_keep {c : List Attr} (hc : VG true c) (rest : List DStep) : ∀ (n : Nat) (w : DWr), tidyG w (List.replicate (n + 1) ⟨0, 1, c, []⟩ ++ rest) = tidyG ⟨keepD (flushD w) ((n + 1 : Nat) : Int) c, [], 0⟩ rest
  | n, w => by
    have ho : DOk ⟨0, 1, c, []⟩ := .inr ⟨.inl rfl, rfl, fun h => absurd (show (0:Int) = 2 from h) (by decide), Int.le_refl 1, (by decide : (1:Int) ≤ 2147483647), hc⟩
    rw [List.replicate_succ, List.cons_append, tidyG_cons (lenE_step (step_iff.2 ho)) (fun h => h.1 rfl)]
    have e : tdW w ⟨0, 1, c, []⟩ = ⟨keepD (flushD w) 1 c, [], 0⟩ := by unfold tdW; simp
    rw [e]
    cases n with
    | zero => rfl
    | succ n =>
      rw [split_keep hc rest n _, flush_flat, keepD_keepD, show (1 : Int) + ((n + 1 : Nat) : Int) = ((n + 1 + 1 : Nat) : Int) by omega]
theorem split_cut (rest : List DStep) : ∀ (n : Nat) (w : DWr), w.cut + n ≤ 2147483647 → tidyG w (List.replicate n ⟨2, 1, [], []⟩ ++ rest) = tidyG ⟨w.out, w.add, w.cut + n⟩ rest
  | 0, w, h => by simp
  | n + 1, w, h => by
    have ho : DOk ⟨2, 1, [], []⟩ := .inr ⟨.inr rfl, rfl, fun _ => rfl, Int.le_refl 1, (by decide : (1:Int) ≤ 2147483647), vg_nil⟩
    rw [List.replicate_succ, List.cons_append, tidyG_cons (lenE_step (step_iff.2 ho)) (fun hb => by have := hb.2.2; simp only at this; omega)]
    have e : tdW w ⟨2, 1, [], []⟩ = ⟨w.out, w.add, w.cut + 1⟩ := by unfold tdW; simp
    rw [e, split_cut rest n _ (by simp only; omega), show w.cut + 1 + (n : Int) = w.cut + ((n + 1 : Nat) : Int) by omega]
theorem split_add (rest : List DStep) : ∀ (l : List Elem) (w : DWr), (∀ x ∈ l, elemE x = 0) → tidyG w (l.flatMap (fun e => [⟨1, 0, [], [e]⟩, ⟨0, 0, [], []⟩]) ++ rest) = tidyG ⟨w.out, w.add ++ l, w.cut⟩ rest
  | [], w, h => by simp
  | x :: l, w, h => by
    have ho : DOk ⟨1, 0, [], [x]⟩ := .inl ⟨rfl, rfl, rfl, by simp, fun y hy => by rw [List.mem_singleton] at hy; subst hy; exact h _ (by simp)⟩
    rw [List.flatMap_cons, List.append_assoc, List.cons_append, List.cons_append, List.nil_append, tidyG_cons (lenE_step (step_iff.2 ho)) (fun h => h.2.1 rfl)]
    have e : tdW w ⟨1, 0, [], [x]⟩ = ⟨w.out, w.add ++ [x], w.cut⟩ := by unfold tdW; simp
    rw [e, tidyG_cons lenE_keep0 (fun h => h.1 rfl)]
    have e2 : tdW ⟨w.out, w.add ++ [x], w.cut⟩ ⟨0, 0, [], []⟩ = ⟨w.out, w.add ++ [x], w.cut⟩ := by unfold tdW; simp
    rw [e2, split_add rest l _ (fun y hy => h y (by simp [hy]))]
    simp
theorem spl_run {w : DWr} {s : DStep} (hs : DOk s) (hb : ¬ tdBad w s) (rest : List DStep) : tidyG w (spl s ++ rest) = tidyG (tdW w s) rest := by
  unfold spl
  rw [List.append_assoc]
  rcases hs with ⟨k, n, a, e, q⟩ | ⟨k, e, b, n1, n2, v⟩
  · rw [n]
    simp only [Int.toNat_zero, List.replicate_zero, List.nil_append]
    rw [split_add rest _ _ q]
    unfold tdW
    rw [if_neg (by omega), if_pos k]
  · rw [e]
    simp only [List.flatMap_nil, List.nil_append]
    obtain ⟨m, hm⟩ : ∃ m, s.n.toNat = m + 1 := ⟨s.n.toNat - 1, by omega⟩
    rcases k with k | k
    · rw [k, hm, split_keep v]
      unfold tdW
      rw [if_pos k, if_neg (by omega), show ((m + 1 : Nat) : Int) = s.n by omega]
    · rw [k, b k, split_cut]
      · unfold tdW
        rw [if_neg (by omega), if_neg (by omega), show ((s.n.toNat : Nat) : Int) = s.n by omega]
      · unfold tdBad at hb
        omega
theorem split_run : ∀ (q : List DStep) (w : DWr), 0 ≤ w.cut → DForm (flushD w ++ q) → tidyG w (splitL q) = tidyG w q
  | [], w, hc, hf => rfl
  | s :: q, w, hc, hf => by
    have hs : DOk s := hf.all s (by simp)
    obtain ⟨n1, n2, n3⟩ := tdW_next hc hs (fun t ht => adj_at hf ht)
    have hb : ¬ tdBad w s := by
      rintro ⟨k0, k1, hb⟩
      have hz := stepD_sz (step_iff.2 hs)
      have := n3 (by omega)
      omega
    unfold splitL
    rw [List.flatMap_cons, spl_run hs hb, tidyG_cons (lenE_step (step_iff.2 hs)) hb]
    exact split_run q _ n2 (by rw [n1]; simpa using hf)
theorem tidy_split {d : List DStep} (h : DValid d) : tidyL (splitL d) = d ∧ tidyE (splitL d) = 0 := by
  have e := split_run d ⟨[], [], 0⟩ (Int.le_refl _) (by simpa [flushD] using h.1)
  have q := tidy_same h
  unfold tidyL tidyE at q ⊢
  rw [e]; exact q
end Go.Ch
end
section
set_option linter.unusedVariables false
set_option linter.unusedSimpArgs false
namespace Go.Ch
open Go Go.Ab

def elS : List DStep → Nat
  | [] => 0
  | s :: l => s.elems.length + elS l
theorem elS_app (p q : List DStep) : elS (p ++ q) = elS p + elS q := by
  induction p with
  | nil => simp [elS]
  | cons s p ih => simp only [List.cons_append, elS, ih]; omega
theorem elS_take {d : List DStep} {i : Nat} (h : i < d.length) : elS (d.take (i + 1)) = elS (d.take i) + (d.getD i default).elems.length ∧ elS (d.take (i + 1)) ≤ elS d := by
  constructor
  · rw [List.take_succ_eq_append_getElem h, elS_app, show d.getD i default = d[i] by simp [List.getD, List.getElem?_eq_getElem h]]; simp [elS]
  · conv => rhs; rw [← List.take_append_drop (i + 1) d, elS_app]
    omega
structure TB (d : List DStep) (i : Nat) (w : DWr) : Prop where
  out : w.out.length ≤ 3 * i
  add : w.add.length ≤ elS (d.take i)
  cut : 0 ≤ w.cut ∧ w.cut ≤ 2147483647
  n : ∀ s ∈ w.out, 0 ≤ s.n ∧ s.n ≤ 2147483647 * ((i : Int) + 1)
  dn : ∀ s ∈ w.out, s.attrs.length ≤ 100000000000 ∧ ∀ x ∈ s.elems, x.attrs.length ≤ 100000000000
  an : ∀ x ∈ w.add, x.attrs.length ≤ 100000000000
  el : ∀ s ∈ w.out, s.elems.length ≤ elS (d.take i)
theorem TB.start (d : List DStep) : TB d 0 ⟨[], [], 0⟩ := ⟨by simp, by simp, ⟨by simp, by simp⟩, fun s h => absurd h List.not_mem_nil, fun s h => absurd h List.not_mem_nil, fun s h => absurd h List.not_mem_nil, fun s h => absurd h List.not_mem_nil⟩
theorem flush_n {w : DWr} {B : Int} (hB : 2147483647 ≤ B) (hc : 0 ≤ w.cut ∧ w.cut ≤ 2147483647) (h : ∀ s ∈ w.out, 0 ≤ s.n ∧ s.n ≤ B) : ∀ s ∈ flushD w, 0 ≤ s.n ∧ s.n ≤ B := by
  unfold flushD
  intro s hs
  rcases List.mem_append.1 hs with hs | hs
  · rcases List.mem_append.1 hs with hs | hs
    · exact h s hs
    · split at hs
      · rw [List.mem_singleton] at hs; subst hs; simp only; omega
      · cases hs
  · split at hs
    · rw [List.mem_singleton] at hs; subst hs; simp only; omega
    · cases hs
theorem flush_el {w : DWr} {B : Nat} (ha : w.add.length ≤ B) (h : ∀ s ∈ w.out, s.elems.length ≤ B) : ∀ s ∈ flushD w, s.elems.length ≤ B := by
  unfold flushD
  intro s hs
  rcases List.mem_append.1 hs with hs | hs
  · rcases List.mem_append.1 hs with hs | hs
    · exact h s hs
    · split at hs
      · rw [List.mem_singleton] at hs; subst hs; exact ha
      · cases hs
  · split at hs
    · rw [List.mem_singleton] at hs; subst hs; simp
    · cases hs
theorem keep_n {l : List DStep} {B B' n : Int} {c : List Attr} (h : ∀ s ∈ l, 0 ≤ s.n ∧ s.n ≤ B) (h1 : 0 ≤ n) (h2 : B + n ≤ B') (h3 : 0 ≤ B) : ∀ s ∈ keepD l n c, 0 ≤ s.n ∧ s.n ≤ B' := by
  unfold keepD
  split
  · intro s hs
    rcases List.mem_or_eq_of_mem_set hs with hs | rfl
    · have := h s hs; omega
    · have := h (l.getD (l.length - 1) default) (getD_mem' (by omega))
      simp only; omega
  · intro s hs
    rcases List.mem_append.1 hs with hs | hs
    · have := h s hs; omega
    · rw [List.mem_singleton] at hs; subst hs; simp only; omega
theorem keep_el {l : List DStep} {B : Nat} {n : Int} {c : List Attr} (h : ∀ s ∈ l, s.elems.length ≤ B) : ∀ s ∈ keepD l n c, s.elems.length ≤ B := by
  unfold keepD
  split
  · intro s hs
    rcases List.mem_or_eq_of_mem_set hs with hs | rfl
    · exact h s hs
    · exact h (l.getD (l.length - 1) default) (getD_mem' (by omega))
  · intro s hs
    rcases List.mem_append.1 hs with hs | hs
    · exact h s hs
    · rw [List.mem_singleton] at hs; subst hs; simp
theorem TB.flush {d : List DStep} {i : Nat} {w : DWr} (h : TB d i w) (hi : i ≤ 100000000) (he : elS d ≤ 100000000000) (hd : elS (d.take i) ≤ elS d) :
    (∀ s ∈ flushD w, 0 ≤ s.n ∧ s.n ≤ 1000000000000000000) ∧ DN 400000000000 (flushD w) := by
  refine ⟨flush_n (by decide) h.cut (fun s hs => by have := h.n s hs; omega), fun s hs => ?_⟩
  have h1 := flush_all (P := fun l => l.length ≤ 100000000000) (R := fun x => x.attrs.length ≤ 100000000000) (by simp) h.dn h.an s hs
  have h2 := flush_el h.add h.el s hs
  exact ⟨by omega, by have := h1.1; omega, fun x hx => by have := h1.2 x hx; omega⟩
theorem TB.next {d : List DStep} {i : Nat} {w : DWr} (h : TB d i w) (hi : i < d.length) (hd : DN 100000000000 d) (hl : lenE (d.getD i default) = 0) (hb : ¬ tdBad w (d.getD i default)) : TB d (i + 1) (tdW w (d.getD i default)) := by
  obtain ⟨k, n0, n1⟩ := lenE_ok hl
  obtain ⟨e1, _⟩ := elS_take hi
  obtain ⟨b1, b2, b3⟩ := hd _ (getD_mem' hi)
  generalize d.getD i default = s at *
  have ha := tdW_all (P := fun l => l.length ≤ 100000000000) (R := fun x => x.attrs.length ≤ 100000000000) (w := w) (s := s) (by simp) h.dn h.an ⟨b2, b3⟩
  have hn := h.n
  have hc := h.cut
  have ho := h.out
  have hadd := h.add
  refine ⟨?_, ?_, ?_, ?_, ha.1, ha.2, ?_⟩
  · unfold tdW
    split
    · split
      · omega
      · have := keepD_len (flushD w) s.n s.attrs
        have := flushD_len w
        simp only; omega
    · split <;> simp only <;> omega
  · unfold tdW
    split
    · split
      · omega
      · simp
    · split
      · simp only [List.length_append]; omega
      · simp only; omega
  · unfold tdW
    split
    · split
      · exact hc
      · exact ⟨Int.le_refl 0, (by decide : (0:Int) ≤ 2147483647)⟩
    · split
      · exact hc
      · rename_i k0 k1
        unfold tdBad at hb
        simp only
        omega
  · have up : ∀ t ∈ w.out, 0 ≤ t.n ∧ t.n ≤ 2147483647 * (((i + 1 : Nat) : Int) + 1) := fun t ht => by have := hn t ht; omega
    unfold tdW
    split
    · split
      · exact up
      · exact keep_n (flush_n (by omega) hc hn) (B' := 2147483647 * (((i + 1 : Nat) : Int) + 1)) (by omega) (by omega) (by omega)
    · split
      · exact up
      · exact up
  · have up : ∀ t ∈ w.out, t.elems.length ≤ elS (d.take (i + 1)) := fun t ht => by have := h.el t ht; omega
    unfold tdW
    split
    · split
      · exact up
      · exact keep_el (flush_el (by omega) up)
    · split
      · exact up
      · exact up
end Go.Ch
namespace Go.Ch
open Go Go.Ab
theorem tidyG_at {d : List DStep} {i : Nat} (h : i < d.length) (w : DWr) : tidyG w (d.drop i) = if lenE (d.getD i default) ≠ 0 then ([], lenE (d.getD i default)) else if tdBad w (d.getD i default) then ([], 3) else tidyG (tdW w (d.getD i default)) (d.drop (i + 1)) := by
  rw [dropD h, tidyG]
theorem tidyG_end {d : List DStep} {i : Nat} (h : d.length ≤ i) (w : DWr) : tidyG w (d.drop i) = if checkD (flushD w) = 0 then (flushD w, 0) else ([], 3) := by
  rw [List.drop_eq_nil_of_le h, tidyG]
end Go.Ch
end
section
set_option linter.unusedVariables false
set_option linter.unusedSimpArgs false
set_option maxRecDepth 100000
set_option maxHeartbeats 4000000
open Go Go.Proofs Go.Ab
namespace Go.Ch
theorem fc_dKeep0 (o : List DStep) (a : List Elem) (c : Int) (n : Int) (l : List Attr) (h0 : n = 0) : FC Try.prog 103 [.ptr 0 0, VI n, VL 2 attrT l] (app emp [(0, .box [.row 1 o.length, .row 2 a.length, VI c]), (1, OR 4 dstepT o), (2, OR 3 elemT a)]) (.tup []) (app emp [(0, .box [.row 1 o.length, .row 2 a.length, VI c]), (1, OR 4 dstepT o), (2, OR 3 elemT a)]) := by
 refine .go Try.f103 ?_
 refine .len 2 (fun hl2 => ?_)
 refine .br [.r []] (n == 0) (fun h0 => ?_) (fun h0 => ?_)
 ·
  (try simp only [beq_iff_eq, beq_eq_false_iff_ne, ne_eq] at h0)
  exact .fin [] [(0, 0), (1, 1), (2, 2)]
 ·
  (try simp only [beq_iff_eq, beq_eq_false_iff_ne, ne_eq] at h0)
  exfalso
  omega

theorem fc_dDoneE (o : List DStep) (a : List Elem) (c : Int) (ho : o.length ≤ 100000000000) (hc : ¬ checkD (flushD ⟨o, a, c⟩) = 0) (hd : DN 400000000000 (flushD ⟨o, a, c⟩)) : FC Try.prog 105 [.ptr 0 0] (app emp [(0, .box [.row 1 o.length, .row 2 a.length, VI c]), (1, OR 4 dstepT o), (2, OR 3 elemT a)]) (.tup [VL 4 dstepT [], VI 3]) (app emp [(0, .box [.row 1 ((flushD ⟨o, a, c⟩).length), .row 3 0, VI 0]), (1, OR 4 dstepT (flushD ⟨o, a, c⟩)), (2, OF 3 elemT a), (3, OR 3 elemT [])]) := by
 refine .go Try.f105 ?_
 refine .br [.r [], .r [(1, X (Xc3 27 [(0, 0), (1, 1), (2, 2)] (fc_dFlush o a c (by omega)) X0))], .r [(4, X (Xc0 (fc_dCheck (flushD ⟨o, a, c⟩) (by assumption)) (rowC dstepT (flushD ⟨o, a, c⟩) X0)))]] ((checkD (flushD ⟨o, a, c⟩)) != 0) (fun h2 => ?_) (fun h2 => ?_)
 ·
  (try simp only [bne_iff_ne, bne_eq_false_iff_eq, ne_eq] at h2)
  exact .fin [.r [], .le (.nL 2 4)] [(0, 0), (1, 1), (2, 2), (27, 3)]
 ·
  (try simp only [bne_iff_ne, bne_eq_false_iff_eq, ne_eq] at h2)
  exfalso
  omega

theorem fc_dTidy (d : List DStep) (hd : DN 100000000000 d) (hl : d.length ≤ 100000000) (he : elS d ≤ 10000000000) : FC Try.prog 49 [VL 4 dstepT d] (app emp []) (.tup [VL 4 dstepT (tidyL d), VI (tidyE d)]) (app emp []) := by
 refine .go Try.f49 ?_
 refine .len 0 (fun hl0 => ?_)
 have hd4 := hd.mono (n := 400000000000) (by decide)
 refine .loop (α := Nat × Int × (List DStep) × (List Elem)) [.r [], .r [], .le (.nB 16 0 4), .le (.nB 16 1 3), .r [(1, X (Xl dstepT d))]] 50 (fun (i, y, o, x) => ([(4, .ptr 16 0), (8, VL 4 dstepT d), (9, VI (d.length : Int)), (10, VI (i : Int))], [(16, .box [.row 24 o.length, .row 25 x.length, VI y]), (24, OR 4 dstepT o), (25, OR 3 elemT x)])) (fun (i, y, o, x) => i ≤ d.length ∧ tidyG ⟨[], [], 0⟩ d = tidyG ⟨o, x, y⟩ (d.drop i) ∧ TB d i ⟨o, x, y⟩) (fun (i, y, o, x) => d.length - i) (0, 0, [], []) ?_ ?_
 ·
  exact ⟨by omega, rfl, TB.start d⟩
 rintro ⟨i, y, o, x⟩ I3 ih3
 try dsimp only at I3
 have b1 := I3.2.2.out
 have b2 := I3.2.2.add
 have b3 := I3.2.2.cut
 simp only at b1 b2 b3
 refine .br [.r []] (decide ((i : Int) < (d.length : Int))) (fun h3 => ?_) (fun h3 => ?_)
 ·
  (try simp only [decide_eq_true_eq, decide_eq_false_iff_not, Int.not_lt, Int.not_le] at h3)
  obtain ⟨e1, e2⟩ := elS_take (d := d) (i := i) (by omega)
  have hT := tidyG_at (d := d) (i := i) (by omega) ⟨o, x, y⟩
  obtain ⟨d1, d2, d3⟩ := hd4 _ (getD_mem' (l := d) (k := i) (by omega))
  obtain ⟨f1, f2⟩ := I3.2.2.flush (by omega) (by omega) (by omega)
  refine .br [.r [(0, X (Xi dstepT d (i : Int)))], .r [(1, X (Xc0 (fc_step ((d.getD i default))) X0))], .r [(5, Xv 1 ((((d.getD i default)).kind) == 1) X0), (6, Xv 1 ((((d.getD i default)).kind) == 1) (Xl elemT (((d.getD i default)).elems))), (7, Xv 1 ((((d.getD i default)).kind) == 1) X0), (8, X (Xk ((((d.getD i default)).kind) == 1))), (11, Xv 1 (((((d.getD i default)).kind) == 1) && (((((d.getD i default)).elems).length : Int) == 0)) X0), (12, X (Xk (((((d.getD i default)).kind) == 1) && (((((d.getD i default)).elems).length : Int) == 0)))), (15, Xv 1 (!((((((d.getD i default)).kind) == 1) && (((((d.getD i default)).elems).length : Int) == 0)) && ((stepD ((d.getD i default))) == 11))) X0), (16, Xv 1 (!((((((d.getD i default)).kind) == 1) && (((((d.getD i default)).elems).length : Int) == 0)) && ((stepD ((d.getD i default))) == 11))) X0), (17, Xv 1 (!((((((d.getD i default)).kind) == 1) && (((((d.getD i default)).elems).length : Int) == 0)) && ((stepD ((d.getD i default))) == 11))) X0), (19, Xv 1 ((!((((((d.getD i default)).kind) == 1) && (((((d.getD i default)).elems).length : Int) == 0)) && ((stepD ((d.getD i default))) == 11))) && ((((d.getD i default)).kind) != 1)) X0), (20, Xv 1 ((!((((((d.getD i default)).kind) == 1) && (((((d.getD i default)).elems).length : Int) == 0)) && ((stepD ((d.getD i default))) == 11))) && ((((d.getD i default)).kind) != 1)) X0), (21, Xka (!((((((d.getD i default)).kind) == 1) && (((((d.getD i default)).elems).length : Int) == 0)) && ((stepD ((d.getD i default))) == 11))) ((((d.getD i default)).kind) != 1)), (22, Xv 1 (!((((((d.getD i default)).kind) == 1) && (((((d.getD i default)).elems).length : Int) == 0)) && ((stepD ((d.getD i default))) == 11))) X0), (24, Xv 1 ((!((((((d.getD i default)).kind) == 1) && (((((d.getD i default)).elems).length : Int) == 0)) && ((stepD ((d.getD i default))) == 11))) && (((((d.getD i default)).kind) != 1) && ((((d.getD i default)).n) == 0))) X0), (25, Xka (!((((((d.getD i default)).kind) == 1) && (((((d.getD i default)).elems).length : Int) == 0)) && ((stepD ((d.getD i default))) == 11))) (((((d.getD i default)).kind) != 1) && ((((d.getD i default)).n) == 0))), (26, X (Xk' ((((((d.getD i default)).kind) == 1) && (((((d.getD i default)).elems).length : Int) == 0)) && ((stepD ((d.getD i default))) == 11))))]] (((((((d.getD i default)).kind) == 1) && (((((d.getD i default)).elems).length : Int) == 0)) && ((stepD ((d.getD i default))) == 11)) || ((((((d.getD i default)).kind) != 1) && ((((d.getD i default)).n) == 0)) && ((stepD ((d.getD i default))) == 2))) (fun h6 => ?_) (fun h6 => ?_)
  ·
   (try simp only [Bool.and_eq_true, Bool.and_eq_false_iff, Bool.not_eq_true', Bool.not_eq_false', Bool.or_eq_true, Bool.or_eq_false_iff, beq_iff_eq, beq_eq_false_iff_ne, ne_eq, bne_iff_ne, bne_eq_false_iff_eq] at h6)
   have hL : lenE (d.getD i default) = (chkA true (((d.getD i default)).attrs) 0) := by unfold lenE; first | rw [if_pos (by omega)] | rw [if_neg (by omega)]
   refine .br [.r [(2, X (Xc0 (fc_acheckChange (((d.getD i default)).attrs)) X0))], .r []] ((chkA true (((d.getD i default)).attrs) 0) != 0) (fun h8 => ?_) (fun h8 => ?_)
   ·
    (try simp only [bne_iff_ne, bne_eq_false_iff_eq, ne_eq] at h8)
    have e1 : ((tidyL d) : List DStep) = [] := by
     unfold tidyL
     rw [I3.2.1, hT, if_pos (by rw [hL]; exact h8)]
    have e2 : ((tidyE d) : Int) = (chkA true (((d.getD i default)).attrs) 0) := by
     unfold tidyE
     rw [I3.2.1, hT, if_pos (by rw [hL]; exact h8)]
     exact hL
    exact .finE [.r [], .le (.nL 2 4)] [] (fun (z0, z1) => (.tup [VL 4 dstepT z0, VI z1], [])) (([] : List DStep), ((chkA true (((d.getD i default)).attrs) 0) : Int)) (((tidyL d) : List DStep), ((tidyE d) : Int)) (pr e1 e2)
   ·
    (try simp only [bne_iff_ne, bne_eq_false_iff_eq, ne_eq] at h8)
    have hL0 : lenE (d.getD i default) = 0 := by rw [hL]; omega
    rw [if_neg (by rw [hL0]; decide)] at hT
    obtain ⟨hk, hn1, hn2⟩ := lenE_ok hL0
    have hN := I3.2.2.next (by omega) hd hL0
    clear h6
    refine .br [.r [], .r []] ((((d.getD i default)).kind) == 0) (fun h14 => ?_) (fun h14 => ?_)
    ·
     (try simp only [beq_iff_eq, beq_eq_false_iff_ne, ne_eq] at h14)
     by_cases hn0 : (d.getD i default).n = 0
     ·
      refine .back [.r [(4, X (Xc3 442 [(0, 16), (1, 24), (2, 25)] (fc_dKeep0 o x y (((d.getD i default)).n) (((d.getD i default)).attrs) (by assumption)) X0))], .r [(0, X (Xn ((i : Int) + 1)))]] [(16, 16), (24, 24), (25, 25)] (ih3 ((i + 1), y, o, x) ?_ ?_)
      ·
       have hW : tdW ⟨o, x, y⟩ (d.getD i default) = ⟨o, x, y⟩ := by unfold tdW; rw [if_pos h14, if_pos hn0]
       have hb : ¬ tdBad ⟨o, x, y⟩ (d.getD i default) := fun h => h.1 h14
       have hN2 := hN hb
       rw [if_neg hb] at hT
       rw [hW] at hT hN2
       exact ⟨by omega, I3.2.1.trans hT, hN2⟩
      ·
       ((try dsimp only); omega)
     ·
      refine .back [.r [(4, X (Xc3 442 [(0, 16), (1, 24), (2, 25)] (fc_dKeep o x y (((d.getD i default)).n) (((d.getD i default)).attrs) (by omega) (by first | omega | simp) (by omega) (by first | assumption | exact kbd (by assumption))) X0))], .r [(0, X (Xn ((i : Int) + 1)))]] [(16, 16), (24, 24), (442, 25)] (ih3 ((i + 1), 0, (keepD (flushD ⟨o, x, y⟩) (((d.getD i default)).n) (((d.getD i default)).attrs)), []) ?_ ?_)
      ·
       have hW : tdW ⟨o, x, y⟩ (d.getD i default) = ⟨keepD (flushD ⟨o, x, y⟩) (d.getD i default).n (d.getD i default).attrs, [], 0⟩ := by unfold tdW; rw [if_pos h14, if_neg hn0]
       have hb : ¬ tdBad ⟨o, x, y⟩ (d.getD i default) := fun h => h.1 h14
       have hN2 := hN hb
       rw [if_neg hb] at hT
       rw [hW] at hT hN2
       exact ⟨by omega, I3.2.1.trans hT, hN2⟩
      ·
       ((try dsimp only); omega)
    ·
     (try simp only [beq_iff_eq, beq_eq_false_iff_ne, ne_eq] at h14)
     refine .br [.r []] ((((d.getD i default)).kind) == 1) (fun h16 => ?_) (fun h16 => ?_)
     ·
      (try simp only [beq_iff_eq, beq_eq_false_iff_ne, ne_eq] at h16)
      have hz : True := trivial
      refine .back [.r [(2, X (Xc3 442 [(0, 16), (1, 24), (2, 25)] (fc_dElems o x y (((d.getD i default)).elems) (by assumption) (by omega)) X0))], .r [(0, X (Xn ((i : Int) + 1)))]] [(16, 16), (24, 24), (25, 25)] (ih3 ((i + 1), y, o, (x ++ (((d.getD i default)).elems))) ?_ ?_)
      ·
       have hW : tdW ⟨o, x, y⟩ (d.getD i default) = ⟨o, x ++ (d.getD i default).elems, y⟩ := by unfold tdW; rw [if_neg h14, if_pos h16]
       have hb : ¬ tdBad ⟨o, x, y⟩ (d.getD i default) := fun h => h.2.1 h16
       have hN2 := hN hb
       rw [if_neg hb] at hT
       rw [hW] at hT hN2
       exact ⟨by omega, I3.2.1.trans hT, hN2⟩
      ·
       ((try dsimp only); omega)
     ·
      (try simp only [beq_iff_eq, beq_eq_false_iff_ne, ne_eq] at h16)
      refine .br [.r [(4, X (Xn (y + (((d.getD i default)).n))))], .r []] (decide ((y + (((d.getD i default)).n)) > 2147483647)) (fun h12 => ?_) (fun h12 => ?_)
      ·
       (try simp only [decide_eq_true_eq, decide_eq_false_iff_not, Int.not_lt, Int.not_le, gt_iff_lt] at h12)
       refine .at 506 [(16, 16), (24, 24), (25, 25)] ([(4, .ptr 16 0), (8, VL 4 dstepT d), (9, VI (d.length : Int)), (10, VI (i : Int)), (59, VB (decide ((y + (((d.getD i default)).n)) > 2147483647)))], [(16, .box [.row 24 o.length, .row 25 x.length, VI (y + (((d.getD i default)).n))]), (24, OR 4 dstepT o), (25, OR 3 elemT x)]) ?_
       have e3 : ((tidyL d) : List DStep) = [] := by
        unfold tidyL
        rw [I3.2.1, hT, if_pos ⟨h14, h16, by simp only; omega⟩]
       have e4 : ((tidyE d) : Int) = 3 := by
        unfold tidyE
        rw [I3.2.1, hT, if_pos ⟨h14, h16, by simp only; omega⟩]
       exact .finE [.r [], .le (.nL 2 4)] [] (fun (z0, z1) => (.tup [VL 4 dstepT z0, VI z1], [])) (([] : List DStep), (3 : Int)) (((tidyL d) : List DStep), ((tidyE d) : Int)) (pr e3 e4)
      ·
       (try simp only [decide_eq_true_eq, decide_eq_false_iff_not, Int.not_lt, Int.not_le, gt_iff_lt] at h12)
       refine .at 506 [(16, 16), (24, 24), (25, 25)] ([(4, .ptr 16 0), (8, VL 4 dstepT d), (9, VI (d.length : Int)), (10, VI (i : Int)), (59, VB (decide ((y + (((d.getD i default)).n)) > 2147483647)))], [(16, .box [.row 24 o.length, .row 25 x.length, VI (y + (((d.getD i default)).n))]), (24, OR 4 dstepT o), (25, OR 3 elemT x)]) ?_
       refine .back [.r [(0, X (Xn ((i : Int) + 1)))]] [(16, 16), (24, 24), (25, 25)] (ih3 ((i + 1), (y + (((d.getD i default)).n)), o, x) ?_ ?_)
       ·
        have hW : tdW ⟨o, x, y⟩ (d.getD i default) = ⟨o, x, y + (d.getD i default).n⟩ := by unfold tdW; rw [if_neg h14, if_neg h16]
        have hb : ¬ tdBad ⟨o, x, y⟩ (d.getD i default) := fun h => by have := h.2.2; simp only at this; omega
        have hN2 := hN hb
        rw [if_neg hb] at hT
        rw [hW] at hT hN2
        exact ⟨by omega, I3.2.1.trans hT, hN2⟩
       ·
        ((try dsimp only); omega)
  ·
   (try simp only [Bool.and_eq_true, Bool.and_eq_false_iff, Bool.not_eq_true', Bool.not_eq_false', Bool.or_eq_true, Bool.or_eq_false_iff, beq_iff_eq, beq_eq_false_iff_ne, ne_eq, bne_iff_ne, bne_eq_false_iff_eq] at h6)
   have hL : lenE (d.getD i default) = (stepD ((d.getD i default))) := by unfold lenE; first | rw [if_pos (by omega)] | rw [if_neg (by omega)]
   refine .br [.r []] ((stepD ((d.getD i default))) != 0) (fun h8 => ?_) (fun h8 => ?_)
   ·
    (try simp only [bne_iff_ne, bne_eq_false_iff_eq, ne_eq] at h8)
    have e5 : ((tidyL d) : List DStep) = [] := by
     unfold tidyL
     rw [I3.2.1, hT, if_pos (by rw [hL]; exact h8)]
    have e6 : ((tidyE d) : Int) = (stepD ((d.getD i default))) := by
     unfold tidyE
     rw [I3.2.1, hT, if_pos (by rw [hL]; exact h8)]
     exact hL
    exact .finE [.r [], .le (.nL 2 4)] [] (fun (z0, z1) => (.tup [VL 4 dstepT z0, VI z1], [])) (([] : List DStep), ((stepD ((d.getD i default))) : Int)) (((tidyL d) : List DStep), ((tidyE d) : Int)) (pr e5 e6)
   ·
    (try simp only [bne_iff_ne, bne_eq_false_iff_eq, ne_eq] at h8)
    have hL0 : lenE (d.getD i default) = 0 := by rw [hL]; omega
    rw [if_neg (by rw [hL0]; decide)] at hT
    obtain ⟨hk, hn1, hn2⟩ := lenE_ok hL0
    have hN := I3.2.2.next (by omega) hd hL0
    clear h6
    refine .br [.r [], .r []] ((((d.getD i default)).kind) == 0) (fun h14 => ?_) (fun h14 => ?_)
    ·
     (try simp only [beq_iff_eq, beq_eq_false_iff_ne, ne_eq] at h14)
     by_cases hn0 : (d.getD i default).n = 0
     ·
      refine .back [.r [(4, X (Xc3 410 [(0, 16), (1, 24), (2, 25)] (fc_dKeep0 o x y (((d.getD i default)).n) (((d.getD i default)).attrs) (by assumption)) X0))], .r [(0, X (Xn ((i : Int) + 1)))]] [(16, 16), (24, 24), (25, 25)] (ih3 ((i + 1), y, o, x) ?_ ?_)
      ·
       have hW : tdW ⟨o, x, y⟩ (d.getD i default) = ⟨o, x, y⟩ := by unfold tdW; rw [if_pos h14, if_pos hn0]
       have hb : ¬ tdBad ⟨o, x, y⟩ (d.getD i default) := fun h => h.1 h14
       have hN2 := hN hb
       rw [if_neg hb] at hT
       rw [hW] at hT hN2
       exact ⟨by omega, I3.2.1.trans hT, hN2⟩
      ·
       ((try dsimp only); omega)
     ·
      refine .back [.r [(4, X (Xc3 410 [(0, 16), (1, 24), (2, 25)] (fc_dKeep o x y (((d.getD i default)).n) (((d.getD i default)).attrs) (by omega) (by first | omega | simp) (by omega) (by first | assumption | exact kbd (by assumption))) X0))], .r [(0, X (Xn ((i : Int) + 1)))]] [(16, 16), (24, 24), (410, 25)] (ih3 ((i + 1), 0, (keepD (flushD ⟨o, x, y⟩) (((d.getD i default)).n) (((d.getD i default)).attrs)), []) ?_ ?_)
      ·
       have hW : tdW ⟨o, x, y⟩ (d.getD i default) = ⟨keepD (flushD ⟨o, x, y⟩) (d.getD i default).n (d.getD i default).attrs, [], 0⟩ := by unfold tdW; rw [if_pos h14, if_neg hn0]
       have hb : ¬ tdBad ⟨o, x, y⟩ (d.getD i default) := fun h => h.1 h14
       have hN2 := hN hb
       rw [if_neg hb] at hT
       rw [hW] at hT hN2
       exact ⟨by omega, I3.2.1.trans hT, hN2⟩
      ·
       ((try dsimp only); omega)
    ·
     (try simp only [beq_iff_eq, beq_eq_false_iff_ne, ne_eq] at h14)
     refine .br [.r []] ((((d.getD i default)).kind) == 1) (fun h16 => ?_) (fun h16 => ?_)
     ·
      (try simp only [beq_iff_eq, beq_eq_false_iff_ne, ne_eq] at h16)
      have hz : True := trivial
      refine .back [.r [(2, X (Xc3 410 [(0, 16), (1, 24), (2, 25)] (fc_dElems o x y (((d.getD i default)).elems) (by assumption) (by omega)) X0))], .r [(0, X (Xn ((i : Int) + 1)))]] [(16, 16), (24, 24), (25, 25)] (ih3 ((i + 1), y, o, (x ++ (((d.getD i default)).elems))) ?_ ?_)
      ·
       have hW : tdW ⟨o, x, y⟩ (d.getD i default) = ⟨o, x ++ (d.getD i default).elems, y⟩ := by unfold tdW; rw [if_neg h14, if_pos h16]
       have hb : ¬ tdBad ⟨o, x, y⟩ (d.getD i default) := fun h => h.2.1 h16
       have hN2 := hN hb
       rw [if_neg hb] at hT
       rw [hW] at hT hN2
       exact ⟨by omega, I3.2.1.trans hT, hN2⟩
      ·
       ((try dsimp only); omega)
     ·
      (try simp only [beq_iff_eq, beq_eq_false_iff_ne, ne_eq] at h16)
      refine .br [.r [(4, X (Xn (y + (((d.getD i default)).n))))], .r []] (decide ((y + (((d.getD i default)).n)) > 2147483647)) (fun h12 => ?_) (fun h12 => ?_)
      ·
       (try simp only [decide_eq_true_eq, decide_eq_false_iff_not, Int.not_lt, Int.not_le, gt_iff_lt] at h12)
       refine .at 474 [(16, 16), (24, 24), (25, 25)] ([(4, .ptr 16 0), (8, VL 4 dstepT d), (9, VI (d.length : Int)), (10, VI (i : Int)), (59, VB (decide ((y + (((d.getD i default)).n)) > 2147483647)))], [(16, .box [.row 24 o.length, .row 25 x.length, VI (y + (((d.getD i default)).n))]), (24, OR 4 dstepT o), (25, OR 3 elemT x)]) ?_
       have e7 : ((tidyL d) : List DStep) = [] := by
        unfold tidyL
        rw [I3.2.1, hT, if_pos ⟨h14, h16, by simp only; omega⟩]
       have e8 : ((tidyE d) : Int) = 3 := by
        unfold tidyE
        rw [I3.2.1, hT, if_pos ⟨h14, h16, by simp only; omega⟩]
       exact .finE [.r [], .le (.nL 2 4)] [] (fun (z0, z1) => (.tup [VL 4 dstepT z0, VI z1], [])) (([] : List DStep), (3 : Int)) (((tidyL d) : List DStep), ((tidyE d) : Int)) (pr e7 e8)
      ·
       (try simp only [decide_eq_true_eq, decide_eq_false_iff_not, Int.not_lt, Int.not_le, gt_iff_lt] at h12)
       refine .at 474 [(16, 16), (24, 24), (25, 25)] ([(4, .ptr 16 0), (8, VL 4 dstepT d), (9, VI (d.length : Int)), (10, VI (i : Int)), (59, VB (decide ((y + (((d.getD i default)).n)) > 2147483647)))], [(16, .box [.row 24 o.length, .row 25 x.length, VI (y + (((d.getD i default)).n))]), (24, OR 4 dstepT o), (25, OR 3 elemT x)]) ?_
       refine .back [.r [(0, X (Xn ((i : Int) + 1)))]] [(16, 16), (24, 24), (25, 25)] (ih3 ((i + 1), (y + (((d.getD i default)).n)), o, x) ?_ ?_)
       ·
        have hW : tdW ⟨o, x, y⟩ (d.getD i default) = ⟨o, x, y + (d.getD i default).n⟩ := by unfold tdW; rw [if_neg h14, if_neg h16]
        have hb : ¬ tdBad ⟨o, x, y⟩ (d.getD i default) := fun h => by have := h.2.2; simp only at this; omega
        have hN2 := hN hb
        rw [if_neg hb] at hT
        rw [hW] at hT hN2
        exact ⟨by omega, I3.2.1.trans hT, hN2⟩
       ·
        ((try dsimp only); omega)
 ·
  (try simp only [decide_eq_true_eq, decide_eq_false_iff_not, Int.not_lt, Int.not_le] at h3)
  by_cases hck : checkD (flushD ⟨o, x, y⟩) = 0
  ·
   have hTe := tidyG_end (d := d) (i := i) (by omega) ⟨o, x, y⟩
   obtain ⟨f1, f2⟩ := I3.2.2.flush (by omega) (by omega) (by rw [List.take_of_length_le (by omega)]; omega)
   have e9 : ((tidyL d) : List DStep) = (flushD ⟨o, x, y⟩) := by
    unfold tidyL
    rw [I3.2.1, hTe, if_pos hck]
   have e10 : ((tidyE d) : Int) = 0 := by
    unfold tidyE
    rw [I3.2.1, hTe, if_pos hck]
   exact .finE [.r [(0, X (Xc3 58 [(0, 16), (1, 24), (2, 25)] (fc_dDone o x y (by omega) (by assumption) (by assumption)) X0))], .le (.fr 2 [(((flushD ⟨o, x, y⟩).length) : Nat) = (List.map dstepT (flushD ⟨o, x, y⟩)).length] ⟨lm, trivial⟩)] [] (fun (z0, z1) => (.tup [VL 4 dstepT z0, VI z1], [])) (((flushD ⟨o, x, y⟩) : List DStep), (0 : Int)) (((tidyL d) : List DStep), ((tidyE d) : Int)) (pr e9 e10)
  ·
   have hTe := tidyG_end (d := d) (i := i) (by omega) ⟨o, x, y⟩
   obtain ⟨f1, f2⟩ := I3.2.2.flush (by omega) (by omega) (by rw [List.take_of_length_le (by omega)]; omega)
   have e11 : ((tidyL d) : List DStep) = [] := by
    unfold tidyL
    rw [I3.2.1, hTe, if_neg hck]
   have e12 : ((tidyE d) : Int) = 3 := by
    unfold tidyE
    rw [I3.2.1, hTe, if_neg hck]
   exact .finE [.r [(0, X (Xc3 58 [(0, 16), (1, 24), (2, 25)] (fc_dDoneE o x y (by omega) (by assumption) (by assumption)) X0))]] [] (fun (z0, z1) => (.tup [VL 4 dstepT z0, VI z1], [])) (([] : List DStep), (3 : Int)) (((tidyL d) : List DStep), ((tidyE d) : Int)) (pr e11 e12)
end Go.Ch
end
section
set_option linter.unusedVariables false
set_option linter.unusedSimpArgs false
set_option maxRecDepth 100000
set_option maxHeartbeats 4000000
open Go Go.Proofs Go.Ab
namespace Go.Ch
theorem fc_deltas  : FC Try.prog 46 [] (app emp []) (VB true) (app emp []) := by
 refine .go Try.f46 ?_
 obtain ⟨p1, p2, p3, p4⟩ := probe_facts
 have p5 := probe_dn
 have p6 := ltr_an { data := #[97, 98] } 400000000000
 unfold probeD at *
 have e1 : ((true && (sameF (rawD (lettersL ({ data := #[97, 98] })) [({ kind := 1, n := 0, attrs := [], elems := (lettersL ({ data := #[120] })) } : DStep), ({ kind := 2, n := 1, attrs := [], elems := [] } : DStep), ({ kind := 0, n := 1, attrs := [], elems := [] } : DStep)]) (lettersL ({ data := #[120, 98] })))) : Bool) = true := by
  rw [p4]; simp
 exact .finE [.r [], .r [(0, X (Xc1 8 (fc_letters ({ data := #[97, 98] }) (by decide)) X0)), (1, X (Xc1 16 (fc_letters ({ data := #[120] }) (by decide)) X0)), (2, X (Xf [(2, 2)])), (3, X (Xf [(2, 2), (3, 3)])), (4, X (Xf [(2, 2), (3, 3)])), (6, X (Xc1 56 (fc_dApply (lettersL ({ data := #[97, 98] })) [({ kind := 1, n := 0, attrs := [], elems := (lettersL ({ data := #[120] })) } : DStep), ({ kind := 2, n := 1, attrs := [], elems := [] } : DStep), ({ kind := 0, n := 1, attrs := [], elems := [] } : DStep)] (by assumption) (by assumption) (by assumption) (by assumption) (by omega)) (rowC dstepT [({ kind := 1, n := 0, attrs := [], elems := (lettersL ({ data := #[120] })) } : DStep), ({ kind := 2, n := 1, attrs := [], elems := [] } : DStep), ({ kind := 0, n := 1, attrs := [], elems := [] } : DStep)] X0)))], .r [(4, Xg true (Xc1 136 (fc_letters ({ data := #[120, 98] }) (by decide)) X0)), (5, Xv 2 true (Xc0 (fc_sameFlow (rawD (lettersL ({ data := #[97, 98] })) [({ kind := 1, n := 0, attrs := [], elems := (lettersL ({ data := #[120] })) } : DStep), ({ kind := 2, n := 1, attrs := [], elems := [] } : DStep), ({ kind := 0, n := 1, attrs := [], elems := [] } : DStep)]) (lettersL ({ data := #[120, 98] }))) X0)), (6, X (Xk true))]] [] (fun z0 => (VB z0, [])) ((true && (sameF (rawD (lettersL ({ data := #[97, 98] })) [({ kind := 1, n := 0, attrs := [], elems := (lettersL ({ data := #[120] })) } : DStep), ({ kind := 2, n := 1, attrs := [], elems := [] } : DStep), ({ kind := 0, n := 1, attrs := [], elems := [] } : DStep)]) (lettersL ({ data := #[120, 98] })))) : Bool) (true : Bool) e1.symm

end Go.Ch
end
section
set_option linter.unusedVariables false
set_option linter.unusedSimpArgs false
namespace Go.Ch
open Go Go.Ab

theorem tidyG_dn {d : List DStep} (hd : DN 100000000000 d) (hl : d.length ≤ 100000000) (he : elS d ≤ 10000000000) : ∀ (m i : Nat) (w : DWr), d.length - i = m → i ≤ d.length → TB d i w → DN 400000000000 (tidyG w (d.drop i)).1
  | 0, i, w, hm, hi, hT => by
    rw [tidyG_end (by omega)]
    split
    · exact (hT.flush (by omega) (by omega) (by rw [List.take_of_length_le (by omega)]; omega)).2
    · intro s hs; cases hs
  | m + 1, i, w, hm, hi, hT => by
    rw [tidyG_at (by omega)]
    split
    · intro s hs; cases hs
    · rename_i h1
      split
      · intro s hs; cases hs
      · rename_i h2
        exact tidyG_dn hd hl he m (i + 1) _ (by omega) (by omega) (hT.next (by omega) hd (Classical.byContradiction fun q => h1 q) h2)
theorem tidy_dn {d : List DStep} (hd : DN 100000000000 d) (hl : d.length ≤ 100000000) (he : elS d ≤ 10000000000) : DN 400000000000 (tidyL d) :=
  tidyG_dn hd hl he _ 0 _ rfl (Nat.zero_le _) (TB.start d)
theorem tidy_sz {d : List DStep} (hz : DSz d) : DSz (tidyL d) := fun s hs =>
  tidyG_all (P := Szd) (R := fun x => Szd x.attrs) (fun a ha => by cases ha) d ⟨[], [], 0⟩ (fun s hs => by cases hs) (fun x hx => by cases hx) hz s hs
theorem tidy_ref {d : List DStep} (h : tidyE d = 0) : refD (tidyL d) = 0 := refD_iff.2 (tidyG_valid d ⟨[], [], 0⟩ h)
/-! ### The parts -/
theorem splitL_app (p q : List DStep) : splitL (p ++ q) = splitL p ++ splitL q := by unfold splitL; simp
theorem splitL_take {d : List DStep} {i : Nat} (h : i < d.length) : splitL (d.take (i + 1)) = splitL (d.take i) ++ spl (d.getD i default) := by
  rw [List.take_succ_eq_append_getElem h, splitL_app, show d.getD i default = d[i] by simp [List.getD, List.getElem?_eq_getElem h]]
  simp [splitL]
theorem pair_len (l : List Elem) : (l.flatMap fun e => [(⟨1, 0, [], [e]⟩ : DStep), ⟨0, 0, [], []⟩]).length = 2 * l.length := by
  induction l with
  | nil => rfl
  | cons x l ih => simp only [List.flatMap_cons, List.length_append, ih, List.length_cons, List.length_nil]; omega
theorem spl_len {s : DStep} : (spl s).length = s.n.toNat + 2 * s.elems.length := by unfold spl; rw [List.length_append, List.length_replicate, pair_len]
theorem split_len : ∀ {d : List DStep}, (∀ s ∈ d, DOk s) → ((splitL d).length : Int) ≤ oldD d + 2 * newD d
  | [], _ => by simp [splitL, oldD, newD]
  | s :: d, h => by
    have ih := split_len (d := d) (fun t ht => h t (by simp [ht]))
    have e : splitL (s :: d) = spl s ++ splitL d := by simp [splitL]
    have hs := h s (by simp)
    rw [e, List.length_append, spl_len, oldD, newD]
    unfold oS nS szD
    rcases hs with ⟨k, n, a, _, _⟩ | ⟨k, e2, b, n1, n2, _⟩
    · rw [if_pos k, if_neg (by omega), if_pos k, n]; simp only [Int.toNat_zero]; omega
    · rw [e2]
      simp only [List.length_nil]
      have k1 : ¬ s.kind = 1 := by omega
      simp only [if_neg k1]
      split <;> omega
theorem split_le {d : List DStep} {i : Nat} (h : i < d.length) : (splitL (d.take i)).length + (d.getD i default).n.toNat + 2 * (d.getD i default).elems.length ≤ (splitL d).length := by
  have e : splitL d = splitL (d.take (i + 1)) ++ splitL (d.drop (i + 1)) := by rw [← splitL_app, List.take_append_drop]
  have := splitL_take h
  rw [e, this, List.length_append, List.length_append, spl_len]
  omega
theorem split_mem {d : List DStep} {s : DStep} (h : s ∈ splitL d) : ∃ t ∈ d, (s.attrs = t.attrs ∧ s.elems = []) ∨ (s.attrs = [] ∧ s.elems.length ≤ 1 ∧ ∀ x ∈ s.elems, x ∈ t.elems) := by
  unfold splitL at h
  obtain ⟨t, ht, hs⟩ := List.mem_flatMap.1 h
  refine ⟨t, ht, ?_⟩
  unfold spl at hs
  rcases List.mem_append.1 hs with hs | hs
  · rw [List.mem_replicate] at hs; rw [hs.2]; exact .inl ⟨rfl, rfl⟩
  · obtain ⟨e, he, hs⟩ := List.mem_flatMap.1 hs
    right
    simp only [List.mem_cons, List.not_mem_nil, or_false] at hs
    rcases hs with rfl | rfl
    · exact ⟨rfl, by simp, fun x hx => by rw [List.mem_singleton] at hx; subst hx; exact he⟩
    · exact ⟨rfl, by simp, fun x hx => by cases hx⟩
theorem split_dn {d : List DStep} (h : DN 100000000000 d) : DN 100000000000 (splitL d) := by
  intro s hs
  obtain ⟨t, ht, q⟩ := split_mem hs
  obtain ⟨h1, h2, h3⟩ := h t ht
  rcases q with ⟨a, e⟩ | ⟨a, e, f⟩
  · rw [a, e]; exact ⟨by simp, h2, fun x hx => by cases hx⟩
  · rw [a]; exact ⟨by omega, by simp, fun x hx => h3 x (f x hx)⟩
theorem elS_le : ∀ {l : List DStep}, (∀ s ∈ l, s.elems.length ≤ 1) → elS l ≤ l.length
  | [], _ => Nat.le_refl _
  | s :: l, h => by
    have h1 := h s (by simp)
    have h2 := elS_le (l := l) (fun t ht => h t (by simp [ht]))
    simp only [elS, List.length_cons]; omega
theorem split_el (d : List DStep) : elS (splitL d) ≤ (splitL d).length := elS_le fun s hs => by
  obtain ⟨t, _, q⟩ := split_mem hs
  rcases q with ⟨_, e⟩ | ⟨_, e, _⟩
  · rw [e]; simp
  · exact e
theorem pair_step {l : List Elem} {k : Nat} (h : k < l.length) : ((l.take (k + 1)).flatMap fun e => [(⟨1, 0, [], [e]⟩ : DStep), ⟨0, 0, [], []⟩]) = ((l.take k).flatMap fun e => [(⟨1, 0, [], [e]⟩ : DStep), ⟨0, 0, [], []⟩]) ++ [⟨1, 0, [], (l.take (k + 1)).drop k⟩, ⟨0, 0, [], []⟩] := by
  have e : (l.take (k + 1)).drop k = [l[k]] := by
    rw [List.take_succ_eq_append_getElem h, List.drop_append, List.drop_eq_nil_of_le (by simp; omega)]
    simp [show k - min k l.length = 0 by omega]
  rw [e, List.take_succ_eq_append_getElem h, List.flatMap_append]
  rfl
structure SB (d : List DStep) (i : Nat) (o : List DStep) (p q : Nat) : Prop where
  eq : o = splitL (d.take i) ++ List.replicate p ⟨(d.getD i default).kind, 1, (d.getD i default).attrs, []⟩ ++ ((d.getD i default).elems.take q).flatMap fun e => [(⟨1, 0, [], [e]⟩ : DStep), ⟨0, 0, [], []⟩]
theorem SB.len {d : List DStep} {i p q : Nat} {o : List DStep} (h : SB d i o p q) (hi : i < d.length) (hp : p ≤ (d.getD i default).n.toNat) (hq : q ≤ (d.getD i default).elems.length) :
    o.length = (splitL (d.take i)).length + p + 2 * q ∧ (splitL (d.take i)).length + (d.getD i default).n.toNat + 2 * (d.getD i default).elems.length ≤ (splitL d).length := by
  refine ⟨?_, split_le hi⟩
  rw [h.eq]
  simp only [List.length_append, List.length_replicate, pair_len, List.length_take]
  omega
theorem SB.start {d : List DStep} {i : Nat} : SB d i (splitL (d.take i)) 0 0 := ⟨by simp⟩
theorem SB.one {d : List DStep} {i p : Nat} {o : List DStep} (h : SB d i o p 0) : SB d i (o ++ [⟨(d.getD i default).kind, 1, (d.getD i default).attrs, []⟩]) (p + 1) 0 := ⟨by
  have := h.eq
  simp only [List.take_zero, List.flatMap_nil, List.append_nil] at this ⊢
  rw [this, List.append_assoc, ← List.replicate_succ']⟩
theorem SB.two {d : List DStep} {i p q : Nat} {o : List DStep} (h : SB d i o p q) (hq : q < (d.getD i default).elems.length) : SB d i (o ++ [⟨1, 0, [], ((d.getD i default).elems.take (q + 1)).drop q⟩, ⟨0, 0, [], []⟩]) p (q + 1) := ⟨by
  rw [h.eq, pair_step hq]; simp only [List.append_assoc]⟩
theorem SB.fin {d : List DStep} {i p q : Nat} {o : List DStep} (h : SB d i o p q) (hi : i < d.length) (hp : p = (d.getD i default).n.toNat) (hq : q = (d.getD i default).elems.length) : o = splitL (d.take (i + 1)) := by
  rw [h.eq, splitL_take hi, spl, hp, hq, List.take_length, List.append_assoc]
theorem tidy_law {d : List DStep} (hv : DValid d) (hd : DN 100000000000 d) (h1 : oldD d ≤ 40) (h2 : newD d ≤ 122) :
    d.length ≤ 100000000 ∧ elS d ≤ 10000000000 ∧ tidyL d = d ∧ tidyE d = 0 ∧ (splitL d).length ≤ 300 ∧ DN 100000000000 (splitL d) ∧ elS (splitL d) ≤ 10000000000 ∧ tidyL (splitL d) = d ∧ tidyE (splitL d) = 0 := by
  have hl := split_len hv.1.all
  have hs := split_el d
  have e : d.length ≤ (splitL d).length ∧ elS d ≤ (splitL d).length := by
    have : ∀ l : List DStep, (∀ s ∈ l, DOk s) → l.length ≤ (splitL l).length ∧ elS l ≤ (splitL l).length := by
      intro l
      induction l with
      | nil => intro _; simp [splitL, elS]
      | cons s l ih =>
        intro h
        have i := ih (fun t ht => h t (by simp [ht]))
        have e : splitL (s :: l) = spl s ++ splitL l := by simp [splitL]
        rw [e, List.length_append, spl_len]
        have : 1 ≤ s.n.toNat + 2 * s.elems.length := by
          rcases h s (by simp) with ⟨_, _, _, q, _⟩ | ⟨_, _, _, q, _⟩
          · have := List.length_pos_iff.2 q; omega
          · omega
        simp only [List.length_cons, elS]; omega
    exact this d hv.1.all
  have q1 := tidy_same hv
  have q2 := tidy_split hv
  exact ⟨by omega, by omega, q1.1, q1.2, by omega, split_dn hd, by omega, q2.1, q2.2⟩
end Go.Ch
end
section
set_option linter.unusedVariables false
set_option linter.unusedSimpArgs false
set_option maxRecDepth 100000
set_option maxHeartbeats 4000000
open Go Go.Proofs Go.Ab
namespace Go.Ch
theorem fc_sameDelta (d : List DStep) : FC Try.prog 50 [VL 4 dstepT d, VL 4 dstepT d] (app emp []) (VB true) (app emp []) := by
 refine .go Try.f50 ?_
 refine .len 0 (fun hl0 => ?_)
 refine .len 1 (fun hl1 => ?_)
 refine .br [.r [], .r [(1, X (Xl dstepT d)), (3, X (Xl dstepT d))]] ((d.length : Int) != (d.length : Int)) (fun h1 => ?_) (fun h1 => ?_)
 ·
  (try simp only [bne_iff_ne, bne_eq_false_iff_eq, ne_eq] at h1)
  exfalso
  first | omega | simp at h1
 ·
  (try simp only [bne_iff_ne, bne_eq_false_iff_eq, ne_eq] at h1)
  refine .loop (α := Nat) [.r [(1, X (Xl dstepT d))]] 72 (fun i => ([(0, VL 4 dstepT d), (1, VL 4 dstepT d), (12, VI (d.length : Int)), (13, VI (i : Int))], [])) (fun i => i ≤ d.length) (fun i => d.length - i) (0 : Nat) ?_ ?_
  ·
   omega
  rintro i I4 ih4
  try dsimp only at I4
  refine .br [.r []] (decide ((i : Int) < (d.length : Int))) (fun h4 => ?_) (fun h4 => ?_)
  ·
   (try simp only [decide_eq_true_eq, decide_eq_false_iff_not, Int.not_lt, Int.not_le] at h4)
   refine .br [.r [], .r [(2, X (Xi dstepT d (i : Int))), (7, X (Xi dstepT d (i : Int))), (14, Xv 2 (!((((d.getD i default)).kind) != (((d.getD i default)).kind))) (Xi dstepT d (i : Int))), (15, Xv 1 (!((((d.getD i default)).kind) != (((d.getD i default)).kind))) X0), (16, Xv 1 (!((((d.getD i default)).kind) != (((d.getD i default)).kind))) X0), (19, Xv 2 (!((((d.getD i default)).kind) != (((d.getD i default)).kind))) (Xi dstepT d (i : Int))), (20, Xv 1 (!((((d.getD i default)).kind) != (((d.getD i default)).kind))) X0), (21, Xv 1 (!((((d.getD i default)).kind) != (((d.getD i default)).kind))) X0), (22, Xv 2 (!((((d.getD i default)).kind) != (((d.getD i default)).kind))) X0), (23, X (Xk' ((((d.getD i default)).kind) != (((d.getD i default)).kind)))), (27, Xv 2 (!(((((d.getD i default)).kind) != (((d.getD i default)).kind)) || ((((d.getD i default)).n) != (((d.getD i default)).n)))) (Xi dstepT d (i : Int))), (28, Xv 1 (!(((((d.getD i default)).kind) != (((d.getD i default)).kind)) || ((((d.getD i default)).n) != (((d.getD i default)).n)))) X0), (29, Xv 1 (!(((((d.getD i default)).kind) != (((d.getD i default)).kind)) || ((((d.getD i default)).n) != (((d.getD i default)).n)))) X0), (32, Xv 2 (!(((((d.getD i default)).kind) != (((d.getD i default)).kind)) || ((((d.getD i default)).n) != (((d.getD i default)).n)))) (Xi dstepT d (i : Int))), (33, Xv 1 (!(((((d.getD i default)).kind) != (((d.getD i default)).kind)) || ((((d.getD i default)).n) != (((d.getD i default)).n)))) X0), (34, Xv 1 (!(((((d.getD i default)).kind) != (((d.getD i default)).kind)) || ((((d.getD i default)).n) != (((d.getD i default)).n)))) X0), (35, Xv 2 (!(((((d.getD i default)).kind) != (((d.getD i default)).kind)) || ((((d.getD i default)).n) != (((d.getD i default)).n)))) (Xc0 (fc_sameAttrs (((d.getD i default)).attrs) (((d.getD i default)).attrs)) X0)), (36, Xv 1 (!(((((d.getD i default)).kind) != (((d.getD i default)).kind)) || ((((d.getD i default)).n) != (((d.getD i default)).n)))) X0), (37, X (Xk' (((((d.getD i default)).kind) != (((d.getD i default)).kind)) || ((((d.getD i default)).n) != (((d.getD i default)).n))))), (41, Xv 2 (!((((((d.getD i default)).kind) != (((d.getD i default)).kind)) || ((((d.getD i default)).n) != (((d.getD i default)).n))) || !(sameL (((d.getD i default)).attrs) (((d.getD i default)).attrs)))) (Xi dstepT d (i : Int))), (42, Xv 1 (!((((((d.getD i default)).kind) != (((d.getD i default)).kind)) || ((((d.getD i default)).n) != (((d.getD i default)).n))) || !(sameL (((d.getD i default)).attrs) (((d.getD i default)).attrs)))) X0), (43, Xv 1 (!((((((d.getD i default)).kind) != (((d.getD i default)).kind)) || ((((d.getD i default)).n) != (((d.getD i default)).n))) || !(sameL (((d.getD i default)).attrs) (((d.getD i default)).attrs)))) X0), (46, Xv 2 (!((((((d.getD i default)).kind) != (((d.getD i default)).kind)) || ((((d.getD i default)).n) != (((d.getD i default)).n))) || !(sameL (((d.getD i default)).attrs) (((d.getD i default)).attrs)))) (Xi dstepT d (i : Int))), (47, Xv 1 (!((((((d.getD i default)).kind) != (((d.getD i default)).kind)) || ((((d.getD i default)).n) != (((d.getD i default)).n))) || !(sameL (((d.getD i default)).attrs) (((d.getD i default)).attrs)))) X0), (48, Xv 1 (!((((((d.getD i default)).kind) != (((d.getD i default)).kind)) || ((((d.getD i default)).n) != (((d.getD i default)).n))) || !(sameL (((d.getD i default)).attrs) (((d.getD i default)).attrs)))) X0), (49, Xv 2 (!((((((d.getD i default)).kind) != (((d.getD i default)).kind)) || ((((d.getD i default)).n) != (((d.getD i default)).n))) || !(sameL (((d.getD i default)).attrs) (((d.getD i default)).attrs)))) (Xc0 (fc_sameFlow (((d.getD i default)).elems) (((d.getD i default)).elems)) X0)), (50, Xv 1 (!((((((d.getD i default)).kind) != (((d.getD i default)).kind)) || ((((d.getD i default)).n) != (((d.getD i default)).n))) || !(sameL (((d.getD i default)).attrs) (((d.getD i default)).attrs)))) X0), (51, X (Xk' ((((((d.getD i default)).kind) != (((d.getD i default)).kind)) || ((((d.getD i default)).n) != (((d.getD i default)).n))) || !(sameL (((d.getD i default)).attrs) (((d.getD i default)).attrs)))))]] (((((((d.getD i default)).kind) != (((d.getD i default)).kind)) || ((((d.getD i default)).n) != (((d.getD i default)).n))) || !(sameL (((d.getD i default)).attrs) (((d.getD i default)).attrs))) || !(sameF (((d.getD i default)).elems) (((d.getD i default)).elems))) (fun h6 => ?_) (fun h6 => ?_)
   ·
    (try simp only [Bool.not_eq_true', Bool.not_eq_false', Bool.or_eq_true, Bool.or_eq_false_iff, bne_iff_ne, bne_eq_false_iff_eq, ne_eq] at h6)
    exfalso
    simp [sameL_self, sameF_self] at h6
   ·
    (try simp only [Bool.not_eq_true', Bool.not_eq_false', Bool.or_eq_true, Bool.or_eq_false_iff, bne_iff_ne, bne_eq_false_iff_eq, ne_eq] at h6)
    refine .back [.r [(0, X (Xn ((i : Int) + 1)))]] [] (ih4 ((i + 1) : Nat) ?_ ?_)
    ·
     show _ ≤ _; omega
    ·
     ((try dsimp only); omega)
  ·
   (try simp only [decide_eq_true_eq, decide_eq_false_iff_not, Int.not_lt, Int.not_le] at h4)
   exact .fin [.r []] []

theorem fc_lawTidy (f : List Elem) (raw : List Int) (p : List DStep) (hsz : SzE f) (ha : AN 100000000000 f) (pz : DSz p) (pd : DN 100000000000 p) (pl : p.length ≤ 100000000) (pe : elS p ≤ 10000000000) : FC Try.prog 10 [VL 3 elemT f, VL 1 intT raw, VL 4 dstepT p] (app emp []) (VB true) (app emp []) := by
 refine .go Try.f10 ?_
 refine .len 0 (fun hl0 => ?_)
 refine .len 1 (fun hl1 => ?_)
 refine .len 2 (fun hl2 => ?_)
 have tx := tag_x
 refine .br [.r [], .r [(0, X (Xc0 fc_deltas X0))], .f, .r [(1, X (Xl elemT f))]] (decide ((f.length : Int) > 40)) (fun h3 => ?_) (fun h3 => ?_)
 ·
  (try simp only [decide_eq_true_eq, decide_eq_false_iff_not, Int.not_lt, Int.not_le, gt_iff_lt] at h3)
  have hz0 : SzE (f.take 40) := by first | exact hsz | exact fun x hx => hsz x (List.mem_of_mem_take hx)
  refine .br [.r [(1, X (Xst elemT 3 f 40))], .r [(1, X (Xc0 (fc_partError (f.take 40) (by assumption)) X0))]] ((partE (f.take 40) 0) != 0) (fun h5 => ?_) (fun h5 => ?_)
  ·
   (try simp only [bne_iff_ne, bne_eq_false_iff_eq, ne_eq] at h5)
   exact .fin [.r []] []
  ·
   (try simp only [bne_iff_ne, bne_eq_false_iff_eq, ne_eq] at h5)
   have hlen : ((f.take 40)).length ≤ 40 := by first | omega | (simp only [List.length_take]; omega)
   have hco := change_ok (raw := raw) tag_x (n := Int.toNat (((f.take 40)).length : Int)) (by omega)
   obtain ⟨d, hA⟩ : ∃ z, doneD (actR (chgX raw ({ data := #[120] }) (Int.toNat (((f.take 40)).length : Int))) 0) = z := ⟨_, rfl⟩
   rw [hA] at hco
   obtain ⟨_, _, _, _, va, oa, da, na, _⟩ := hco
   obtain ⟨t1, t2, t3, t4, t5, t6, t7, t8, t9⟩ := tidy_law va da (by omega) (by omega)
   refine .loop (α := Nat × (List DStep)) [.r [(1, X (Xl elemT (f.take 40))), (3, X (Xc1 120 (fc_draw ((f.take 40).length : Int) raw ({ data := #[120] }) (by assumption) (by omega)) X0))], .le (.eq 7 (VL 4 dstepT (doneD (actR (chgX raw ({ data := #[120] }) (Int.toNat ((f.take 40).length : Int))) 0))) (VL 4 dstepT d) (.of_eq (by rw [hA]))), .r [(1, X (Xc1 144 (fc_dTidy d (by assumption) (by omega) (by omega)) X0))], .le (.eq 8 (VL 4 dstepT (tidyL d)) (VL 4 dstepT d) (.of_eq (by rw [t3]))), .r [], .r [(1, X (Xl dstepT d))], .le (.nR 10 4)] 225 (fun (i, o) => ([(2, VL 4 dstepT p), (7, VL 4 dstepT d), (8, VL 4 dstepT d), (9, VI (tidyE d)), (10, .row 224 o.length), (37, VL 4 dstepT d), (38, VI (d.length : Int)), (39, VI (i : Int))], [(224, OR 4 dstepT o)])) (fun (i, o) => i ≤ d.length ∧ o = splitL (d.take i)) (fun (i, o) => d.length - i) (0, []) ?_ ?_
   ·
    exact ⟨by omega, rfl⟩
   rintro ⟨i, o⟩ I11 ih11
   try dsimp only at I11
   refine .br [.r []] (decide ((i : Int) < (d.length : Int))) (fun h11 => ?_) (fun h11 => ?_)
   ·
    (try simp only [decide_eq_true_eq, decide_eq_false_iff_not, Int.not_lt, Int.not_le] at h11)
    obtain ⟨_, hs0, hs1, _⟩ := stepD_sz (step_iff.2 (va.1.all _ (getD_mem' (l := d) (k := i) (by omega))))
    have sb0 : SB d i o 0 0 := I11.2 ▸ SB.start
    refine .loop (α := Nat × (List DStep)) [.r [(0, X (Xi dstepT d (i : Int)))], .r []] 289 (fun (j, o2) => ([(2, VL 4 dstepT p), (7, VL 4 dstepT d), (8, VL 4 dstepT d), (9, VI (tidyE d)), (10, .row 224 o2.length), (12, .ptr 249 0), (37, VL 4 dstepT d), (38, VI (d.length : Int)), (39, VI (i : Int)), (44, VI (((d.getD i default)).n)), (45, VI (j : Int))], [(224, OR 4 dstepT o2), (249, .box [VI (((d.getD i default)).kind), VI (((d.getD i default)).n), VL 2 attrT (((d.getD i default)).attrs), VL 3 elemT (((d.getD i default)).elems)])])) (fun (j, o2) => (j : Int) ≤ (d.getD i default).n ∧ SB d i o2 j 0) (fun (j, o2) => (d.getD i default).n.toNat - j) (0, o) ?_ ?_
    ·
     exact ⟨by omega, sb0⟩
    rintro ⟨j, o2⟩ I14 ih14
    try dsimp only at I14
    obtain ⟨sl1, sl2⟩ := I14.2.len (by omega) (by omega) (by omega)
    refine .br [.r []] (decide ((j : Int) < (((d.getD i default)).n))) (fun h14 => ?_) (fun h14 => ?_)
    ·
     (try simp only [decide_eq_true_eq, decide_eq_false_iff_not, Int.not_lt, Int.not_le] at h14)
     refine .back [.r [(5, X (Xf [(3, 3)])), (7, X (rowC dstepT [({ kind := ((d.getD i default)).kind, n := 1, attrs := ((d.getD i default)).attrs, elems := [] } : DStep)] (Xap 4 dstepT 224 o2 [({ kind := ((d.getD i default)).kind, n := 1, attrs := ((d.getD i default)).attrs, elems := [] } : DStep)])))], .r [(0, X (Xn ((j : Int) + 1)))]] [(224, 224), (249, 249)] (ih14 ((j + 1), (o2 ++ [({ kind := ((d.getD i default)).kind, n := 1, attrs := ((d.getD i default)).attrs, elems := [] } : DStep)])) ?_ ?_)
     ·
      exact ⟨by omega, I14.2.one⟩
     ·
      ((try dsimp only); omega)
    ·
     (try simp only [decide_eq_true_eq, decide_eq_false_iff_not, Int.not_lt, Int.not_le] at h14)
     have sb1 : SB d i o2 (d.getD i default).n.toNat 0 := by have q := I14.2; rw [show j = (d.getD i default).n.toNat by omega] at q; exact q
     refine .loop (α := Nat × (List DStep)) [.r [(2, X (Xl elemT (((d.getD i default)).elems)))]] 329 (fun (k, o3) => ([(2, VL 4 dstepT p), (7, VL 4 dstepT d), (8, VL 4 dstepT d), (9, VI (tidyE d)), (10, .row 224 o3.length), (12, .ptr 249 0), (37, VL 4 dstepT d), (38, VI (d.length : Int)), (39, VI (i : Int)), (58, VI ((((d.getD i default)).elems).length : Int)), (59, VI (k : Int))], [(224, OR 4 dstepT o3), (249, .box [VI (((d.getD i default)).kind), VI (((d.getD i default)).n), VL 2 attrT (((d.getD i default)).attrs), VL 3 elemT (((d.getD i default)).elems)])])) (fun (k, o3) => k ≤ (d.getD i default).elems.length ∧ SB d i o3 (d.getD i default).n.toNat k) (fun (k, o3) => (d.getD i default).elems.length - k) (0, o2) ?_ ?_
     ·
      exact ⟨by omega, sb1⟩
     rintro ⟨k, o3⟩ I18 ih18
     try dsimp only at I18
     obtain ⟨sl1, sl2⟩ := I18.2.len (by omega) (by omega) (by omega)
     refine .br [.r []] (decide ((k : Int) < ((((d.getD i default)).elems).length : Int))) (fun h18 => ?_) (fun h18 => ?_)
     ·
      (try simp only [decide_eq_true_eq, decide_eq_false_iff_not, Int.not_lt, Int.not_le] at h18)
      refine .back [.r [], .r [(5, X (Xn ((k : Int) + 1))), (6, X (Xsb elemT 3 (((d.getD i default)).elems) (k : Int) ((k : Int) + 1))), (7, X (Xf [(2, 2)])), (8, X (Xf [(2, 2), (3, 3)])), (10, X (rowC dstepT [({ kind := 1, n := 0, attrs := [], elems := (((((d.getD i default)).elems).take (k + 1)).drop k) } : DStep), ({ kind := 0, n := 0, attrs := [], elems := [] } : DStep)] (Xap 4 dstepT 224 o3 [({ kind := 1, n := 0, attrs := [], elems := (((((d.getD i default)).elems).take (k + 1)).drop k) } : DStep), ({ kind := 0, n := 0, attrs := [], elems := [] } : DStep)])))], .r [(0, X (Xn ((k : Int) + 1)))]] [(224, 224), (249, 249)] (ih18 ((k + 1), (o3 ++ [({ kind := 1, n := 0, attrs := [], elems := (((((d.getD i default)).elems).take (k + 1)).drop k) } : DStep), ({ kind := 0, n := 0, attrs := [], elems := [] } : DStep)])) ?_ ?_)
      ·
       exact ⟨by omega, I18.2.two (by omega)⟩
      ·
       ((try dsimp only); omega)
     ·
      (try simp only [decide_eq_true_eq, decide_eq_false_iff_not, Int.not_lt, Int.not_le] at h18)
      refine .back [.r [(0, X (Xn ((i : Int) + 1)))]] [(224, 224)] (ih11 ((i + 1), o3) ?_ ?_)
      ·
       exact ⟨by omega, I18.2.fin (by omega) rfl (by omega)⟩
      ·
       ((try dsimp only); omega)
   ·
    (try simp only [decide_eq_true_eq, decide_eq_false_iff_not, Int.not_lt, Int.not_le] at h11)
    have ho : o = splitL d := by rw [I11.2, List.take_of_length_le (by omega)]
    rw [← ho] at t5 t6 t7
    have pn := tidy_dn pd (by omega) (by omega)
    have pz2 := tidy_sz pz
    have pr := fun h => tidy_ref (d := p) h
    rw [← ho] at t9
    have e1 : (((((((tidyE d) == 0) && ((tidyE o) == 0)) || false) || false) && (((tidyE p) != 0) || ((refD (tidyL p)) == 0))) : Bool) = true := by
     by_cases q : tidyE p = 0
     · simp [t4, t9, q, pr q]
     · simp [t4, t9, q]
    exact .finE [.r [(1, X (Xc1 241 (fc_dTidy o (by assumption) (by omega) (by omega)) (rowC dstepT o X0)))], .le (.eq 14 (VL 4 dstepT (tidyL o)) (VL 4 dstepT d) (.of_eq (by rw [ho, t8]))), .r [(1, X (Xc1 297 (fc_dTidy p (by assumption) (by omega) (by omega)) X0))], .r [(4, Xv 1 ((tidyE d) == 0) X0), (5, X (Xk ((tidyE d) == 0))), (9, Xv 2 (((tidyE d) == 0) && ((tidyE o) == 0)) (Xc0 (fc_sameDelta d) X0)), (10, X (Xk (((tidyE d) == 0) && ((tidyE o) == 0)))), (14, Xv 2 ((((tidyE d) == 0) && ((tidyE o) == 0)) || false) (Xc0 (fc_sameDelta d) X0)), (15, X (Xk ((((tidyE d) == 0) && ((tidyE o) == 0)) || false))), (18, Xv 1 (((((tidyE d) == 0) && ((tidyE o) == 0)) || false) || false) X0), (19, Xv 1 (((((tidyE d) == 0) && ((tidyE o) == 0)) || false) || false) X0), (21, Xv 1 ((((((tidyE d) == 0) && ((tidyE o) == 0)) || false) || false) && !((tidyE p) != 0)) (Xc0 (fc_refD (tidyL p) (by assumption) (by assumption)) X0)), (22, Xv 1 ((((((tidyE d) == 0) && ((tidyE o) == 0)) || false) || false) && !((tidyE p) != 0)) X0), (23, Xko (((((tidyE d) == 0) && ((tidyE o) == 0)) || false) || false) ((tidyE p) != 0)), (24, X (Xk (((((tidyE d) == 0) && ((tidyE o) == 0)) || false) || false)))]] [] (fun z0 => (VB z0, [])) (((((((tidyE d) == 0) && ((tidyE o) == 0)) || false) || false) && (((tidyE p) != 0) || ((refD (tidyL p)) == 0))) : Bool) (true : Bool) e1.symm
 ·
  (try simp only [decide_eq_true_eq, decide_eq_false_iff_not, Int.not_lt, Int.not_le, gt_iff_lt] at h3)
  have hz0 : SzE f := by first | exact hsz | exact fun x hx => hsz x (List.mem_of_mem_take hx)
  refine .br [.r [(1, X (Xc0 (fc_partError f (by assumption)) X0))]] ((partE f 0) != 0) (fun h5 => ?_) (fun h5 => ?_)
  ·
   (try simp only [bne_iff_ne, bne_eq_false_iff_eq, ne_eq] at h5)
   exact .fin [.r []] []
  ·
   (try simp only [bne_iff_ne, bne_eq_false_iff_eq, ne_eq] at h5)
   have hlen : (f).length ≤ 40 := by first | omega | (simp only [List.length_take]; omega)
   have hco := change_ok (raw := raw) tag_x (n := Int.toNat ((f).length : Int)) (by omega)
   obtain ⟨d, hA⟩ : ∃ z, doneD (actR (chgX raw ({ data := #[120] }) (Int.toNat ((f).length : Int))) 0) = z := ⟨_, rfl⟩
   rw [hA] at hco
   obtain ⟨_, _, _, _, va, oa, da, na, _⟩ := hco
   obtain ⟨t1, t2, t3, t4, t5, t6, t7, t8, t9⟩ := tidy_law va da (by omega) (by omega)
   refine .loop (α := Nat × (List DStep)) [.r [(1, X (Xl elemT f)), (3, X (Xc1 96 (fc_draw (f.length : Int) raw ({ data := #[120] }) (by assumption) (by omega)) X0))], .le (.eq 7 (VL 4 dstepT (doneD (actR (chgX raw ({ data := #[120] }) (Int.toNat (f.length : Int))) 0))) (VL 4 dstepT d) (.of_eq (by rw [hA]))), .r [(1, X (Xc1 120 (fc_dTidy d (by assumption) (by omega) (by omega)) X0))], .le (.eq 8 (VL 4 dstepT (tidyL d)) (VL 4 dstepT d) (.of_eq (by rw [t3]))), .r [], .r [(1, X (Xl dstepT d))], .le (.nR 10 4)] 201 (fun (i, o) => ([(2, VL 4 dstepT p), (7, VL 4 dstepT d), (8, VL 4 dstepT d), (9, VI (tidyE d)), (10, .row 200 o.length), (37, VL 4 dstepT d), (38, VI (d.length : Int)), (39, VI (i : Int))], [(200, OR 4 dstepT o)])) (fun (i, o) => i ≤ d.length ∧ o = splitL (d.take i)) (fun (i, o) => d.length - i) (0, []) ?_ ?_
   ·
    exact ⟨by omega, rfl⟩
   rintro ⟨i, o⟩ I11 ih11
   try dsimp only at I11
   refine .br [.r []] (decide ((i : Int) < (d.length : Int))) (fun h11 => ?_) (fun h11 => ?_)
   ·
    (try simp only [decide_eq_true_eq, decide_eq_false_iff_not, Int.not_lt, Int.not_le] at h11)
    obtain ⟨_, hs0, hs1, _⟩ := stepD_sz (step_iff.2 (va.1.all _ (getD_mem' (l := d) (k := i) (by omega))))
    have sb0 : SB d i o 0 0 := I11.2 ▸ SB.start
    refine .loop (α := Nat × (List DStep)) [.r [(0, X (Xi dstepT d (i : Int)))], .r []] 265 (fun (j, o2) => ([(2, VL 4 dstepT p), (7, VL 4 dstepT d), (8, VL 4 dstepT d), (9, VI (tidyE d)), (10, .row 200 o2.length), (12, .ptr 225 0), (37, VL 4 dstepT d), (38, VI (d.length : Int)), (39, VI (i : Int)), (44, VI (((d.getD i default)).n)), (45, VI (j : Int))], [(200, OR 4 dstepT o2), (225, .box [VI (((d.getD i default)).kind), VI (((d.getD i default)).n), VL 2 attrT (((d.getD i default)).attrs), VL 3 elemT (((d.getD i default)).elems)])])) (fun (j, o2) => (j : Int) ≤ (d.getD i default).n ∧ SB d i o2 j 0) (fun (j, o2) => (d.getD i default).n.toNat - j) (0, o) ?_ ?_
    ·
     exact ⟨by omega, sb0⟩
    rintro ⟨j, o2⟩ I14 ih14
    try dsimp only at I14
    obtain ⟨sl1, sl2⟩ := I14.2.len (by omega) (by omega) (by omega)
    refine .br [.r []] (decide ((j : Int) < (((d.getD i default)).n))) (fun h14 => ?_) (fun h14 => ?_)
    ·
     (try simp only [decide_eq_true_eq, decide_eq_false_iff_not, Int.not_lt, Int.not_le] at h14)
     refine .back [.r [(5, X (Xf [(3, 3)])), (7, X (rowC dstepT [({ kind := ((d.getD i default)).kind, n := 1, attrs := ((d.getD i default)).attrs, elems := [] } : DStep)] (Xap 4 dstepT 200 o2 [({ kind := ((d.getD i default)).kind, n := 1, attrs := ((d.getD i default)).attrs, elems := [] } : DStep)])))], .r [(0, X (Xn ((j : Int) + 1)))]] [(200, 200), (225, 225)] (ih14 ((j + 1), (o2 ++ [({ kind := ((d.getD i default)).kind, n := 1, attrs := ((d.getD i default)).attrs, elems := [] } : DStep)])) ?_ ?_)
     ·
      exact ⟨by omega, I14.2.one⟩
     ·
      ((try dsimp only); omega)
    ·
     (try simp only [decide_eq_true_eq, decide_eq_false_iff_not, Int.not_lt, Int.not_le] at h14)
     have sb1 : SB d i o2 (d.getD i default).n.toNat 0 := by have q := I14.2; rw [show j = (d.getD i default).n.toNat by omega] at q; exact q
     refine .loop (α := Nat × (List DStep)) [.r [(2, X (Xl elemT (((d.getD i default)).elems)))]] 305 (fun (k, o3) => ([(2, VL 4 dstepT p), (7, VL 4 dstepT d), (8, VL 4 dstepT d), (9, VI (tidyE d)), (10, .row 200 o3.length), (12, .ptr 225 0), (37, VL 4 dstepT d), (38, VI (d.length : Int)), (39, VI (i : Int)), (58, VI ((((d.getD i default)).elems).length : Int)), (59, VI (k : Int))], [(200, OR 4 dstepT o3), (225, .box [VI (((d.getD i default)).kind), VI (((d.getD i default)).n), VL 2 attrT (((d.getD i default)).attrs), VL 3 elemT (((d.getD i default)).elems)])])) (fun (k, o3) => k ≤ (d.getD i default).elems.length ∧ SB d i o3 (d.getD i default).n.toNat k) (fun (k, o3) => (d.getD i default).elems.length - k) (0, o2) ?_ ?_
     ·
      exact ⟨by omega, sb1⟩
     rintro ⟨k, o3⟩ I18 ih18
     try dsimp only at I18
     obtain ⟨sl1, sl2⟩ := I18.2.len (by omega) (by omega) (by omega)
     refine .br [.r []] (decide ((k : Int) < ((((d.getD i default)).elems).length : Int))) (fun h18 => ?_) (fun h18 => ?_)
     ·
      (try simp only [decide_eq_true_eq, decide_eq_false_iff_not, Int.not_lt, Int.not_le] at h18)
      refine .back [.r [], .r [(5, X (Xn ((k : Int) + 1))), (6, X (Xsb elemT 3 (((d.getD i default)).elems) (k : Int) ((k : Int) + 1))), (7, X (Xf [(2, 2)])), (8, X (Xf [(2, 2), (3, 3)])), (10, X (rowC dstepT [({ kind := 1, n := 0, attrs := [], elems := (((((d.getD i default)).elems).take (k + 1)).drop k) } : DStep), ({ kind := 0, n := 0, attrs := [], elems := [] } : DStep)] (Xap 4 dstepT 200 o3 [({ kind := 1, n := 0, attrs := [], elems := (((((d.getD i default)).elems).take (k + 1)).drop k) } : DStep), ({ kind := 0, n := 0, attrs := [], elems := [] } : DStep)])))], .r [(0, X (Xn ((k : Int) + 1)))]] [(200, 200), (225, 225)] (ih18 ((k + 1), (o3 ++ [({ kind := 1, n := 0, attrs := [], elems := (((((d.getD i default)).elems).take (k + 1)).drop k) } : DStep), ({ kind := 0, n := 0, attrs := [], elems := [] } : DStep)])) ?_ ?_)
      ·
       exact ⟨by omega, I18.2.two (by omega)⟩
      ·
       ((try dsimp only); omega)
     ·
      (try simp only [decide_eq_true_eq, decide_eq_false_iff_not, Int.not_lt, Int.not_le] at h18)
      refine .back [.r [(0, X (Xn ((i : Int) + 1)))]] [(200, 200)] (ih11 ((i + 1), o3) ?_ ?_)
      ·
       exact ⟨by omega, I18.2.fin (by omega) rfl (by omega)⟩
      ·
       ((try dsimp only); omega)
   ·
    (try simp only [decide_eq_true_eq, decide_eq_false_iff_not, Int.not_lt, Int.not_le] at h11)
    have ho : o = splitL d := by rw [I11.2, List.take_of_length_le (by omega)]
    rw [← ho] at t5 t6 t7
    have pn := tidy_dn pd (by omega) (by omega)
    have pz2 := tidy_sz pz
    have pr := fun h => tidy_ref (d := p) h
    rw [← ho] at t9
    have e2 : (((((((tidyE d) == 0) && ((tidyE o) == 0)) || false) || false) && (((tidyE p) != 0) || ((refD (tidyL p)) == 0))) : Bool) = true := by
     by_cases q : tidyE p = 0
     · simp [t4, t9, q, pr q]
     · simp [t4, t9, q]
    exact .finE [.r [(1, X (Xc1 217 (fc_dTidy o (by assumption) (by omega) (by omega)) (rowC dstepT o X0)))], .le (.eq 14 (VL 4 dstepT (tidyL o)) (VL 4 dstepT d) (.of_eq (by rw [ho, t8]))), .r [(1, X (Xc1 273 (fc_dTidy p (by assumption) (by omega) (by omega)) X0))], .r [(4, Xv 1 ((tidyE d) == 0) X0), (5, X (Xk ((tidyE d) == 0))), (9, Xv 2 (((tidyE d) == 0) && ((tidyE o) == 0)) (Xc0 (fc_sameDelta d) X0)), (10, X (Xk (((tidyE d) == 0) && ((tidyE o) == 0)))), (14, Xv 2 ((((tidyE d) == 0) && ((tidyE o) == 0)) || false) (Xc0 (fc_sameDelta d) X0)), (15, X (Xk ((((tidyE d) == 0) && ((tidyE o) == 0)) || false))), (18, Xv 1 (((((tidyE d) == 0) && ((tidyE o) == 0)) || false) || false) X0), (19, Xv 1 (((((tidyE d) == 0) && ((tidyE o) == 0)) || false) || false) X0), (21, Xv 1 ((((((tidyE d) == 0) && ((tidyE o) == 0)) || false) || false) && !((tidyE p) != 0)) (Xc0 (fc_refD (tidyL p) (by assumption) (by assumption)) X0)), (22, Xv 1 ((((((tidyE d) == 0) && ((tidyE o) == 0)) || false) || false) && !((tidyE p) != 0)) X0), (23, Xko (((((tidyE d) == 0) && ((tidyE o) == 0)) || false) || false) ((tidyE p) != 0)), (24, X (Xk (((((tidyE d) == 0) && ((tidyE o) == 0)) || false) || false)))]] [] (fun z0 => (VB z0, [])) (((((((tidyE d) == 0) && ((tidyE o) == 0)) || false) || false) && (((tidyE p) != 0) || ((refD (tidyL p)) == 0))) : Bool) (true : Bool) e2.symm
end Go.Ch
end
section
set_option linter.unusedVariables false
set_option linter.unusedSimpArgs false
namespace Go.Proofs.Ytbdbibmbfmlobaa.frame
open Go Go.Proofs
def chs (l : List Nat) : List Char := l.map Char.ofNat
def w1 : List Char := chs [104, 97, 114, 110, 101, 115, 115]
def w2 : List Char := chs [102, 99, 57, 53, 99, 99, 54, 48, 52, 99, 55, 51, 55, 49, 100, 51, 97, 56, 102, 99, 55, 97, 51, 57, 52, 52, 50, 100, 100, 57, 102, 97, 97, 99, 52, 99, 99, 102, 50, 53, 100, 98, 52, 98, 52, 52, 50, 100, 56, 50, 102, 102, 97, 49, 97, 50, 48, 51, 57, 48, 102, 97, 101, 102]
def w3 : List Char := chs [99, 117, 116]
def sp : Char := Char.ofNat 32
theorem ws_sp (r : List Char) : wordsSigns (sp :: r) = [] :: wordsSigns r := rfl
theorem ws_c (c : Char) (r : List Char) (h : c ≠ sp) : wordsSigns (c :: r) = match wordsSigns r with
    | w :: ws => (c :: w) :: ws
    | [] => [[c]] := by
  rw [wordsSigns.eq_def]
  split
  · rename_i e; cases e
  · rename_i e; simp only [List.cons.injEq] at e; exact absurd e.1 h
  · rename_i e; simp only [List.cons.injEq] at e; obtain ⟨rfl, rfl⟩ := e; rfl
theorem ws_app : ∀ (a : List Char), (a.all fun c => c != sp) = true → ∀ r, wordsSigns (a ++ sp :: r) = a :: wordsSigns r
  | [], _, r => ws_sp r
  | c :: a, h, r => by
    simp only [List.all_cons, Bool.and_eq_true, bne_iff_ne] at h
    rw [List.cons_append, ws_c _ _ h.1, ws_app a h.2 r]
theorem tl (l : List Char) : (String.ofList l).toList = l := String.toList_ofList
theorem k1 : ("harness" : String).toList = w1 := tl w1
theorem k2 : ("cut" : String).toList = w3 := tl w3
theorem k3 : ("gc" : String).toList = chs [103, 99] := tl (chs [103, 99])
theorem k4 : ("spec" : String).toList = chs [115, 112, 101, 99] := tl (chs [115, 112, 101, 99])
theorem k5 : ("carried" : String).toList = chs [99, 97, 114, 114, 105, 101, 100] := tl (chs [99, 97, 114, 114, 105, 101, 100])
theorem lifts (r : List (List Char)) : stripLifts liftWords (w3 :: r) = ([], w3 :: r) := by
  unfold liftWords
  simp only [stripLifts]
  have key : ∀ l : List Nat, (w3 == chs l) = false → ∀ (s : String), s = String.ofList (chs l) → (w3 == s.toList) = false := fun l h s e => by rw [e, tl]; exact h
  rw [if_neg (by rw [key [102, 105, 110, 97, 108, 115] (by kernel_rfl) "finals" rfl]; decide)]
  rw [if_neg (by rw [key [114, 101, 102, 108, 101, 99, 116, 114, 111, 119, 115] (by kernel_rfl) "reflectrows" rfl]; decide)]
  rw [if_neg (by rw [key [108, 101, 97, 110, 114, 111, 119, 115] (by kernel_rfl) "leanrows" rfl]; decide)]
  rw [if_neg (by rw [key [111, 110, 101, 98, 117, 105, 108, 100] (by kernel_rfl) "onebuild" rfl]; decide)]
  rw [if_neg (by rw [key [112, 117, 98, 108, 105, 99, 115, 117, 109, 115] (by kernel_rfl) "publicsums" rfl]; decide)]
  rw [if_neg (by rw [key [101, 113, 103, 117, 97, 114, 100] (by kernel_rfl) "eqguard" rfl]; decide)]
  rw [if_neg (by rw [key [111, 119, 110, 117, 110, 115, 97, 102, 101] (by kernel_rfl) "ownunsafe" rfl]; decide)]
  rw [if_neg (by rw [key [108, 105, 98, 98, 101, 115, 105, 100, 101] (by kernel_rfl) "libbeside" rfl]; decide)]
  rw [if_neg (by rw [key [111, 119, 110, 98, 101, 115, 105, 100, 101] (by kernel_rfl) "ownbeside" rfl]; decide)]
  rw [if_neg (by rw [key [114, 101, 102, 108, 98, 101, 115, 105, 100, 101] (by kernel_rfl) "reflbeside" rfl]; decide)]
  rw [if_neg (by rw [key [97, 108, 105, 97, 115, 101, 115] (by kernel_rfl) "aliases" rfl]; decide)]
  rw [if_neg (by rw [key [97, 102, 116, 101, 114, 105, 110, 105, 116] (by kernel_rfl) "afterinit" rfl]; decide)]
  rw [if_neg (by rw [key [99, 114, 99, 112, 108, 97, 105, 110] (by kernel_rfl) "crcplain" rfl]; decide)]
  rw [if_neg (by rw [key [114, 111, 97, 100, 117, 110, 115, 97, 102, 101] (by kernel_rfl) "roadunsafe" rfl]; decide)]
  rw [if_neg (by rw [key [102, 109, 116, 104, 97, 110, 100, 111, 110] (by kernel_rfl) "fmthandon" rfl]; decide)]
theorem words {P : Program} {rest : List Char} (h : P.initOrder.toList = w1 ++ sp :: (w2 ++ sp :: (w3 ++ sp :: rest))) : behindMainWord (wordsSigns P.initOrder.toList) = w3 :: wordsSigns rest := by
  rw [h, ws_app w1 (by kernel_rfl), ws_app w2 (by kernel_rfl), ws_app w3 (by kernel_rfl)]
  unfold behindMainWord
  rw [k1]
  exact if_pos (by kernel_rfl)
theorem may {P : Program} {rest : List Char} (h : P.initOrder.toList = w1 ++ sp :: (w2 ++ sp :: (w3 ++ sp :: rest))) (hl : P.laysLater = false) (hb : P.bearsReflect = false) (hd : P.doorFits [] = true) : P.mayEnter = true := by
  unfold Program.mayEnter
  rw [words h]
  simp only [lifts, k2, k3, k4, k5, hl, hb, hd]
  have h1 : (w3 == chs [103, 99]) = false := by kernel_rfl
  have h2 : (w3 == chs [115, 112, 101, 99]) = false := by kernel_rfl
  have h3 : (w3 == chs [99, 97, 114, 114, 105, 101, 100]) = false := by kernel_rfl
  rw [h1, h2, h3]
  simp
theorem fin {P : Program} {rest : List Char} (h : P.initOrder.toList = w1 ++ sp :: (w2 ++ sp :: (w3 ++ sp :: rest))) : P.liftsFinal = false := by
  unfold Program.liftsFinal Program.headLifts
  rw [words h]
  simp only [lifts, k2, k5]
  have h3 : (w3 == chs [99, 97, 114, 114, 105, 101, 100]) = false := by kernel_rfl
  simp [h3]
theorem mk {P : Program} {rest : List Char} (h : P.initOrder.toList = w1 ++ sp :: (w2 ++ sp :: (w3 ++ sp :: rest))) : P.make = some .cut := by
  unfold Program.make
  rw [words h]
  simp only [k2, k3, k4, k5]
  have h1 : (w3 == chs [103, 99]) = false := by kernel_rfl
  have h2 : (w3 == chs [115, 112, 101, 99]) = false := by kernel_rfl
  rw [h1, h2]
  simp
theorem head : Try.pinned.checked.prog.initOrder = String.ofList (w1 ++ sp :: (w2 ++ sp :: (w3 ++ sp :: chs [97, 116, 32, 99, 104, 97, 110, 99, 101, 114, 121, 47, 99, 104, 97, 110, 99, 101, 114, 121, 107, 101, 101, 112, 49, 46, 83, 112, 97, 110, 83, 105, 122, 101, 115, 65, 100, 100, 32, 99, 104, 97, 110, 99, 101, 114, 121, 47, 99, 104, 97, 110, 99, 101, 114, 121, 107, 101, 101, 112, 49, 46, 65, 116, 116, 114, 85, 110, 100, 111, 82, 101, 115, 116, 111, 114, 101, 115, 32, 99, 104, 97, 110, 99, 101, 114, 121, 47, 99, 104, 97, 110, 99, 101, 114, 121, 107, 101, 101, 112, 49, 46, 65, 116, 116, 114, 66, 101, 116, 119, 101, 101, 110, 76, 101, 97, 100, 115, 32, 99, 104, 97, 110, 99, 101, 114, 121, 47, 99, 104, 97, 110, 99, 101, 114, 121, 107, 101, 101, 112, 49, 46, 65, 116, 116, 114, 80, 97, 105, 114, 77, 101, 101, 116, 115, 32, 99, 104, 97, 110, 99, 101, 114, 121, 47, 99, 104, 97, 110, 99, 101, 114, 121, 107, 101, 101, 112, 49, 46, 65, 120, 105, 115, 74, 111, 105, 110, 65, 115, 115, 111, 99, 105, 97, 116, 101, 115, 32, 99, 104, 97, 110, 99, 101, 114, 121, 47, 99, 104, 97, 110, 99, 101, 114, 121, 107, 101, 101, 112, 49, 46, 65, 120, 105, 115, 80, 97, 105, 114, 77, 101, 101, 116, 115, 32, 99, 104, 97, 110, 99, 101, 114, 121, 47, 99, 104, 97, 110, 99, 101, 114, 121, 107, 101, 101, 112, 49, 46, 65, 120, 105, 115, 80, 108, 97, 99, 101, 115, 75, 101, 101, 112, 79, 114, 100, 101, 114, 32, 99, 104, 97, 110, 99, 101, 114, 121, 47, 99, 104, 97, 110, 99, 101, 114, 121, 107, 101, 101, 112, 49, 46, 68, 101, 108, 116, 97, 84, 105, 100, 121, 65, 99, 116, 115, 32, 99, 104, 97, 110, 99, 101, 114, 121, 47, 99, 104, 97, 110, 99, 101, 114, 121, 107, 101, 101, 112, 49, 46, 68, 101, 108, 116, 97, 85, 110, 100, 111, 82, 101, 115, 116, 111, 114, 101, 115, 32, 99, 104, 97, 110, 99, 101, 114, 121, 47, 99, 104, 97, 110, 99, 101, 114, 121, 107, 101, 101, 112, 49, 46, 68, 101, 108, 116, 97, 74, 111, 105, 110, 65, 99, 116, 115, 32, 99, 104, 97, 110, 99, 101, 114, 121, 47, 99, 104, 97, 110, 99, 101, 114, 121, 107, 101, 101, 112, 49, 46, 68, 101, 108, 116, 97, 80, 97, 105, 114, 77, 101, 101, 116, 115, 32, 99, 104, 97, 110, 99, 101, 114, 121, 47, 99, 104, 97, 110, 99, 101, 114, 121, 107, 101, 101, 112, 49, 46, 68, 105, 102, 102, 66, 111, 116, 104, 87, 97, 121, 115, 32, 99, 104, 97, 110, 99, 101, 114, 121, 47, 99, 104, 97, 110, 99, 101, 114, 121, 107, 101, 101, 112, 49, 46, 84, 114, 97, 99, 107, 65, 99, 99, 101, 112, 116, 83, 104, 111, 119, 115, 32, 99, 104, 97, 110, 99, 101, 114, 121, 47, 99, 104, 97, 110, 99, 101, 114, 121, 107, 101, 101, 112, 49, 46, 83, 112, 97, 110, 84, 104, 114, 111, 117, 103, 104, 67, 111, 110, 116, 97, 105, 110, 115, 32, 99, 104, 97, 110, 99, 101, 114, 121, 47, 99, 104, 97, 110, 99, 101, 114, 121, 107, 101, 101, 112, 49, 46, 77, 101, 114, 103, 101, 79, 110, 101, 83, 105, 100, 101, 100, 32, 99, 104, 97, 110, 99, 101, 114, 121, 47, 99, 104, 97, 110, 99, 101, 114, 121, 107, 101, 101, 112, 49, 46, 77, 101, 114, 103, 101, 69, 120, 99, 104, 97, 110, 103, 101, 100, 32, 99, 104, 97, 110, 99, 101, 114, 121, 47, 99, 104, 97, 110, 99, 101, 114, 121, 107, 101, 101, 112, 49, 46, 68, 101, 108, 116, 97, 65, 120, 105, 115, 65, 103, 114, 101, 101, 115]))) := by kernel_rfl
set_option maxRecDepth 100000 in
theorem headL : Try.pinned.checked.prog.initOrder.toList = w1 ++ sp :: (w2 ++ sp :: (w3 ++ sp :: chs [97, 116, 32, 99, 104, 97, 110, 99, 101, 114, 121, 47, 99, 104, 97, 110, 99, 101, 114, 121, 107, 101, 101, 112, 49, 46, 83, 112, 97, 110, 83, 105, 122, 101, 115, 65, 100, 100, 32, 99, 104, 97, 110, 99, 101, 114, 121, 47, 99, 104, 97, 110, 99, 101, 114, 121, 107, 101, 101, 112, 49, 46, 65, 116, 116, 114, 85, 110, 100, 111, 82, 101, 115, 116, 111, 114, 101, 115, 32, 99, 104, 97, 110, 99, 101, 114, 121, 47, 99, 104, 97, 110, 99, 101, 114, 121, 107, 101, 101, 112, 49, 46, 65, 116, 116, 114, 66, 101, 116, 119, 101, 101, 110, 76, 101, 97, 100, 115, 32, 99, 104, 97, 110, 99, 101, 114, 121, 47, 99, 104, 97, 110, 99, 101, 114, 121, 107, 101, 101, 112, 49, 46, 65, 116, 116, 114, 80, 97, 105, 114, 77, 101, 101, 116, 115, 32, 99, 104, 97, 110, 99, 101, 114, 121, 47, 99, 104, 97, 110, 99, 101, 114, 121, 107, 101, 101, 112, 49, 46, 65, 120, 105, 115, 74, 111, 105, 110, 65, 115, 115, 111, 99, 105, 97, 116, 101, 115, 32, 99, 104, 97, 110, 99, 101, 114, 121, 47, 99, 104, 97, 110, 99, 101, 114, 121, 107, 101, 101, 112, 49, 46, 65, 120, 105, 115, 80, 97, 105, 114, 77, 101, 101, 116, 115, 32, 99, 104, 97, 110, 99, 101, 114, 121, 47, 99, 104, 97, 110, 99, 101, 114, 121, 107, 101, 101, 112, 49, 46, 65, 120, 105, 115, 80, 108, 97, 99, 101, 115, 75, 101, 101, 112, 79, 114, 100, 101, 114, 32, 99, 104, 97, 110, 99, 101, 114, 121, 47, 99, 104, 97, 110, 99, 101, 114, 121, 107, 101, 101, 112, 49, 46, 68, 101, 108, 116, 97, 84, 105, 100, 121, 65, 99, 116, 115, 32, 99, 104, 97, 110, 99, 101, 114, 121, 47, 99, 104, 97, 110, 99, 101, 114, 121, 107, 101, 101, 112, 49, 46, 68, 101, 108, 116, 97, 85, 110, 100, 111, 82, 101, 115, 116, 111, 114, 101, 115, 32, 99, 104, 97, 110, 99, 101, 114, 121, 47, 99, 104, 97, 110, 99, 101, 114, 121, 107, 101, 101, 112, 49, 46, 68, 101, 108, 116, 97, 74, 111, 105, 110, 65, 99, 116, 115, 32, 99, 104, 97, 110, 99, 101, 114, 121, 47, 99, 104, 97, 110, 99, 101, 114, 121, 107, 101, 101, 112, 49, 46, 68, 101, 108, 116, 97, 80, 97, 105, 114, 77, 101, 101, 116, 115, 32, 99, 104, 97, 110, 99, 101, 114, 121, 47, 99, 104, 97, 110, 99, 101, 114, 121, 107, 101, 101, 112, 49, 46, 68, 105, 102, 102, 66, 111, 116, 104, 87, 97, 121, 115, 32, 99, 104, 97, 110, 99, 101, 114, 121, 47, 99, 104, 97, 110, 99, 101, 114, 121, 107, 101, 101, 112, 49, 46, 84, 114, 97, 99, 107, 65, 99, 99, 101, 112, 116, 83, 104, 111, 119, 115, 32, 99, 104, 97, 110, 99, 101, 114, 121, 47, 99, 104, 97, 110, 99, 101, 114, 121, 107, 101, 101, 112, 49, 46, 83, 112, 97, 110, 84, 104, 114, 111, 117, 103, 104, 67, 111, 110, 116, 97, 105, 110, 115, 32, 99, 104, 97, 110, 99, 101, 114, 121, 47, 99, 104, 97, 110, 99, 101, 114, 121, 107, 101, 101, 112, 49, 46, 77, 101, 114, 103, 101, 79, 110, 101, 83, 105, 100, 101, 100, 32, 99, 104, 97, 110, 99, 101, 114, 121, 47, 99, 104, 97, 110, 99, 101, 114, 121, 107, 101, 101, 112, 49, 46, 77, 101, 114, 103, 101, 69, 120, 99, 104, 97, 110, 103, 101, 100, 32, 99, 104, 97, 110, 99, 101, 114, 121, 47, 99, 104, 97, 110, 99, 101, 114, 121, 107, 101, 101, 112, 49, 46, 68, 101, 108, 116, 97, 65, 120, 105, 115, 65, 103, 114, 101, 101, 115])) := by rw [head, tl]
theorem later : Try.pinned.checked.prog.laysLater = false := by kernel_rfl
theorem refl : Try.pinned.checked.prog.bearsReflect = false := by kernel_rfl
theorem door : Try.pinned.checked.prog.doorFits [] = true := by kernel_rfl
theorem mayEnter : Try.pinned.checked.prog.mayEnter = true := may headL later refl door
theorem made : Try.pinned.checked.prog.make = some .cut := mk headL
theorem laid : laidOutB Try.pinned.checked.prog = true := by kernel_rfl
theorem rowed : mapsRowed Try.pinned.checked.prog = true := by kernel_rfl
theorem noStops : Try.pinned.checked.prog.stops = [] := by kernel_rfl
theorem noKnobs : Try.pinned.checked.prog.stopKnobs = [] := by kernel_rfl
theorem heard : Try.pinned.checked.prog.stopsHeard = true := by kernel_rfl
theorem keys : Try.pinned.checked.prog.plainKeys = true := by kernel_rfl
theorem liftsNo : Try.pinned.checked.prog.liftsFinal = false := fin headL
end Go.Proofs.Ytbdbibmbfmlobaa.frame
end
section
set_option linter.unusedVariables false
namespace Go.Ab
open Go Go.Proofs.Ytbdbibmbfmlobaa
variable {P : Program} {W : World}

def RdM (P : Program) (t : TypeId) (k : Nat) {α : Type} (f : α → Tree) (μ : α → Nat) : Prop :=
  (∀ a, Elt k (f a)) ∧ P.cellsOf t = k ∧ ∀ (H : Type) (enc : TypeId × Value → H) (W : World) (fuel : Nat) (cs : List Value) (x : DataW H × List MemPlace),
    DataW.trod enc P W 0 (fun _ => true) true fuel t cs = some x → ∃ a : α, CellsR W (f a).cells cs ∧ μ a ≤ Rows.uptoBulk x.1

theorem bulk_pos {H : Type} (d : DataW H) : 1 ≤ Rows.uptoBulk d := by
  cases d with
  | lit l => cases l <;> simp [Rows.uptoBulk]
  | _ => simp [Rows.uptoBulk]

theorem RdM.int {t : TypeId} {k : IntKind} (ht : P.underlying t = some (.int k)) (hc : P.cellsOf t = 1) : RdM P t 1 (fun z : Int => .sc (.int k z)) (fun _ => 1) := by
  refine ⟨fun _ => elt1, hc, fun H enc W fuel cs x h => ?_⟩
  obtain ⟨n, rfl, _, _⟩ := DataW.trod_int ht h
  exact ⟨n, cells1 rfl (.sc _ rfl), bulk_pos _⟩
/-- An integer with its bounds. -/
theorem RdM.i64 {t : TypeId} (ht : P.underlying t = some (.int .i64)) (hc : P.cellsOf t = 1) : RdM P t 1 (fun z : { z : Int // -9223372036854775808 ≤ z ∧ z ≤ 9223372036854775807 } => .sc (.int .i64 z.1)) (fun _ => 1) := by
  refine ⟨fun _ => elt1, hc, fun H enc W fuel cs x h => ?_⟩
  obtain ⟨n, rfl, _, hw⟩ := DataW.trod_int ht h
  exact ⟨⟨n, by simpa [Lit.wf, IntKind.min, IntKind.max, IntKind.signed, IntKind.bits] using hw⟩, cells1 rfl (.sc _ rfl), bulk_pos _⟩
theorem RdM.bool {t : TypeId} (ht : P.underlying t = some .bool) (hc : P.cellsOf t = 1) : RdM P t 1 (fun b : Bool => .sc (.bool b)) (fun _ => 1) := by
  refine ⟨fun _ => elt1, hc, fun H enc W fuel cs x h => ?_⟩
  obtain ⟨n, rfl, _⟩ := DataW.trod_bool ht h
  exact ⟨n, cells1 rfl (.sc _ rfl), bulk_pos _⟩
theorem RdM.str {t : TypeId} (ht : P.underlying t = some .string) (hc : P.cellsOf t = 1) : RdM P t 1 (fun s : ByteArray => .sc (.string s)) (fun s => s.size + 1) := by
  refine ⟨fun _ => elt1, hc, fun H enc W fuel cs x h => ?_⟩
  obtain ⟨n, rfl, rfl, _⟩ := DataW.trod_string ht h
  exact ⟨n, cells1 rfl (.sc _ rfl), by simp [Rows.uptoBulk]⟩

theorem sum_le {α H : Type} {μ : α → Nat} : ∀ {l : List α} {es : List (DataW H)}, l.length = es.length → (∀ (i : Nat) (a : α) (d : DataW H), l[i]? = some a → es[i]? = some d → μ a ≤ Rows.uptoBulk d) → (l.map μ).sum ≤ Rows.uptoBulkAll es
  | [], es, _, _ => by simp
  | a :: l, [], h, _ => by simp at h
  | a :: l, d :: es, h, hi => by
    have h0 := hi 0 a d rfl rfl
    have ih := sum_le (l := l) (es := es) (by simpa using h) (fun i a' d' h1 h2 => hi (i + 1) a' d' (by simpa using h1) (by simpa using h2))
    simp only [List.map_cons, List.sum_cons, Rows.uptoBulkAll]
    omega

theorem RdM.slice {t e : TypeId} {k : Nat} {α : Type} {f : α → Tree} {μ : α → Nat} (ht : P.underlying t = some (.slice e)) (hk : 0 < k) (hc : P.cellsOf t = 1) (he : RdM P e k f μ) : RdM P t 1 (fun l : List α => .lst k (l.map f)) (fun l => (l.map μ).sum + 1) := by
  obtain ⟨h1, h2, h3⟩ := he
  refine ⟨fun l => ⟨rfl, fun T hT => by simp [Tree.cells] at hT; subst hT; rfl⟩, hc, fun H enc W fuel cs x h => ?_⟩
  have hx : ∀ l : List α, ∀ x ∈ l.map f, Elt k x := fun l x hx => by
    obtain ⟨a, _, rfl⟩ := List.mem_map.1 hx
    exact h1 a
  rcases DataW.trod_slice ht h with ⟨rfl, hx0⟩ | ⟨a, len, cap, elems, rest, n, _, rfl, hxe, hb, hl, hm, hlen, hel, _, _⟩
  · refine ⟨[], cells1 rfl (.lst k [] none 0 [] hk (fun x hx => by simp at hx) (Nat.le_refl _) (by simp [maxLen]) (fun h => absurd rfl h) (by simp) (fun j T u hT => by simp [flat] at hT)), ?_⟩
    exact bulk_pos _
  · have key : ∀ i, i < len → ∃ y : α, (∃ cs', cs'.length = k ∧ (∀ r, r < k → W.cell? (a.add (i * k + r)) = cs'[r]?) ∧ CellsR W (f y).cells cs') ∧ ∀ d, (elems.map (·.1))[i]? = some d → μ y ≤ Rows.uptoBulk d := by
      intro i hi
      have h4 := hel i hi
      have h5 : elems[i]? = some elems[i] := by rw [List.getElem?_eq_getElem (by omega)]
      rw [h5, h2] at h4
      obtain ⟨cs', h6, h7⟩ := Option.bind_eq_some_iff.1 h4
      obtain ⟨q1, q2, q3⟩ := World.cells?_some h6
      obtain ⟨y, hy, hμ⟩ := h3 H enc W n cs' _ h7
      refine ⟨y, ⟨cs', q2, fun r hr => ?_, hy⟩, fun d hd => ?_⟩
      · rw [← q3 r hr]
        rw [Addr.add_add]
      · rw [List.getElem?_map, h5] at hd
        simp only [Option.map_some, Option.some.injEq] at hd
        subst hd; exact hμ
    obtain ⟨l, hl1, hl2'⟩ := list_of len _ key
    have hl2 := fun i a h => (hl2' i a h).1
    have hspot : l ≠ [] → ∃ u, W.cell? a = some u := by
      intro hne
      have h0 : 0 < len := by rw [← hl1]; exact List.length_pos_iff.2 hne
      obtain ⟨cs', c1, c2, c3⟩ := hl2 0 l[0] (by rw [List.getElem?_eq_getElem (by omega)])
      have := c2 0 hk
      simp only [Nat.zero_mul, Nat.add_zero] at this
      rw [List.getElem?_eq_getElem (by omega)] at this
      have e : a.add 0 = a := by simp [Addr.add]
      rw [e] at this
      exact ⟨_, this⟩
    refine ⟨l, cells1 rfl ?_, ?_⟩
    rotate_left
    · rw [hxe]
      simp only [Rows.uptoBulk]
      have := sum_le (μ := μ) (l := l) (es := elems.map (·.1)) (by simp [hl1, hlen]) (fun i y d h1 h2 => (hl2' i y h1).2 d h2)
      omega
    have hget : ∀ j, j < len * k → ∃ u, W.cell? (a.add j) = some u ∧ ∀ T, (flat (l.map f))[j]? = some T → TRep W (fun b => b < W.heap.size) T u := by
      intro j hj
      have hi : j / k < len := Nat.div_lt_of_lt_mul (by rw [Nat.mul_comm]; exact hj)
      have hr : j % k < k := Nat.mod_lt _ hk
      have hji : j = j / k * k + j % k := by rw [Nat.mul_comm]; exact (Nat.div_add_mod j k).symm
      obtain ⟨cs', c1, c2, c3⟩ := hl2 (j / k) l[j / k] (by rw [List.getElem?_eq_getElem (by omega)])
      have c4 := c2 (j % k) hr
      rw [← hji, List.getElem?_eq_getElem (by omega)] at c4
      refine ⟨_, c4, fun T hT => ?_⟩
      rw [hji, flat_get (hx l) (i := j / k) (X := f l[j / k]) (by simp [List.getElem?_eq_getElem (show j / k < l.length by omega)]) hr] at hT
      exact c3.2 (j % k) T _ hT (by rw [List.getElem?_eq_getElem (by omega)])
    obtain ⟨us, hu1, hu2⟩ := list_of (len * k) _ hget
    have hlm : (l.map f).length = len := by simp [hl1]
    have := TRep.lst (w := W) (ok := fun b => b < W.heap.size) k (l.map f) (some a) cap us hk (hx l) (by omega) hm (fun hne => ?_) (by rw [hlm]; exact hu1) (fun j T u hT hu => (hu2 j u hu).2 T hT)
    · rw [hlm] at this; exact this
    · obtain ⟨u, hu⟩ := hspot (fun e => hne (by rw [e]; rfl))
      have hs := World.cell?_spot hu
      obtain ⟨b, o, sp⟩ := a
      simp only at hs
      subst hs
      refine ⟨b, o, rfl, ?_, fun j u hj => ?_⟩
      · simp only [World.cell?] at hu
        by_cases hb : b < W.heap.size
        · exact hb
        · rw [Array.getElem?_eq_none (by omega)] at hu; simp at hu
      · have := (hu2 j u hj).1
        rw [add_lit'] at this
        exact this

theorem RdM.map {t : TypeId} {k : Nat} {α β : Type} {f : α → Tree} {μ : α → Nat} {f' : β → Tree} {μ' : β → Nat} (h : RdM P t k f μ) (g : α → β) (hf : ∀ a, f' (g a) = f a) (hm : ∀ a, μ' (g a) ≤ μ a) (he : ∀ b, Elt k (f' b)) : RdM P t k f' μ' := by
  obtain ⟨h1, h2, h3⟩ := h
  refine ⟨he, h2, fun H enc W fuel cs x hx => ?_⟩
  obtain ⟨a, ha, hb⟩ := h3 H enc W fuel cs x hx
  exact ⟨g a, by rw [hf]; exact ha, Nat.le_trans (hm a) hb⟩

/-- The fields of a struct, from a cell on. -/
def RdFM (P : Program) (off : Nat) (fs : List Field) (k : Nat) {β : Type} (g : β → List Tree) (μ : β → Nat) : Prop :=
  (∀ b, (g b).length = k ∧ ∀ T ∈ g b, T.isCell = true) ∧ ∀ (H : Type) (enc : TypeId × Value → H) (W : World) (n : Nat) (cs : List Value) (ys : List (DataW H × List MemPlace)),
    ys.length = fs.length → (∀ (i : Nat) (f : Field), fs[i]? = some f → DataW.trod enc P W 0 (fun _ => true) true n f.type ((cs.drop f.offset).take (P.cellsOf f.type)) = ys[i]?) →
    ∃ b : β, (∀ (j : Nat) (T : Tree) (u : Value), (g b)[j]? = some T → cs[off + j]? = some u → TRep W (fun b => b < W.heap.size) T u) ∧ μ b ≤ Rows.uptoBulkAll (ys.map (·.1))
theorem RdFM.nil {off : Nat} : RdFM P off [] 0 (fun _ : Unit => []) (fun _ => 0) :=
  ⟨fun _ => ⟨rfl, fun T hT => by simp at hT⟩, fun H enc W n cs ys h1 h2 => ⟨(), fun j T u hT => by simp at hT, Nat.zero_le _⟩⟩
theorem RdFM.cons {off : Nat} {f : Field} {fs : List Field} {k1 k2 : Nat} {α β : Type} {f1 : α → Tree} {μ1 : α → Nat} {g2 : β → List Tree} {μ2 : β → Nat} (ho : f.offset = off) (h : RdM P f.type k1 f1 μ1) (hs : RdFM P (off + k1) fs k2 g2 μ2) : RdFM P off (f :: fs) (k1 + k2) (fun p : α × β => (f1 p.1).cells ++ g2 p.2) (fun p => μ1 p.1 + μ2 p.2) := by
  obtain ⟨h1, h2, h3⟩ := h
  obtain ⟨s1, s2⟩ := hs
  refine ⟨fun p => ⟨by rw [List.length_append, (h1 p.1).1, (s1 p.2).1], fun T hT => ?_⟩, fun H enc W n cs ys hl hy => ?_⟩
  · rcases List.mem_append.1 hT with hT | hT
    · exact (h1 p.1).2 T hT
    · exact (s1 p.2).2 T hT
  · cases ys with
    | nil => simp at hl
    | cons y ys =>
      have e0 := hy 0 f rfl
      simp only [List.getElem?_cons_zero, ho, h2] at e0
      obtain ⟨a, ⟨ha1, ha2⟩, ha3⟩ := h3 H enc W n _ _ e0
      obtain ⟨b, hb, hb3⟩ := s2 H enc W n cs ys (by simpa using hl) (fun i f' hf => by simpa using hy (i + 1) f' (by simpa using hf))
      refine ⟨(a, b), fun j T u hT hu => ?_, by simp only [List.map_cons, Rows.uptoBulkAll]; omega⟩
      by_cases hj : j < (f1 a).cells.length
      · rw [List.getElem?_append_left hj] at hT
        have hk : j < k1 := by rw [(h1 a).1] at hj; exact hj
        refine ha2 j T u hT ?_
        rw [List.getElem?_take, if_pos hk, List.getElem?_drop]
        exact hu
      · rw [List.getElem?_append_right (by show (f1 a).cells.length ≤ j; omega)] at hT
        rw [(h1 a).1] at hj hT
        refine hb (j - k1) T u hT ?_
        rw [← hu]; congr 1; omega
theorem RdM.struct {t : TypeId} {fs : Array Field} {k : Nat} {β : Type} {g : β → List Tree} {μ : β → Nat} (ht : P.underlying t = some (.struct fs)) (hc : P.cellsOf t = k) (h : RdFM P 0 fs.toList k g μ) : RdM P t k (fun b => .agg (g b)) (fun b => μ b + 1) := by
  obtain ⟨s1, s2⟩ := h
  refine ⟨fun b => s1 b, hc, fun H enc W fuel cs x hx => ?_⟩
  obtain ⟨xs, n, _, hxe, hl, hlen, hf⟩ := DataW.trod_struct ht hx
  obtain ⟨b, hb, hμ⟩ := s2 H enc W n cs xs (by simpa using hlen) (fun i f hi => hf i f (by simpa using hi))
  refine ⟨b, ⟨by rw [hl, hc]; exact (s1 b).1.symm, fun j T u hT hu => hb j T u hT (by simpa using hu)⟩, ?_⟩
  rw [hxe]; simp only [Rows.uptoBulk]; omega

/-- A one-cell argument. -/
theorem RdM.arg {t : TypeId} {α : Type} {f : α → Tree} {μ : α → Nat} (h : RdM P t 1 f μ) (h1 : ∀ a, (f a).isCell = true) {H : Type} {enc : TypeId × Value → H} {v : Value} {d : DataW H} {ps : List MemPlace} (hd : DataW.Trod enc P W 0 (fun _ => true) true t v d ps) (hv : v.cells.toList = [v]) :
    ∃ a, TRep W (fun b => b < W.heap.size) (f a) v ∧ μ a ≤ Rows.uptoBulk d := by
  obtain ⟨fuel, hf⟩ := hd
  obtain ⟨a, ⟨c1, c2⟩, c3⟩ := h.2.2 H enc W fuel _ _ hf
  refine ⟨a, c2 0 _ _ ?_ (by rw [hv]; rfl), c3⟩
  cases hfa : f a with
  | agg cs => have := h1 a; rw [hfa] at this; cases this
  | sc v => rfl
  | lst k xs => rfl
theorem bulk_bound {H : Type} {l : List (DataW H)} (hk : Rows.uptoSmall H l = true) : Rows.uptoBulkAll l ≤ 1048576 := of_decide_eq_true hk
theorem sum_mem {α : Type} {μ : α → Nat} {l : List α} {a : α} (h : a ∈ l) : μ a ≤ (l.map μ).sum := by
  induction l with
  | nil => cases h
  | cons b l ih =>
    simp only [List.map_cons, List.sum_cons]
    rcases List.mem_cons.1 h with rfl | h
    · omega
    · have := ih h; omega
theorem sum_len {α : Type} {μ : α → Nat} (hμ : ∀ a, 1 ≤ μ a) (l : List α) : l.length ≤ (l.map μ).sum := by
  induction l with
  | nil => simp
  | cons b l ih => have := hμ b; simp only [List.map_cons, List.sum_cons, List.length_cons]; omega
end Go.Ab
end
