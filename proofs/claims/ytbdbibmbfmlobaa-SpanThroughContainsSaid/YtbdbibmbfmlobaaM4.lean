/- Parts of the proof: ChAttr, ChAttr2, ChAttr3, AttrFacts, FlowPlain, DeltaPlain, DeltaWrite, DeltaFold, DeltaUndo, DeltaAct, AxisPlain, AxisSteps, AxisRead, ChAxis, DeltaChange, ChAxis2. -/
import Derived.Test.YtbdbibmbfmlobaaM1
import Derived.Test.YtbdbibmbfmlobaaM2
import Derived.Test.YtbdbibmbfmlobaaM3
import Derived.Test.YtbdbibmbfmlobaaProg
section
set_option linter.unusedVariables false
set_option linter.unusedSimpArgs false
set_option maxRecDepth 100000
set_option maxHeartbeats 4000000
open Go Go.Proofs Go.Ab
namespace Go.Ch
theorem seq_mt {s : ByteArray} : seq s { data := #[] } = decide (s.size = 0) := by
  by_cases h : s.size = 0
  · rw [decide_eq_true h, seq_iff]
    obtain ⟨⟨l⟩⟩ := s
    cases l with
    | nil => rfl
    | cons a l => simp [ByteArray.size] at h
  · rw [decide_eq_false h, seq_no]
    intro e; subst e; exact h rfl
theorem str_pos {s : ByteArray} (h : seq s { data := #[] } = false) : (0 : Int) < (s.size : Int) := by
  rw [seq_mt, decide_eq_false_iff_not] at h; omega
def byt (s : ByteArray) (i : Nat) : Nat := ((s[i]?).getD 0).toNat
def badC (b : Nat) : Prop := (b < 97 ∨ 122 < b) ∧ (b < 48 ∨ 57 < b) ∧ b ≠ 46 ∧ b ≠ 45
instance (b : Nat) : Decidable (badC b) := by unfold badC; infer_instance
def nmS (s : ByteArray) (i : Nat) : Bool := if i < s.size then (if badC (byt s i) then false else nmS s (i + 1)) else true
termination_by s.size - i
def nameGo (s : ByteArray) : Bool := decide (1 ≤ s.size ∧ s.size ≤ 24 ∧ 97 ≤ byt s 0 ∧ byt s 0 ≤ 122) && nmS s 0
def vlS (s : ByteArray) (i : Nat) : Bool := if i < s.size then (if byt s i < 32 ∨ 126 < byt s i then false else vlS s (i + 1)) else true
termination_by s.size - i
def valGo (s : ByteArray) : Bool := decide (1 ≤ s.size ∧ s.size ≤ 200) && vlS s 0
def nmR (s : ByteArray) (i : Nat) : Bool := if i < s.size then (if (byt s i < 97 ∨ 122 < byt s i) ∧ (i = 0 ∨ (byt s i ≠ 46 ∧ byt s i ≠ 45 ∧ (byt s i < 48 ∨ 57 < byt s i))) then false else nmR s (i + 1)) else true
termination_by s.size - i
def nameRf (s : ByteArray) : Bool := nmR s 0 && decide (1 ≤ s.size ∧ s.size ≤ 24)
def valRf (s : ByteArray) : Bool := vlS s 0 && decide (1 ≤ s.size ∧ s.size ≤ 200)
theorem byt0 (s : ByteArray) (i : Nat) : ((s[i]?).getD 0).toNat = byt s i := rfl

theorem fc_name (s : ByteArray) : FC Try.prog 149 [VS s] (app emp []) (VB (nameGo s)) (app emp []) := by
 refine .go Try.f149 ?_
 refine .br [.r [], .r [(4, Xv 1 (!(seq s ({ data := #[] }))) X0), (5, Xv 1 (!(seq s ({ data := #[] }))) X0), (6, X (Xk' (seq s ({ data := #[] })))), (9, Xv 1 (!(seq s ({ data := #[] }) || decide ((s.size : Int) > 24))) (Xb s 0) (fun hg => by (try simp only [decide_eq_true_eq, decide_eq_false_iff_not, Int.not_lt, Int.not_le, gt_iff_lt, Bool.not_eq_true', Bool.not_eq_false', Bool.or_eq_true, Bool.or_eq_false_iff] at hg); exact ⟨(by first | omega | (simp; omega) | (simp; done) | assumption), (str_pos (by first | exact hg | exact hg.1 | exact hg.1.1))⟩)), (10, Xv 1 (!(seq s ({ data := #[] }) || decide ((s.size : Int) > 24))) X0), (11, X (Xk' (seq s ({ data := #[] }) || decide ((s.size : Int) > 24)))), (14, Xv 1 (!((seq s ({ data := #[] }) || decide ((s.size : Int) > 24)) || decide (((((s[0]?).getD 0).toNat : Nat) : Int) < 97))) (Xb s 0) (fun hg => by (try simp only [decide_eq_true_eq, decide_eq_false_iff_not, Int.not_lt, Int.not_le, gt_iff_lt, Bool.not_eq_true', Bool.not_eq_false', Bool.or_eq_true, Bool.or_eq_false_iff] at hg); exact ⟨(by first | omega | (simp; omega) | (simp; done) | assumption), (str_pos (by first | exact hg | exact hg.1 | exact hg.1.1))⟩)), (15, Xv 1 (!((seq s ({ data := #[] }) || decide ((s.size : Int) > 24)) || decide (((((s[0]?).getD 0).toNat : Nat) : Int) < 97))) X0), (16, X (Xk' ((seq s ({ data := #[] }) || decide ((s.size : Int) > 24)) || decide (((((s[0]?).getD 0).toNat : Nat) : Int) < 97))))]] (((seq s ({ data := #[] }) || decide ((s.size : Int) > 24)) || decide (((((s[0]?).getD 0).toNat : Nat) : Int) < 97)) || decide (((((s[0]?).getD 0).toNat : Nat) : Int) > 122)) (fun h1 => ?_) (fun h1 => ?_)
 ·
  (try simp only [decide_eq_true_eq, decide_eq_false_iff_not, Int.not_lt, Int.not_le, gt_iff_lt, Bool.or_eq_true, Bool.or_eq_false_iff] at h1)
  have e1 : ((nameGo s) : Bool) = false := by
   simp only [byt0, seq_mt, decide_eq_true_eq] at h1; unfold nameGo; rw [decide_eq_false (by omega)]; rfl
  exact .finE [.r []] [] (fun z0 => (VB z0, [])) (false : Bool) ((nameGo s) : Bool) e1
 ·
  (try simp only [decide_eq_true_eq, decide_eq_false_iff_not, Int.not_lt, Int.not_le, gt_iff_lt, Bool.or_eq_true, Bool.or_eq_false_iff] at h1)
  refine .loop (α := Nat) [.r []] 168 (fun i => ([(0, VS s), (23, VI (s.size : Int)), (24, VI (i : Int))], [])) (fun i => i ≤ s.size ∧ nmS s 0 = nmS s i) (fun i => s.size - i) (0 : Nat) ?_ ?_
  ·
   exact ⟨by omega, rfl⟩
  rintro i I4 ih4
  try dsimp only at I4
  refine .br [.r []] (decide ((i : Int) < (s.size : Int))) (fun h4 => ?_) (fun h4 => ?_)
  ·
   (try simp only [decide_eq_true_eq, decide_eq_false_iff_not, Int.not_lt, Int.not_le] at h4)
   refine .br [.r [], .r [(2, X (Xb s (i : Int)))], .r [(4, Xv 1 (!(decide (((((s[i]?).getD 0).toNat : Nat) : Int) < 97))) X0), (5, X (Xk' (decide (((((s[i]?).getD 0).toNat : Nat) : Int) < 97)))), (8, Xv 1 (decide (((((s[i]?).getD 0).toNat : Nat) : Int) < 97) || decide (((((s[i]?).getD 0).toNat : Nat) : Int) > 122)) X0), (9, Xv 1 (decide (((((s[i]?).getD 0).toNat : Nat) : Int) < 97) || decide (((((s[i]?).getD 0).toNat : Nat) : Int) > 122)) X0), (11, Xv 1 ((decide (((((s[i]?).getD 0).toNat : Nat) : Int) < 97) || decide (((((s[i]?).getD 0).toNat : Nat) : Int) > 122)) && !(decide (((((s[i]?).getD 0).toNat : Nat) : Int) < 48))) X0), (12, Xko (decide (((((s[i]?).getD 0).toNat : Nat) : Int) < 97) || decide (((((s[i]?).getD 0).toNat : Nat) : Int) > 122)) (decide (((((s[i]?).getD 0).toNat : Nat) : Int) < 48))), (13, X (Xk (decide (((((s[i]?).getD 0).toNat : Nat) : Int) < 97) || decide (((((s[i]?).getD 0).toNat : Nat) : Int) > 122)))), (16, Xv 1 ((decide (((((s[i]?).getD 0).toNat : Nat) : Int) < 97) || decide (((((s[i]?).getD 0).toNat : Nat) : Int) > 122)) && (decide (((((s[i]?).getD 0).toNat : Nat) : Int) < 48) || decide (((((s[i]?).getD 0).toNat : Nat) : Int) > 57))) X0), (17, X (Xk ((decide (((((s[i]?).getD 0).toNat : Nat) : Int) < 97) || decide (((((s[i]?).getD 0).toNat : Nat) : Int) > 122)) && (decide (((((s[i]?).getD 0).toNat : Nat) : Int) < 48) || decide (((((s[i]?).getD 0).toNat : Nat) : Int) > 57))))), (20, Xv 1 (((decide (((((s[i]?).getD 0).toNat : Nat) : Int) < 97) || decide (((((s[i]?).getD 0).toNat : Nat) : Int) > 122)) && (decide (((((s[i]?).getD 0).toNat : Nat) : Int) < 48) || decide (((((s[i]?).getD 0).toNat : Nat) : Int) > 57))) && (((((s[i]?).getD 0).toNat : Nat) : Int) != 46)) X0), (21, X (Xk (((decide (((((s[i]?).getD 0).toNat : Nat) : Int) < 97) || decide (((((s[i]?).getD 0).toNat : Nat) : Int) > 122)) && (decide (((((s[i]?).getD 0).toNat : Nat) : Int) < 48) || decide (((((s[i]?).getD 0).toNat : Nat) : Int) > 57))) && (((((s[i]?).getD 0).toNat : Nat) : Int) != 46))))]] ((((decide (((((s[i]?).getD 0).toNat : Nat) : Int) < 97) || decide (((((s[i]?).getD 0).toNat : Nat) : Int) > 122)) && (decide (((((s[i]?).getD 0).toNat : Nat) : Int) < 48) || decide (((((s[i]?).getD 0).toNat : Nat) : Int) > 57))) && (((((s[i]?).getD 0).toNat : Nat) : Int) != 46)) && (((((s[i]?).getD 0).toNat : Nat) : Int) != 45)) (fun h7 => ?_) (fun h7 => ?_)
   ·
    (try simp only [decide_eq_true_eq, decide_eq_false_iff_not, Int.not_lt, Int.not_le, gt_iff_lt, Bool.and_eq_true, Bool.and_eq_false_iff, Bool.not_eq_true', Bool.not_eq_false', Bool.or_eq_true, Bool.or_eq_false_iff, bne_iff_ne, bne_eq_false_iff_eq, ne_eq] at h7)
    have e2 : ((nameGo s) : Bool) = false := by
     simp only [byt0] at h7; unfold nameGo; rw [I4.2, nmS, if_pos (by omega), if_pos (by unfold badC; omega)]; simp
    exact .finE [.r []] [] (fun z0 => (VB z0, [])) (false : Bool) ((nameGo s) : Bool) e2
   ·
    (try simp only [decide_eq_true_eq, decide_eq_false_iff_not, Int.not_lt, Int.not_le, gt_iff_lt, Bool.and_eq_true, Bool.and_eq_false_iff, Bool.not_eq_true', Bool.not_eq_false', Bool.or_eq_true, Bool.or_eq_false_iff, bne_iff_ne, bne_eq_false_iff_eq, ne_eq] at h7)
    refine .back [.r [(0, X (Xn ((i : Int) + 1)))]] [] (ih4 ((i + 1) : Nat) ?_ ?_)
    ·
     simp only [byt0] at h7; refine ⟨by omega, ?_⟩; rw [I4.2, nmS, if_pos (by omega), if_neg (by unfold badC; omega)]
    ·
     ((try dsimp only); omega)
  ·
   (try simp only [decide_eq_true_eq, decide_eq_false_iff_not, Int.not_lt, Int.not_le] at h4)
   have e3 : ((nameGo s) : Bool) = true := by
    simp only [byt0, seq_mt, decide_eq_false_iff_not] at h1; unfold nameGo; rw [I4.2, nmS, if_neg (by omega), decide_eq_true (by omega)]; rfl
   exact .finE [.r []] [] (fun z0 => (VB z0, [])) (true : Bool) ((nameGo s) : Bool) e3

theorem fc_value (s : ByteArray) : FC Try.prog 150 [VS s] (app emp []) (VB (valGo s)) (app emp []) := by
 refine .go Try.f150 ?_
 refine .br [.r [], .r [(4, Xv 1 (!(seq s ({ data := #[] }))) X0), (5, Xv 1 (!(seq s ({ data := #[] }))) X0), (6, X (Xk' (seq s ({ data := #[] }))))]] (seq s ({ data := #[] }) || decide ((s.size : Int) > 200)) (fun h1 => ?_) (fun h1 => ?_)
 ·
  (try simp only [decide_eq_true_eq, decide_eq_false_iff_not, Int.not_lt, Int.not_le, gt_iff_lt, Bool.or_eq_true, Bool.or_eq_false_iff] at h1)
  have e1 : ((valGo s) : Bool) = false := by
   simp only [seq_mt, decide_eq_true_eq] at h1; unfold valGo; rw [decide_eq_false (by omega)]; rfl
  exact .finE [.r []] [] (fun z0 => (VB z0, [])) (false : Bool) ((valGo s) : Bool) e1
 ·
  (try simp only [decide_eq_true_eq, decide_eq_false_iff_not, Int.not_lt, Int.not_le, gt_iff_lt, Bool.or_eq_true, Bool.or_eq_false_iff] at h1)
  refine .loop (α := Nat) [.r []] 88 (fun i => ([(0, VS s), (12, VI (s.size : Int)), (13, VI (i : Int))], [])) (fun i => i ≤ s.size ∧ vlS s 0 = vlS s i) (fun i => s.size - i) (0 : Nat) ?_ ?_
  ·
   exact ⟨by omega, rfl⟩
  rintro i I4 ih4
  try dsimp only at I4
  refine .br [.r []] (decide ((i : Int) < (s.size : Int))) (fun h4 => ?_) (fun h4 => ?_)
  ·
   (try simp only [decide_eq_true_eq, decide_eq_false_iff_not, Int.not_lt, Int.not_le] at h4)
   refine .br [.r [], .r [(2, X (Xb s (i : Int))), (7, Xv 2 (!(decide (((((s[i]?).getD 0).toNat : Nat) : Int) < 32))) (Xb s (i : Int))), (8, Xv 1 (!(decide (((((s[i]?).getD 0).toNat : Nat) : Int) < 32))) X0), (9, X (Xk' (decide (((((s[i]?).getD 0).toNat : Nat) : Int) < 32))))]] (decide (((((s[i]?).getD 0).toNat : Nat) : Int) < 32) || decide (((((s[i]?).getD 0).toNat : Nat) : Int) > 126)) (fun h6 => ?_) (fun h6 => ?_)
   ·
    (try simp only [decide_eq_true_eq, decide_eq_false_iff_not, Int.not_lt, Int.not_le, gt_iff_lt, Bool.or_eq_true, Bool.or_eq_false_iff] at h6)
    have e2 : ((valGo s) : Bool) = false := by
     simp only [byt0] at h6; unfold valGo; rw [I4.2, vlS, if_pos (by omega), if_pos (by omega)]; simp
    exact .finE [.r []] [] (fun z0 => (VB z0, [])) (false : Bool) ((valGo s) : Bool) e2
   ·
    (try simp only [decide_eq_true_eq, decide_eq_false_iff_not, Int.not_lt, Int.not_le, gt_iff_lt, Bool.or_eq_true, Bool.or_eq_false_iff] at h6)
    refine .back [.r [(0, X (Xn ((i : Int) + 1)))]] [] (ih4 ((i + 1) : Nat) ?_ ?_)
    ·
     simp only [byt0] at h6; refine ⟨by omega, ?_⟩; rw [I4.2, vlS, if_pos (by omega), if_neg (by omega)]
    ·
     ((try dsimp only); omega)
  ·
   (try simp only [decide_eq_true_eq, decide_eq_false_iff_not, Int.not_lt, Int.not_le] at h4)
   have e3 : ((valGo s) : Bool) = true := by
    simp only [seq_mt, decide_eq_false_iff_not] at h1; unfold valGo; rw [I4.2, vlS, if_neg (by omega), decide_eq_true (by omega)]; rfl
   exact .finE [.r []] [] (fun z0 => (VB z0, [])) (true : Bool) ((valGo s) : Bool) e3

def chkA (e : Bool) (l : List Attr) (i : Nat) : Int :=
  if i < l.length then
    if nameGo (l.getD i default).name = false then 9
    else if valGo (l.getD i default).val = false ∧ (e = false ∨ seq (l.getD i default).val { data := #[] } = false) then 23
    else if 0 < i ∧ (slt (l.getD i default).name (l.getD (i - 1) default).name = true ∨ seq (l.getD i default).name (l.getD (i - 1) default).name = true) then 5
    else chkA e l (i + 1)
  else 0
termination_by l.length - i
def Szd (l : List Attr) : Prop := ∀ a ∈ l, a.name.size ≤ 9223372036854775807 ∧ a.val.size ≤ 9223372036854775807
theorem Szd.at {l : List Attr} (h : Szd l) {i : Nat} (hi : i < l.length) : (l.getD i default).name.size ≤ 9223372036854775807 ∧ (l.getD i default).val.size ≤ 9223372036854775807 := by
  rw [show l.getD i default = l[i] by simp [List.getD, List.getElem?_eq_getElem hi]]
  exact h _ (List.getElem_mem hi)

theorem fc_chk (l : List Attr) (e : Bool) : FC Try.prog 127 [VL 2 attrT l, VB e] (app emp []) (VI (chkA e l 0)) (app emp []) := by
 refine .go Try.f127 ?_
 refine .len 0 (fun hl0 => ?_)
 refine .loop (α := Nat) [.r [], .r [(1, X (Xl attrT l))]] 32 (fun i => ([(0, VL 2 attrT l), (1, VB e), (7, VL 2 attrT l), (8, VI (l.length : Int)), (9, VI (i : Int))], [])) (fun i => i ≤ l.length ∧ chkA e l 0 = chkA e l i) (fun i => l.length - i) (0 : Nat) ?_ ?_
 ·
  exact ⟨by omega, rfl⟩
 rintro i I2 ih2
 try dsimp only at I2
 refine .br [.r []] (decide ((i : Int) < (l.length : Int))) (fun h2 => ?_) (fun h2 => ?_)
 ·
  (try simp only [decide_eq_true_eq, decide_eq_false_iff_not, Int.not_lt, Int.not_le] at h2)
  refine .br [.r [(1, X (Xi attrT l (i : Int)))], .r [(2, X (Xc0 (fc_name (((l.getD i default)).name)) X0))]] (!(nameGo (((l.getD i default)).name))) (fun h4 => ?_) (fun h4 => ?_)
  ·
   (try simp only [Bool.not_eq_true', Bool.not_eq_false'] at h4)
   have e1 : ((chkA e l 0) : Int) = 9 := by
    rw [I2.2, chkA, if_pos (by omega), if_pos h4]
   exact .finE [.r []] [] (fun z0 => (VI z0, [])) (9 : Int) ((chkA e l 0) : Int) e1
  ·
   (try simp only [Bool.not_eq_true', Bool.not_eq_false'] at h4)
   refine .br [.r [(2, X (Xc0 (fc_value (((l.getD i default)).val)) X0)), (6, Xv 1 (!(valGo (((l.getD i default)).val))) X0), (8, Xv 1 ((!(valGo (((l.getD i default)).val))) && e) X0), (9, Xv 1 ((!(valGo (((l.getD i default)).val))) && e) X0), (10, Xka (!(valGo (((l.getD i default)).val))) e), (11, Xv 1 (!(valGo (((l.getD i default)).val))) X0), (12, X (Xk (!(valGo (((l.getD i default)).val)))))]] (!(valGo (((l.getD i default)).val)) && !(e && seq (((l.getD i default)).val) ({ data := #[] }))) (fun h6 => ?_) (fun h6 => ?_)
   ·
    (try simp only [Bool.not_eq_true', Bool.not_eq_false', Bool.and_eq_true, Bool.and_eq_false_iff] at h6)
    have e2 : ((chkA e l 0) : Int) = 23 := by
     rw [I2.2, chkA, if_pos (by omega), if_neg (by rw [h4]; decide), if_pos h6]
    exact .finE [.r []] [] (fun z0 => (VI z0, [])) (23 : Int) ((chkA e l 0) : Int) e2
   ·
    (try simp only [Bool.not_eq_true', Bool.not_eq_false', Bool.and_eq_true, Bool.and_eq_false_iff] at h6)
    refine .br [.r [(4, Xv 1 (decide ((i : Int) > 0)) X0), (7, Xv 1 (decide ((i : Int) > 0)) (Xn ((i : Int) - 1))), (8, Xv 2 (decide ((i : Int) > 0)) (Xi' attrT l ((i : Int) - 1) (i - 1))), (9, Xv 1 (decide ((i : Int) > 0)) X0), (10, Xv 1 (decide ((i : Int) > 0)) X0), (11, Xv 2 (decide ((i : Int) > 0)) X0), (12, X (Xk (decide ((i : Int) > 0))))]] (decide ((i : Int) > 0) && (slt (((l.getD i default)).name) (((l.getD (i - 1) default)).name) || seq (((l.getD i default)).name) (((l.getD (i - 1) default)).name))) (fun h8 => ?_) (fun h8 => ?_)
    ·
     (try simp only [decide_eq_true_eq, decide_eq_false_iff_not, Int.not_lt, Int.not_le, gt_iff_lt, Bool.and_eq_true, Bool.and_eq_false_iff, Bool.not_eq_true', Bool.not_eq_false', Bool.or_eq_true, Bool.or_eq_false_iff] at h8)
     have e3 : ((chkA e l 0) : Int) = 5 := by
      rw [I2.2, chkA, if_pos (by omega), if_neg (by rw [h4]; decide), if_neg (by clear ih2; rintro ⟨a, b⟩; simp_all), if_pos ⟨by omega, h8.2⟩]
     exact .finE [.r []] [] (fun z0 => (VI z0, [])) (5 : Int) ((chkA e l 0) : Int) e3
    ·
     (try simp only [decide_eq_true_eq, decide_eq_false_iff_not, Int.not_lt, Int.not_le, gt_iff_lt, Bool.and_eq_true, Bool.and_eq_false_iff, Bool.not_eq_true', Bool.not_eq_false', Bool.or_eq_true, Bool.or_eq_false_iff] at h8)
     refine .back [.r [(0, X (Xn ((i : Int) + 1)))]] [] (ih2 ((i + 1) : Nat) ?_ ?_)
     ·
      refine ⟨by omega, ?_⟩; rw [I2.2, chkA, if_pos (by omega), if_neg (by rw [h4]; decide), if_neg (by clear ih2; rintro ⟨a, b⟩; simp_all), if_neg (by clear ih2; rintro ⟨a, b⟩; rcases h8 with h | ⟨h, h2⟩; omega; rcases b with b | b <;> simp_all)]
     ·
      ((try dsimp only); omega)
 ·
  (try simp only [decide_eq_true_eq, decide_eq_false_iff_not, Int.not_lt, Int.not_le] at h2)
  have e4 : ((chkA e l 0) : Int) = 0 := by
   rw [I2.2, chkA, if_neg (by omega)]
  exact .finE [.r []] [] (fun z0 => (VI z0, [])) (0 : Int) ((chkA e l 0) : Int) e4

theorem fc_acheck (l : List Attr) : FC Try.prog 81 [VL 2 attrT l] (app emp []) (VI (chkA false l 0)) (app emp []) := by
 refine .go Try.f81 ?_
 refine .len 0 (fun hl0 => ?_)
 exact .fin [.r [], .r [(1, X (Xc0 (fc_chk l false) X0))]] []

theorem fc_acheckChange (l : List Attr) : FC Try.prog 82 [VL 2 attrT l] (app emp []) (VI (chkA true l 0)) (app emp []) := by
 refine .go Try.f82 ?_
 refine .len 0 (fun hl0 => ?_)
 exact .fin [.r [], .r [(1, X (Xc0 (fc_chk l true) X0))]] []

def errA (e : Bool) (l : List Attr) (i : Nat) : Int :=
  if i < l.length then
    if nameRf (l.getD i default).name = false then 9
    else if valRf (l.getD i default).val = false ∧ (e = false ∨ seq (l.getD i default).val { data := #[] } = false) then 23
    else if 0 < i ∧ slt (l.getD (i - 1) default).name (l.getD i default).name = false then 5
    else errA e l (i + 1)
  else 0
termination_by l.length - i
theorem slt_or (a b : ByteArray) : (slt a b = true ∨ seq a b = true) ↔ slt b a = false := by
  constructor
  · rintro (h | h)
    · exact slt_asymm h
    · rw [seq_iff] at h; subst h; exact slt_irr _
  · intro h
    cases k : slt a b with
    | true => exact .inl rfl
    | false => exact .inr (seq_iff.2 (slt_tri k h))
def sameA (a b : List Attr) (i : Nat) : Bool :=
  if i < a.length then (if (a.getD i default).name = (b.getD i default).name ∧ (a.getD i default).val = (b.getD i default).val then sameA a b (i + 1) else false) else true
termination_by a.length - i
def sameL (a b : List Attr) : Bool := decide (a.length = b.length) && sameA a b 0
def getA (l : List Attr) (n : ByteArray) (i : Nat) : ByteArray :=
  if i < l.length then (if (l.getD i default).name = n then (l.getD i default).val else getA l n (i + 1)) else mt
termination_by l.length - i
theorem drop_at {l : List Attr} {i : Nat} (h : i < l.length) : l.drop i = l.getD i default :: l.drop (i + 1) := by
  rw [List.drop_eq_getElem_cons h]; simp [List.getD, List.getElem?_eq_getElem h]
theorem drop_end {l : List Attr} {i : Nat} (h : ¬ i < l.length) : l.drop i = [] := List.drop_eq_nil_of_le (by omega)
theorem fm_a {g : Attr → Attr → Option Attr} {a b : List Attr} {i j : Nat} (hi : i < a.length) (h : b.length ≤ j ∨ slt (a.getD i default).name (b.getD j default).name = true) :
    fm g (a.drop i) (b.drop j) = (g (a.getD i default) ⟨mt, mt⟩).toList ++ fm g (a.drop (i + 1)) (b.drop j) := by
  unfold fm
  rw [drop_at hi]
  by_cases hj : j < b.length
  · rw [drop_at hj, bothL, if_pos (by rcases h with h | h; omega; exact h), fm_cons]; rfl
  · rw [drop_end hj, bothL, fm_cons]; rfl
theorem fm_b {g : Attr → Attr → Option Attr} {a b : List Attr} {i j : Nat} (hj : j < b.length) (h0 : i < a.length → slt (a.getD i default).name (b.getD j default).name = false) (h : a.length ≤ i ∨ slt (b.getD j default).name (a.getD i default).name = true) :
    fm g (a.drop i) (b.drop j) = (g ⟨mt, mt⟩ (b.getD j default)).toList ++ fm g (a.drop i) (b.drop (j + 1)) := by
  unfold fm
  rw [drop_at hj]
  by_cases hi : i < a.length
  · rw [drop_at hi, bothL, if_neg (by rw [h0 hi]; decide), if_pos (by rcases h with h | h; omega; exact h), fm_cons]; rfl
  · rw [drop_end hi, bothL, fm_cons]; rfl
theorem fm_ab {g : Attr → Attr → Option Attr} {a b : List Attr} {i j : Nat} (hi : i < a.length) (hj : j < b.length) (h0 : slt (a.getD i default).name (b.getD j default).name = false) (h : slt (b.getD j default).name (a.getD i default).name = false) :
    fm g (a.drop i) (b.drop j) = (g (a.getD i default) (b.getD j default)).toList ++ fm g (a.drop (i + 1)) (b.drop (j + 1)) := by
  unfold fm
  rw [drop_at hi, drop_at hj, bothL, if_neg (by rw [h0]; decide), if_neg (by rw [h]; decide), fm_cons]
theorem fm_end {g : Attr → Attr → Option Attr} {a b : List Attr} {i j : Nat} (hi : a.length ≤ i) (hj : b.length ≤ j) : fm g (a.drop i) (b.drop j) = [] := by
  unfold fm
  rw [drop_end (by omega), drop_end (by omega), bothL]; rfl
theorem toList_le {o : Option Attr} : o.toList.length ≤ 1 := by cases o <;> simp
theorem fc_sameAttrs (a b : List Attr) : FC Try.prog 30 [VL 2 attrT a, VL 2 attrT b] (app emp []) (VB (sameL a b)) (app emp []) := by
 refine .go Try.f30 ?_
 refine .len 0 (fun hl0 => ?_)
 refine .len 1 (fun hl1 => ?_)
 refine .br [.r [], .r [(1, X (Xl attrT a)), (3, X (Xl attrT b))]] ((a.length : Int) != (b.length : Int)) (fun h1 => ?_) (fun h1 => ?_)
 ·
  (try simp only [bne_iff_ne, bne_eq_false_iff_eq, ne_eq] at h1)
  have e1 : ((sameL a b) : Bool) = false := by
   unfold sameL; rw [decide_eq_false (by omega)]; rfl
  exact .finE [.r []] [] (fun z0 => (VB z0, [])) (false : Bool) ((sameL a b) : Bool) e1
 ·
  (try simp only [bne_iff_ne, bne_eq_false_iff_eq, ne_eq] at h1)
  refine .loop (α := Nat) [.r [(1, X (Xl attrT a))]] 72 (fun i => ([(0, VL 2 attrT a), (1, VL 2 attrT b), (12, VI (a.length : Int)), (13, VI (i : Int))], [])) (fun i => i ≤ a.length ∧ sameA a b 0 = sameA a b i) (fun i => a.length - i) (0 : Nat) ?_ ?_
  ·
   exact ⟨by omega, rfl⟩
  rintro i I4 ih4
  try dsimp only at I4
  refine .br [.r []] (decide ((i : Int) < (a.length : Int))) (fun h4 => ?_) (fun h4 => ?_)
  ·
   (try simp only [decide_eq_true_eq, decide_eq_false_iff_not, Int.not_lt, Int.not_le] at h4)
   refine .br [.r [], .r [(2, X (Xi attrT a (i : Int))), (6, X (Xi attrT b (i : Int)))]] (!(seq (((a.getD i default)).name) (((b.getD i default)).name) && (seq (((a.getD i default)).val) (((b.getD i default)).val) && true))) (fun h6 => ?_) (fun h6 => ?_)
   ·
    (try simp only [Bool.not_eq_true', Bool.not_eq_false', Bool.and_eq_true, Bool.and_eq_false_iff] at h6)
    have e2 : ((sameL a b) : Bool) = false := by
     unfold sameL; rw [I4.2, sameA, if_pos (by omega), if_neg (by clear ih4; simp only [seq_no, seq_iff] at h6; rintro ⟨x, y⟩; simp_all)]; simp
    exact .finE [.r []] [] (fun z0 => (VB z0, [])) (false : Bool) ((sameL a b) : Bool) e2
   ·
    (try simp only [Bool.not_eq_true', Bool.not_eq_false', Bool.and_eq_true, Bool.and_eq_false_iff] at h6)
    refine .back [.r [(0, X (Xn ((i : Int) + 1)))]] [] (ih4 ((i + 1) : Nat) ?_ ?_)
    ·
     refine ⟨by omega, ?_⟩; rw [I4.2, sameA, if_pos (by omega), if_pos (by clear ih4; simp only [seq_no, seq_iff] at h6; simp_all)]
    ·
     ((try dsimp only); omega)
  ·
   (try simp only [decide_eq_true_eq, decide_eq_false_iff_not, Int.not_lt, Int.not_le] at h4)
   have e3 : ((sameL a b) : Bool) = true := by
    unfold sameL; rw [I4.2, sameA, if_neg (by omega), decide_eq_true (by omega)]; rfl
   exact .finE [.r []] [] (fun z0 => (VB z0, [])) (true : Bool) ((sameL a b) : Bool) e3

end Go.Ch
end
section
set_option linter.unusedVariables false
set_option linter.unusedSimpArgs false
set_option maxRecDepth 100000
set_option maxHeartbeats 4000000
open Go Go.Proofs Go.Ab
namespace Go.Ch
theorem fc_both (f : FuncId) (g : Attr → Attr → Option Attr) (hfc : callable Try.prog f = true) (hf : ∀ (o : List Attr) (x y : Attr), o.length < 1099511627776 → FC Try.prog f [.t (attrT x), .t (attrT y), .ptr 0 0] (app emp [(0, .box [.row 1 o.length]), (1, .row 2 false (List.map attrT o))]) (.tup []) (app emp [(0, .box [.row 1 (o ++ (g x y).toList).length]), (1, .row 2 false (List.map attrT (o ++ (g x y).toList)))])) (a b o : List Attr) (hn : o.length + a.length + b.length < 1099511627776) : FC Try.prog 128 [VL 2 attrT a, VL 2 attrT b, .fn f [.ptr 0 0]] (app emp [(0, .box [.row 1 o.length]), (1, OR 2 attrT o)]) (.tup []) (app emp [(0, .box [.row 1 ((o ++ fm g a b).length)]), (1, OR 2 attrT (o ++ fm g a b))]) := by
 refine .go Try.f128 ?_
 refine .len 0 (fun hl0 => ?_)
 refine .len 1 (fun hl1 => ?_)
 refine .loop (α := Nat × Nat × (List Attr)) [.r []] 18 (fun (i, j, p) => ([(0, VL 2 attrT a), (1, VL 2 attrT b), (2, .fn f [.ptr 0 0]), (6, VI (i : Int)), (7, VI (j : Int))], [(0, .box [.row 1 p.length]), (1, OR 2 attrT p)])) (fun (i, j, p) => i ≤ a.length ∧ j ≤ b.length ∧ p.length ≤ o.length + i + j ∧ o ++ fm g a b = p ++ fm g (a.drop i) (b.drop j)) (fun (i, j, p) => (a.length - i) + (b.length - j)) (0, 0, o) ?_ ?_
 ·
  exact ⟨by omega, by omega, by omega, rfl⟩
 rintro ⟨i, j, p⟩ I1 ih1
 try dsimp only at I1
 refine .br [.r [(2, X (Xl attrT a)), (7, Xv 1 (!(decide ((i : Int) < (a.length : Int)))) (Xl attrT b)), (8, Xv 2 (!(decide ((i : Int) < (a.length : Int)))) X0), (9, X (Xk' (decide ((i : Int) < (a.length : Int)))))]] (decide ((i : Int) < (a.length : Int)) || decide ((j : Int) < (b.length : Int))) (fun h1 => ?_) (fun h1 => ?_)
 ·
  (try simp only [decide_eq_true_eq, decide_eq_false_iff_not, Int.not_lt, Int.not_le, Bool.or_eq_true, Bool.or_eq_false_iff] at h1)
  refine .br [.r [(2, X (Xl attrT b)), (7, Xv 1 (!((j : Int) == (b.length : Int))) (Xl attrT a)), (8, Xv 2 (!((j : Int) == (b.length : Int))) X0), (9, Xv 1 (!((j : Int) == (b.length : Int))) X0), (12, Xv 2 ((!((j : Int) == (b.length : Int))) && (decide ((i : Int) < (a.length : Int)))) (Xi attrT a (i : Int))), (13, Xv 1 ((!((j : Int) == (b.length : Int))) && (decide ((i : Int) < (a.length : Int)))) X0), (14, Xv 1 ((!((j : Int) == (b.length : Int))) && (decide ((i : Int) < (a.length : Int)))) X0), (17, Xv 2 ((!((j : Int) == (b.length : Int))) && (decide ((i : Int) < (a.length : Int)))) (Xi attrT b (j : Int))), (18, Xv 1 ((!((j : Int) == (b.length : Int))) && (decide ((i : Int) < (a.length : Int)))) X0), (19, Xv 1 ((!((j : Int) == (b.length : Int))) && (decide ((i : Int) < (a.length : Int)))) X0), (20, Xv 2 ((!((j : Int) == (b.length : Int))) && (decide ((i : Int) < (a.length : Int)))) X0), (21, Xka (!((j : Int) == (b.length : Int))) (decide ((i : Int) < (a.length : Int)))), (22, X (Xk' ((j : Int) == (b.length : Int))))]] (((j : Int) == (b.length : Int)) || (decide ((i : Int) < (a.length : Int)) && slt (((a.getD i default)).name) (((b.getD j default)).name))) (fun h4 => ?_) (fun h4 => ?_)
  ·
   (try simp only [decide_eq_true_eq, decide_eq_false_iff_not, Int.not_lt, Int.not_le, Bool.and_eq_true, Bool.and_eq_false_iff, Bool.not_eq_true', Bool.not_eq_false', Bool.or_eq_true, Bool.or_eq_false_iff, beq_iff_eq, beq_eq_false_iff_ne, ne_eq] at h4)
   refine .back [.r [(3, X (Xi attrT a (i : Int))), (6, X (Xc3 338 [(0, 0), (1, 1)] (hf p ((a.getD i default)) ({ name := { data := #[] }, val := { data := #[] } } : Attr) (by first | omega | (simp; omega))) X0 (hc := hfc)))], .r [(1, X (Xn ((i : Int) + 1)))]] [(0, 0), (1, 1)] (ih1 ((i + 1), j, (p ++ (g ((a.getD i default)) ({ name := { data := #[] }, val := { data := #[] } } : Attr)).toList)) ?_ ?_)
   ·
    have hi : i < a.length := by omega
    have hg := toList_le (o := g (a.getD i default) ⟨{ data := #[] }, { data := #[] }⟩)
    have e := fm_a (g := g) (a := a) (b := b) (j := j) hi (by rcases h4 with h | h; (left; omega); exact .inr h.2)
    refine ⟨by omega, by omega, by simp only [List.length_append]; omega, ?_⟩
    rw [I1.2.2.2, e, List.append_assoc]
   ·
    ((try dsimp only); omega)
  ·
   (try simp only [decide_eq_true_eq, decide_eq_false_iff_not, Int.not_lt, Int.not_le, Bool.and_eq_true, Bool.and_eq_false_iff, Bool.not_eq_true', Bool.not_eq_false', Bool.or_eq_true, Bool.or_eq_false_iff, beq_iff_eq, beq_eq_false_iff_ne, ne_eq] at h4)
   refine .br [.r [(2, X (Xl attrT a)), (7, Xv 2 (!((i : Int) == (a.length : Int))) (Xi attrT b (j : Int))), (8, Xv 1 (!((i : Int) == (a.length : Int))) X0), (9, Xv 1 (!((i : Int) == (a.length : Int))) X0), (12, Xv 2 (!((i : Int) == (a.length : Int))) (Xi attrT a (i : Int))), (13, Xv 1 (!((i : Int) == (a.length : Int))) X0), (14, Xv 1 (!((i : Int) == (a.length : Int))) X0), (15, Xv 2 (!((i : Int) == (a.length : Int))) X0), (16, X (Xk' ((i : Int) == (a.length : Int))))]] (((i : Int) == (a.length : Int)) || slt (((b.getD j default)).name) (((a.getD i default)).name)) (fun h7 => ?_) (fun h7 => ?_)
   ·
    (try simp only [Bool.or_eq_true, Bool.or_eq_false_iff, beq_iff_eq, beq_eq_false_iff_ne, ne_eq] at h7)
    refine .back [.r [(4, X (Xi attrT b (j : Int))), (6, X (Xc3 482 [(0, 0), (1, 1)] (hf p ({ name := { data := #[] }, val := { data := #[] } } : Attr) ((b.getD j default)) (by first | omega | (simp; omega))) X0 (hc := hfc)))], .r [(1, X (Xn ((j : Int) + 1)))]] [(0, 0), (1, 1)] (ih1 (i, (j + 1), (p ++ (g ({ name := { data := #[] }, val := { data := #[] } } : Attr) ((b.getD j default))).toList)) ?_ ?_)
    ·
     have hj : j < b.length := by omega
     have hg := toList_le (o := g ⟨{ data := #[] }, { data := #[] }⟩ (b.getD j default))
     have e := fm_b (g := g) (a := a) (b := b) (i := i) hj (fun hi => by rcases h4.2 with h | h; omega; exact h) (by rcases h7 with h | h; (left; omega); exact .inr h)
     refine ⟨by omega, by omega, by simp only [List.length_append]; omega, ?_⟩
     rw [I1.2.2.2, e, List.append_assoc]
    ·
     ((try dsimp only); omega)
   ·
    (try simp only [Bool.or_eq_true, Bool.or_eq_false_iff, beq_iff_eq, beq_eq_false_iff_ne, ne_eq] at h7)
    refine .back [.r [(3, X (Xi attrT a (i : Int))), (7, X (Xi attrT b (j : Int))), (9, X (Xc3 506 [(0, 0), (1, 1)] (hf p ((a.getD i default)) ((b.getD j default)) (by first | omega | (simp; omega))) X0 (hc := hfc)))], .r [(1, X (Xn ((i : Int) + 1))), (3, X (Xn ((j : Int) + 1)))]] [(0, 0), (1, 1)] (ih1 ((i + 1), (j + 1), (p ++ (g ((a.getD i default)) ((b.getD j default))).toList)) ?_ ?_)
    ·
     have hi : i < a.length := by omega
     have hj : j < b.length := by omega
     have hg := toList_le (o := g (a.getD i default) (b.getD j default))
     have e := fm_ab (g := g) (a := a) (b := b) hi hj (by rcases h4.2 with h | h; omega; exact h) h7.2
     refine ⟨by omega, by omega, by simp only [List.length_append]; omega, ?_⟩
     rw [I1.2.2.2, e, List.append_assoc]
    ·
     ((try dsimp only); omega)
 ·
  (try simp only [decide_eq_true_eq, decide_eq_false_iff_not, Int.not_lt, Int.not_le, Bool.or_eq_true, Bool.or_eq_false_iff] at h1)
  have e1 : ((o ++ fm g a b).length : Nat) = p.length := by
   rw [I1.2.2.2, fm_end (by omega) (by omega), List.append_nil]
  have e2 : ((o ++ fm g a b) : List Attr) = p := by
   rw [I1.2.2.2, fm_end (by omega) (by omega), List.append_nil]
  exact .finE [] [(0, 0), (1, 1)] (fun (z0, z1) => (.tup [], [(0, .box [.row 1 z0]), (1, OR 2 attrT z1)])) ((p.length : Nat), (p : List Attr)) (((o ++ fm g a b).length : Nat), ((o ++ fm g a b) : List Attr)) (pr e1 e2)

theorem fc_rawG (o : List Attr) (x y : Attr) (hn : o.length < 1099511627776) : FC Try.prog 129 [.t (attrT x), .t (attrT y), .ptr 0 0] (app emp [(0, .box [.row 1 o.length]), (1, OR 2 attrT o)]) (.tup []) (app emp [(0, .box [.row 1 ((o ++ (rawG x y).toList).length)]), (1, OR 2 attrT (o ++ (rawG x y).toList))]) := by
 refine .go Try.f129 ?_
 refine .br [.r [], .r []] (seq y.name ({ data := #[] })) (fun h1 => ?_) (fun h1 => ?_)
 ·
  have e1 : ((o ++ (rawG x y).toList).length : Nat) = (o ++ [x]).length := by
   simp only [seq_iff, seq_no] at *; unfold rawG; (repeat' split) <;> simp_all
  have e2 : ((o ++ (rawG x y).toList) : List Attr) = (o ++ [x]) := by
   simp only [seq_iff, seq_no] at *; unfold rawG; (repeat' split) <;> simp_all
  exact .finE [.r [(3, X (rowC attrT [x] (Xap 2 attrT 1 o [x])))]] [(0, 0), (1, 1)] (fun (z0, z1) => (.tup [], [(0, .box [.row 1 z0]), (1, OR 2 attrT z1)])) (((o ++ [x]).length : Nat), ((o ++ [x]) : List Attr)) (((o ++ (rawG x y).toList).length : Nat), ((o ++ (rawG x y).toList) : List Attr)) (pr e1 e2)
 ·
  refine .br [.r []] (!(seq y.val ({ data := #[] }))) (fun h3 => ?_) (fun h3 => ?_)
  ·
   (try simp only [Bool.not_eq_true', Bool.not_eq_false'] at h3)
   have e3 : ((o ++ (rawG x y).toList).length : Nat) = (o ++ [y]).length := by
    simp only [seq_iff, seq_no] at *; unfold rawG; (repeat' split) <;> simp_all
   have e4 : ((o ++ (rawG x y).toList) : List Attr) = (o ++ [y]) := by
    simp only [seq_iff, seq_no] at *; unfold rawG; (repeat' split) <;> simp_all
   exact .finE [.r [(3, X (rowC attrT [y] (Xap 2 attrT 1 o [y])))]] [(0, 0), (1, 1)] (fun (z0, z1) => (.tup [], [(0, .box [.row 1 z0]), (1, OR 2 attrT z1)])) (((o ++ [y]).length : Nat), ((o ++ [y]) : List Attr)) (((o ++ (rawG x y).toList).length : Nat), ((o ++ (rawG x y).toList) : List Attr)) (pr e3 e4)
  ·
   (try simp only [Bool.not_eq_true', Bool.not_eq_false'] at h3)
   have e5 : ((o ++ (rawG x y).toList).length : Nat) = o.length := by
    simp only [seq_iff, seq_no] at *; unfold rawG; (repeat' split) <;> simp_all
   have e6 : ((o ++ (rawG x y).toList) : List Attr) = o := by
    simp only [seq_iff, seq_no] at *; unfold rawG; (repeat' split) <;> simp_all
   exact .finE [] [(0, 0), (1, 1)] (fun (z0, z1) => (.tup [], [(0, .box [.row 1 z0]), (1, OR 2 attrT z1)])) ((o.length : Nat), (o : List Attr)) (((o ++ (rawG x y).toList).length : Nat), ((o ++ (rawG x y).toList) : List Attr)) (pr e5 e6)

theorem fc_raw (a b : List Attr) (hn : a.length + b.length < 1099511627776) : FC Try.prog 83 [VL 2 attrT a, VL 2 attrT b] (app emp []) (VL 2 attrT (fm rawG a b)) (app emp []) := by
 refine .go Try.f83 ?_
 refine .len 0 (fun hl0 => ?_)
 refine .len 1 (fun hl1 => ?_)
 exact .fin [.r [], .r [], .le (.nB 8 0 2), .r [(3, X (Xc3 41 [(0, 8), (1, 16)] (fc_both 129 rawG (by kernel_rfl) fc_rawG a b [] (by simp; omega)) X0))], .r [], .le (.fr 4 [(((fm rawG a b).length) : Nat) = (List.map attrT (fm rawG a b)).length] ⟨lm, trivial⟩)] []

end Go.Ch
end
section
set_option linter.unusedVariables false
set_option linter.unusedSimpArgs false
set_option maxRecDepth 100000
set_option maxHeartbeats 4000000
open Go Go.Proofs Go.Ab
namespace Go.Ch
def applyL (l c : List Attr) : List Attr := if chkA false l 0 = 0 ∧ chkA true c 0 = 0 then fm rawG l c else []
def applyE (l c : List Attr) : Int := if chkA false l 0 = 0 then chkA true c 0 else chkA false l 0
def undoL (l c : List Attr) : List Attr := if applyE l c = 0 then fm chgG (applyL l c) l else []
def betL (a b : List Attr) : List Attr := if chkA false a 0 = 0 ∧ chkA false b 0 = 0 then fm chgG a b else []
def betE (a b : List Attr) : Int := if chkA false a 0 = 0 then chkA false b 0 else chkA false a 0
def joinL (a b : List Attr) : List Attr := if chkA true a 0 = 0 ∧ chkA true b 0 = 0 then fm botG a b else []
def joinE (a b : List Attr) : Int := if chkA true a 0 = 0 then chkA true b 0 else chkA true a 0
def pairL (a b : List Attr) : List Attr := if chkA true a 0 = 0 ∧ chkA true b 0 = 0 then fm wioG a b else []
def pairR (a b : List Attr) : List Attr := if chkA true a 0 = 0 ∧ chkA true b 0 = 0 then b else []
end Go.Ch
end
section
set_option linter.unusedVariables false
set_option linter.unusedSimpArgs false
namespace Go.Ch
open Go Go.Ab

def NPg (s : ByteArray) : Prop := nameGo s = true
def VPg (s : ByteArray) : Prop := valGo s = true
theorem np_mt : ¬ NPg mt := by
  unfold NPg nameGo
  rw [decide_eq_false (by intro h; have := h.1; simp [ByteArray.size] at this)]
  decide
theorem vp_mt : ¬ VPg mt := by
  unfold VPg valGo
  rw [decide_eq_false (by intro h; have := h.1; simp [ByteArray.size] at this)]
  decide
abbrev VG := V NPg VPg
theorem getD_cons_succ' {a : Attr} {l : List Attr} {k : Nat} : (a :: l).getD (k + 1) default = l.getD k default := by simp [List.getD]
theorem getD_zero' {a : Attr} {l : List Attr} : (a :: l).getD 0 default = a := rfl
theorem sorted_of_adj : ∀ {l : List Attr}, (∀ k, k + 1 < l.length → slt (l.getD k default).name (l.getD (k + 1) default).name = true) → Sorted l
  | [], _ => trivial
  | [a], _ => ⟨fun b hb => (by cases hb), trivial⟩
  | a :: b :: l, h => by
    have ih := sorted_of_adj (l := b :: l) (fun k hk => by have := h (k + 1) (by simp at hk ⊢; omega); simpa using this)
    have h0 := h 0 (by simp)
    simp only [getD_zero', getD_cons_succ'] at h0
    refine ⟨fun c hc => ?_, ih⟩
    rcases List.mem_cons.1 hc with rfl | hc
    · exact h0
    · exact slt_trans h0 (ih.1 c hc)
theorem adj_of_sorted : ∀ {l : List Attr}, Sorted l → ∀ k, k + 1 < l.length → slt (l.getD k default).name (l.getD (k + 1) default).name = true
  | [], _, k, hk => by simp at hk
  | a :: l, h, 0, hk => by
    cases l with
    | nil => simp at hk
    | cons b l => exact h.1 b (by simp)
  | a :: l, h, k + 1, hk => by
    have := adj_of_sorted h.2 k (by simp at hk; omega)
    rw [getD_cons_succ', getD_cons_succ']; exact this
theorem getD_mem {l : List Attr} {k : Nat} (h : k < l.length) : l.getD k default ∈ l := by
  rw [show l.getD k default = l[k] by simp [List.getD, List.getElem?_eq_getElem h]]
  exact List.getElem_mem h
theorem mem_getD {l : List Attr} {a : Attr} (h : a ∈ l) : ∃ k, k < l.length ∧ l.getD k default = a := by
  obtain ⟨k, hk, e⟩ := List.mem_iff_getElem.1 h
  exact ⟨k, hk, by rw [← e]; simp [List.getD, List.getElem?_eq_getElem hk]⟩

theorem chkA_all (e : Bool) (l : List Attr) : ∀ (n i : Nat), l.length - i = n → (chkA e l i = 0 ↔ ∀ k, i ≤ k → k < l.length → Q NPg VPg e (l.getD k default).name (l.getD k default).val ∧ (0 < k → slt (l.getD (k - 1) default).name (l.getD k default).name = true))
  | 0, i, h => by
    rw [chkA, if_neg (by omega)]
    exact ⟨fun _ k h1 h2 => by omega, fun _ => rfl⟩
  | n + 1, i, h => by
    have hi : i < l.length := by omega
    have ih := chkA_all e l n (i + 1) (by omega)
    rw [chkA, if_pos hi]
    have step : (∀ k, i ≤ k → k < l.length → Q NPg VPg e (l.getD k default).name (l.getD k default).val ∧ (0 < k → slt (l.getD (k - 1) default).name (l.getD k default).name = true)) ↔
        (Q NPg VPg e (l.getD i default).name (l.getD i default).val ∧ (0 < i → slt (l.getD (i - 1) default).name (l.getD i default).name = true)) ∧ chkA e l (i + 1) = 0 := by
      rw [ih]
      constructor
      · exact fun h => ⟨h i (Nat.le_refl _) hi, fun k h1 h2 => h k (by omega) h2⟩
      · rintro ⟨h1, h2⟩ k h3 h4
        by_cases e : k = i
        · subst e; exact h1
        · exact h2 k (by omega) h4
    rw [step]
    generalize (l.getD i default) = x
    generalize (l.getD (i - 1) default) = y
    unfold Q NPg VPg
    have hm : seq x.val { data := #[] } = true ↔ x.val = mt := seq_iff
    have hm2 : seq x.val { data := #[] } = false ↔ x.val ≠ mt := seq_no
    simp only [slt_or, hm2]
    cases h1 : nameGo x.name with
    | false => simp
    | true =>
      rw [if_neg (by decide)]
      cases h2 : valGo x.val with
      | false =>
        by_cases h3 : e = false ∨ x.val ≠ mt
        · rw [if_pos ⟨rfl, h3⟩]
          constructor
          · intro h; cases h
          · rintro ⟨⟨⟨_, h | ⟨h, h'⟩⟩, _⟩, _⟩
            · cases h
            · rcases h3 with h3 | h3
              · rw [h3] at h; cases h
              · exact absurd h' h3
        · rw [if_neg (fun h => h3 h.2)]
          have he : e = true := by cases e with | true => rfl | false => exact absurd (.inl rfl) h3
          have hx : x.val = mt := Classical.byContradiction fun h => h3 (.inr h)
          by_cases h4 : 0 < i ∧ slt y.name x.name = false
          · rw [if_pos h4]
            constructor
            · intro h; cases h
            · rintro ⟨⟨_, h⟩, _⟩; rw [h h4.1] at h4; cases h4.2
          · rw [if_neg h4]
            refine ⟨fun h => ⟨⟨⟨rfl, .inr ⟨he, hx⟩⟩, fun h0 => ?_⟩, h⟩, fun h => h.2⟩
            cases h5 : slt y.name x.name with
            | true => rfl
            | false => exact absurd ⟨h0, h5⟩ h4
      | true =>
        rw [if_neg (fun h => by cases h.1)]
        by_cases h4 : 0 < i ∧ slt y.name x.name = false
        · rw [if_pos h4]
          constructor
          · intro h; cases h
          · rintro ⟨⟨_, h⟩, _⟩; rw [h h4.1] at h4; cases h4.2
        · rw [if_neg h4]
          refine ⟨fun h => ⟨⟨⟨rfl, .inl rfl⟩, fun h0 => ?_⟩, h⟩, fun h => h.2⟩
          cases h5 : slt y.name x.name with
          | true => rfl
          | false => exact absurd ⟨h0, h5⟩ h4
theorem chk_iff {e : Bool} {l : List Attr} : chkA e l 0 = 0 ↔ VG e l := by
  rw [chkA_all e l l.length 0 (by omega)]
  constructor
  · intro h
    refine ⟨sorted_of_adj (fun k hk => (h (k + 1) (by omega) hk).2 (by omega)), fun a ha => ?_⟩
    obtain ⟨k, hk, rfl⟩ := mem_getD ha
    exact (h k (by omega) hk).1
  · intro h k _ hk
    refine ⟨h.2 _ (getD_mem hk), fun h0 => ?_⟩
    have := adj_of_sorted h.1 (k - 1) (by omega)
    rw [show k - 1 + 1 = k by omega] at this
    exact this
theorem sameA_self (a : List Attr) : ∀ (n i : Nat), a.length - i = n → sameA a a i = true
  | 0, i, h => by rw [sameA, if_neg (by omega)]
  | n + 1, i, h => by
    have hi : i < a.length := by omega
    rw [sameA, if_pos hi, if_pos ⟨rfl, rfl⟩, sameA_self a n (i + 1) (by omega)]
theorem sameL_self (a : List Attr) : sameL a a = true := by unfold sameL; rw [sameA_self a _ 0 rfl]; simp
end Go.Ch
end
section
set_option linter.unusedVariables false
set_option linter.unusedSimpArgs false
namespace Go.Ch
open Go Go.Ab

structure Elem where
  char : Int
  ref : Int
  attrs : List Attr
instance : Inhabited Elem := ⟨⟨0, 0, []⟩⟩
def elemT (e : Elem) : Tree := .agg [.sc (.int .i64 e.char), .sc (.int .i64 e.ref), .lst 2 (e.attrs.map attrT)]
def CharP (c : Int) : Prop := c = 9 ∨ c = 10 ∨ (32 ≤ c ∧ c < 127) ∨ (160 ≤ c ∧ c < 55296) ∨ (57343 < c ∧ c ≤ 1114111)
instance (c : Int) : Decidable (CharP c) := by unfold CharP; infer_instance
def elemE (x : Elem) : Int :=
  if x.char = 0 ↔ x.ref = 0 then 4
  else if (x.ref = 0 ∧ ¬ CharP x.char) ∨ (x.ref ≠ 0 ∧ (x.ref < 1 ∨ 1073741824 < x.ref)) then 2
  else chkA false x.attrs 0
theorem elemE_4 {x : Elem} (h : x.char = 0 ↔ x.ref = 0) : elemE x = 4 := by unfold elemE; rw [if_pos h]
theorem elemE_2 {x : Elem} (h : ¬ (x.char = 0 ↔ x.ref = 0)) (h2 : (x.ref = 0 ∧ ¬ CharP x.char) ∨ (x.ref ≠ 0 ∧ (x.ref < 1 ∨ 1073741824 < x.ref))) : elemE x = 2 := by unfold elemE; rw [if_neg h, if_pos h2]
theorem elemE_c {x : Elem} (h : ¬ (x.char = 0 ↔ x.ref = 0)) (h3 : ¬ x.ref = 0 ∨ CharP x.char) (h4 : x.ref = 0 ∨ (1 ≤ x.ref ∧ x.ref ≤ 1073741824)) : elemE x = chkA false x.attrs 0 := by
  unfold elemE
  rw [if_neg h, if_neg]
  rintro (⟨a, b⟩ | ⟨a, b⟩)
  · rcases h3 with h3 | h3
    · exact h3 a
    · exact b h3
  · rcases h4 with h4 | h4
    · exact a h4
    · omega
def partE (l : List Elem) (i : Nat) : Int := if i < l.length then (if elemE (l.getD i default) = 0 then partE l (i + 1) else elemE (l.getD i default)) else 0
termination_by l.length - i
def SzE (l : List Elem) : Prop := ∀ x ∈ l, Szd x.attrs
theorem getDE_mem {l : List Elem} {k : Nat} (h : k < l.length) : l.getD k default ∈ l := by
  rw [show l.getD k default = l[k] by simp [List.getD, List.getElem?_eq_getElem h]]
  exact List.getElem_mem h
def sameE (x y : Elem) : Bool := (x.char == y.char && x.ref == y.ref) && sameL x.attrs y.attrs
def sameFi (a b : List Elem) (i : Nat) : Bool := if i < a.length then (if sameE (a.getD i default) (b.getD i default) = true then sameFi a b (i + 1) else false) else true
termination_by a.length - i
def sameF (a b : List Elem) : Bool := decide (a.length = b.length) && sameFi a b 0
theorem sameA_all (a b : List Attr) : ∀ (n i : Nat), a.length - i = n → sameA a b i = true → ∀ k, i ≤ k → k < a.length → a.getD k default = b.getD k default
  | 0, i, h, _ => fun k h1 h2 => by omega
  | n + 1, i, h, hs => by
    have hi : i < a.length := by omega
    rw [sameA, if_pos hi] at hs
    split at hs
    · rename_i he
      intro k h1 h2
      by_cases e : k = i
      · subst e
        generalize a.getD k default = x at *
        generalize b.getD k default = y at *
        cases x; cases y; simp_all
      · exact sameA_all a b n (i + 1) (by omega) hs k (by omega) h2
    · cases hs
theorem sameL_eq {a b : List Attr} : sameL a b = true ↔ a = b := by
  constructor
  · intro h
    unfold sameL at h
    simp only [Bool.and_eq_true, decide_eq_true_eq] at h
    refine List.ext_getElem h.1 (fun k h1 h2 => ?_)
    have := sameA_all a b _ 0 rfl h.2 k (by omega) h1
    simpa [List.getD, List.getElem?_eq_getElem h1, List.getElem?_eq_getElem h2] using this
  · intro h; subst h; exact sameL_self _
theorem partE_all (l : List Elem) : ∀ (n i : Nat), l.length - i = n → (partE l i = 0 ↔ ∀ k, i ≤ k → k < l.length → elemE (l.getD k default) = 0)
  | 0, i, h => by rw [partE, if_neg (by omega)]; exact ⟨fun _ k h1 h2 => by omega, fun _ => rfl⟩
  | n + 1, i, h => by
    have hi : i < l.length := by omega
    have ih := partE_all l n (i + 1) (by omega)
    rw [partE, if_pos hi]
    by_cases e : elemE (l.getD i default) = 0
    · rw [if_pos e, ih]
      constructor
      · intro h k h1 h2
        by_cases ek : k = i
        · subst ek; exact e
        · exact h k (by omega) h2
      · exact fun h k h1 h2 => h k (by omega) h2
    · rw [if_neg e]
      exact ⟨fun h => absurd h e, fun h => h i (Nat.le_refl _) hi⟩
theorem part_iff {l : List Elem} : partE l 0 = 0 ↔ ∀ x ∈ l, elemE x = 0 := by
  rw [partE_all l _ 0 rfl]
  constructor
  · intro h x hx
    obtain ⟨k, hk, e⟩ := List.mem_iff_getElem.1 hx
    have := h k (by omega) hk
    rw [← e]
    simpa [List.getD, List.getElem?_eq_getElem hk] using this
  · exact fun h k _ hk => h _ (getDE_mem hk)
theorem elem_ok {x : Elem} (h : elemE x = 0) : VG false x.attrs := by
  unfold elemE at h
  split at h
  · omega
  · split at h
    · omega
    · exact chk_iff.1 h
end Go.Ch
end
section
set_option linter.unusedVariables false
set_option linter.unusedSimpArgs false
namespace Go.Ch
open Go Go.Ab

structure DStep where
  kind : Int
  n : Int
  attrs : List Attr
  elems : List Elem
instance : Inhabited DStep := ⟨⟨0, 0, [], []⟩⟩
def dstepT (s : DStep) : Tree := .agg [.sc (.int .i64 s.kind), .sc (.int .i64 s.n), .lst 2 (s.attrs.map attrT), .lst 3 (s.elems.map elemT)]
def AN (n : Nat) (l : List Elem) : Prop := ∀ x ∈ l, x.attrs.length ≤ n
def stepD (s : DStep) : Int :=
  if s.kind = 1 then (if s.n ≠ 0 ∨ 0 < s.attrs.length then 4 else if s.elems.length = 0 then 11 else partE s.elems 0)
  else if s.kind = 0 ∨ s.kind = 2 then
    (if 0 < s.elems.length ∨ (s.kind = 2 ∧ 0 < s.attrs.length) then 4 else if s.n < 1 ∨ 2147483647 < s.n then 2 else chkA true s.attrs 0)
  else 8
def szD (s : DStep) : Int := if s.kind = 1 then (s.elems.length : Int) else s.n
def DOk (s : DStep) : Prop :=
  (s.kind = 1 ∧ s.n = 0 ∧ s.attrs = [] ∧ s.elems ≠ [] ∧ ∀ x ∈ s.elems, elemE x = 0) ∨
  ((s.kind = 0 ∨ s.kind = 2) ∧ s.elems = [] ∧ (s.kind = 2 → s.attrs = []) ∧ 1 ≤ s.n ∧ s.n ≤ 2147483647 ∧ VG true s.attrs)
theorem len0 {α : Type} {l : List α} : ¬ 0 < l.length ↔ l = [] := by
  rw [Nat.not_lt, Nat.le_zero, List.length_eq_zero_iff]
theorem step_iff {s : DStep} : stepD s = 0 ↔ DOk s := by
  unfold stepD DOk
  by_cases k1 : s.kind = 1
  · rw [if_pos k1]
    by_cases c1 : s.n ≠ 0 ∨ 0 < s.attrs.length
    · rw [if_pos c1]
      constructor
      · intro h; omega
      · rintro (⟨_, h1, h2, _⟩ | ⟨h, _⟩)
        · rw [h2] at c1; simp at c1; omega
        · omega
    rw [if_neg c1]
    by_cases c2 : s.elems.length = 0
    · rw [if_pos c2]
      constructor
      · intro h; omega
      · rintro (⟨_, _, _, h, _⟩ | ⟨h, _⟩)
        · exact absurd (List.length_eq_zero_iff.1 c2) h
        · omega
    rw [if_neg c2, part_iff]
    have ha : s.attrs = [] := len0.1 (by omega)
    constructor
    · intro h
      exact .inl ⟨k1, by omega, ha, fun e => c2 (by rw [e]; rfl), h⟩
    · rintro (⟨_, _, _, _, h⟩ | ⟨h, _⟩)
      · exact h
      · omega
  rw [if_neg k1]
  by_cases k2 : s.kind = 0 ∨ s.kind = 2
  · rw [if_pos k2]
    by_cases c1 : 0 < s.elems.length ∨ (s.kind = 2 ∧ 0 < s.attrs.length)
    · rw [if_pos c1]
      constructor
      · intro h; omega
      · rintro (⟨h, _⟩ | ⟨_, h1, h2, _⟩)
        · omega
        · rcases c1 with c | ⟨c, d⟩
          · rw [h1] at c; simp at c
          · rw [h2 c] at d; simp at d
    rw [if_neg c1]
    by_cases c2 : s.n < 1 ∨ 2147483647 < s.n
    · rw [if_pos c2]
      constructor
      · intro h; omega
      · rintro (⟨h, _⟩ | ⟨_, _, _, h1, h2, _⟩) <;> omega
    rw [if_neg c2, chk_iff]
    constructor
    · intro h
      exact .inr ⟨k2, len0.1 (by omega), fun h2 => len0.1 (by omega), by omega, by omega, h⟩
    · rintro (⟨h, _⟩ | ⟨_, _, _, _, _, h⟩)
      · omega
      · exact h
  · rw [if_neg k2]
    constructor
    · intro h; omega
    · rintro (⟨h, _⟩ | ⟨h, _⟩)
      · omega
      · exact absurd h k2
theorem stepD_sz {s : DStep} (h : stepD s = 0) : (s.kind = 0 ∨ s.kind = 1 ∨ s.kind = 2) ∧ 0 ≤ s.n ∧ s.n ≤ 2147483647 ∧ 1 ≤ szD s ∧ szD s ≤ max 2147483647 s.elems.length := by
  unfold szD
  rcases step_iff.1 h with ⟨k, n, a, e, _⟩ | ⟨k, _, _, n1, n2, _⟩
  · have : 0 < s.elems.length := List.length_pos_iff.2 e
    rw [if_pos k]; omega
  · rw [if_neg (by omega)]; omega
/-- Neighbours that a delta must not have. -/
def adjD (w x : DStep) : Bool := ((w.kind == x.kind) && ((x.kind != 0) || sameL w.attrs x.attrs)) || ((w.kind == 2) && (x.kind == 1))
theorem adjD_yes {w x : DStep} : adjD w x = true ↔ (w.kind = x.kind ∧ (¬ x.kind = 0 ∨ sameL w.attrs x.attrs = true)) ∨ (w.kind = 2 ∧ x.kind = 1) := by
  unfold adjD; simp
theorem adjD_no {w x : DStep} (h : (¬ w.kind = x.kind ∨ (x.kind = 0 ∧ sameL w.attrs x.attrs = false)) ∧ (¬ w.kind = 2 ∨ ¬ x.kind = 1)) : ¬ adjD w x = true := by
  rw [adjD_yes]
  rintro (⟨a, b⟩ | ⟨a, b⟩)
  · rcases h.1 with c | ⟨c, d⟩
    · exact c a
    · rcases b with b | b
      · exact b c
      · rw [d] at b; cases b
  · rcases h.2 with c | c
    · exact c a
    · exact c b
/-- Bounds on the lists inside. -/
def DN (n : Nat) (l : List DStep) : Prop := ∀ s ∈ l, s.elems.length ≤ n ∧ s.attrs.length ≤ n ∧ AN n s.elems
theorem DN.at_ {n : Nat} {l : List DStep} (h : DN n l) {k : Nat} (hk : k < l.length) : (l.getD k default).elems.length ≤ n ∧ (l.getD k default).attrs.length ≤ n ∧ AN n (l.getD k default).elems := by
  refine h _ ?_
  rw [show l.getD k default = l[k] by simp [List.getD, List.getElem?_eq_getElem hk]]
  exact List.getElem_mem hk
def chkD (l : List DStep) (i : Nat) (b a : Int) : Int :=
  if i < l.length then
    if stepD (l.getD i default) ≠ 0 then stepD (l.getD i default)
    else if 0 < i ∧ adjD (l.getD (i - 1) default) (l.getD i default) = true then 5
    else chkD l (i + 1) (if (l.getD i default).kind ≠ 1 then min (b + (l.getD i default).n) 2147483648 else b) (if (l.getD i default).kind ≠ 2 then min (a + szD (l.getD i default)) 2147483648 else a)
  else if 2147483647 < b ∨ 2147483647 < a then 3 else 0
termination_by l.length - i
def checkD (l : List DStep) : Int := chkD l 0 0 0
def oS (s : DStep) : Int := if s.kind = 1 then 0 else s.n
def nS (s : DStep) : Int := if s.kind = 2 then 0 else szD s
def oldD : List DStep → Int
  | [] => 0
  | s :: l => oS s + oldD l
def newD : List DStep → Int
  | [] => 0
  | s :: l => nS s + newD l
def DForm : List DStep → Prop
  | [] => True
  | [s] => DOk s
  | s :: t :: l => DOk s ∧ adjD s t = false ∧ DForm (t :: l)
def DFormAt (l : List DStep) (i : Nat) : Prop := ∀ k, i ≤ k → k < l.length → DOk (l.getD k default) ∧ (0 < k → adjD (l.getD (k - 1) default) (l.getD k default) = false)
theorem dropD {α : Type} [Inhabited α] {l : List α} {i : Nat} (h : i < l.length) : l.drop i = l.getD i default :: l.drop (i + 1) := by
  rw [List.drop_eq_getElem_cons h]; simp [List.getD, List.getElem?_eq_getElem h]
theorem oS_nn {s : DStep} (h : DOk s) : 0 ≤ oS s ∧ 0 ≤ nS s := by
  have := stepD_sz (step_iff.2 h)
  unfold oS nS
  constructor <;> split <;> omega
theorem atD_drop {l : List DStep} {i : Nat} (h : DFormAt l i) : ∀ s ∈ l.drop i, DOk s := by
  intro s hs
  obtain ⟨k, hk, e⟩ := List.mem_iff_getElem.1 hs
  rw [List.length_drop] at hk
  have := (h (i + k) (by omega) (by omega)).1
  rw [List.getElem_drop] at e
  rw [← e]
  simpa [List.getD, List.getElem?_eq_getElem (show i + k < l.length by omega)] using this
theorem sums_nn : ∀ {l : List DStep}, (∀ s ∈ l, DOk s) → 0 ≤ oldD l ∧ 0 ≤ newD l
  | [], _ => ⟨Int.le_refl _, Int.le_refl _⟩
  | s :: l, h => by
    have h1 := oS_nn (h s (by simp))
    have h2 := sums_nn (l := l) (fun t ht => h t (by simp [ht]))
    simp only [oldD, newD]; omega
theorem chkD_all (l : List DStep) : ∀ (m i : Nat) (b a : Int), l.length - i = m → 0 ≤ b → 0 ≤ a → b ≤ 2147483648 → a ≤ 2147483648 →
    (chkD l i b a = 0 ↔ DFormAt l i ∧ b + oldD (l.drop i) ≤ 2147483647 ∧ a + newD (l.drop i) ≤ 2147483647)
  | 0, i, b, a, h, hb, ha, hb2, ha2 => by
    rw [chkD, if_neg (by omega), List.drop_eq_nil_of_le (by omega)]
    simp only [oldD, newD]
    split
    · constructor
      · intro h; omega
      · rintro ⟨_, h1, h2⟩; omega
    · exact ⟨fun _ => ⟨fun k h1 h2 => by omega, by omega, by omega⟩, fun _ => rfl⟩
  | m + 1, i, b, a, h, hb, ha, hb2, ha2 => by
    have hi : i < l.length := by omega
    rw [chkD, if_pos hi]
    have step : DFormAt l i ↔ (DOk (l.getD i default) ∧ (0 < i → adjD (l.getD (i - 1) default) (l.getD i default) = false)) ∧ DFormAt l (i + 1) := by
      constructor
      · exact fun h => ⟨h i (Nat.le_refl _) hi, fun k h1 h2 => h k (by omega) h2⟩
      · rintro ⟨h1, h2⟩ k h3 h4
        by_cases e : k = i
        · subst e; exact h1
        · exact h2 k (by omega) h4
    rw [step, dropD hi]
    simp only [oldD, newD]
    have ih := fun b' a' => chkD_all l m (i + 1) b' a' (by omega)
    have nn := fun f : DFormAt l (i + 1) => sums_nn (atD_drop f)
    generalize l.getD i default = x at *
    generalize l.getD (i - 1) default = y at *
    by_cases c1 : stepD x ≠ 0
    · rw [if_pos c1]; constructor
      · intro h; exact absurd h c1
      · rintro ⟨⟨⟨h, _⟩, _⟩, _⟩; exact absurd (step_iff.2 h) c1
    rw [if_neg c1]
    have hs := step_iff.1 (by omega : stepD x = 0)
    have hz := stepD_sz (by omega : stepD x = 0)
    by_cases c3 : 0 < i ∧ adjD y x = true
    · rw [if_pos c3]; constructor
      · intro h; omega
      · rintro ⟨⟨⟨_, h⟩, _⟩, _⟩
        have := h c3.1
        rw [c3.2] at this; cases this
    rw [if_neg c3, ih _ _ (by split <;> omega) (by split <;> omega) (by split <;> omega) (by split <;> omega)]
    unfold oS nS
    constructor
    · rintro ⟨f, h1, h2⟩
      obtain ⟨n0, n1⟩ := nn f
      refine ⟨⟨⟨hs, fun h0 => ?_⟩, f⟩, ?_, ?_⟩
      · cases e : adjD y x
        · rfl
        · exact absurd ⟨h0, e⟩ c3
      · by_cases k1 : x.kind = 1
        · rw [if_pos k1]; rw [if_neg (by omega)] at h1; omega
        · rw [if_neg k1]; rw [if_pos k1] at h1; omega
      · by_cases k1 : x.kind = 2
        · rw [if_pos k1]; rw [if_neg (by omega)] at h2; omega
        · rw [if_neg k1]; rw [if_pos k1] at h2; omega
    · rintro ⟨⟨_, f⟩, h1, h2⟩
      obtain ⟨n0, n1⟩ := nn f
      refine ⟨f, ?_, ?_⟩
      · by_cases k1 : x.kind = 1
        · rw [if_pos k1] at h1; rw [if_neg (by omega)]; omega
        · rw [if_neg k1] at h1; rw [if_pos k1]; omega
      · by_cases k1 : x.kind = 2
        · rw [if_pos k1] at h2; rw [if_neg (by omega)]; omega
        · rw [if_neg k1] at h2; rw [if_pos k1]; omega
theorem dform_of_at : ∀ {l : List DStep}, DFormAt l 0 → DForm l
  | [], _ => trivial
  | [s], h => (h 0 (Nat.le_refl _) (by simp)).1
  | s :: t :: l, h => by
    refine ⟨(h 0 (Nat.le_refl _) (by simp)).1, (h 1 (by omega) (by simp)).2 (by omega), dform_of_at (fun k h1 h2 => ?_)⟩
    have h2' : k + 1 < (s :: t :: l).length := by simp at h2 ⊢; omega
    have := h (k + 1) (by omega) h2'
    simp only [List.getD_cons_succ] at this
    refine ⟨this.1, fun h0 => ?_⟩
    have e := this.2 (by omega)
    rw [show k + 1 - 1 = (k - 1) + 1 by omega, List.getD_cons_succ] at e
    exact e
theorem at_of_dform : ∀ {l : List DStep}, DForm l → DFormAt l 0
  | [], _ => fun k h1 h2 => by simp at h2
  | [s], h => fun k h1 h2 => by
    have : k = 0 := by simp at h2; omega
    subst this
    exact ⟨h, fun h0 => by omega⟩
  | s :: t :: l, h => fun k h1 h2 => by
    obtain ⟨a, b, c⟩ := h
    rcases k with _ | k
    · exact ⟨a, fun h0 => by omega⟩
    · have := at_of_dform c k (Nat.zero_le _) (by simp at h2 ⊢; omega)
      rw [List.getD_cons_succ]
      refine ⟨this.1, fun _ => ?_⟩
      rcases k with _ | k
      · exact b
      · rw [Nat.add_sub_cancel, List.getD_cons_succ]
        have e := this.2 (by omega)
        rw [Nat.add_sub_cancel] at e
        exact e
def DValid (l : List DStep) : Prop := DForm l ∧ oldD l ≤ 2147483647 ∧ newD l ≤ 2147483647
theorem checkD_iff {l : List DStep} : checkD l = 0 ↔ DValid l := by
  unfold checkD DValid
  rw [chkD_all l _ 0 0 0 rfl (Int.le_refl _) (Int.le_refl _) (by decide) (by decide)]
  simp only [List.drop_zero, Int.zero_add]
  exact ⟨fun h => ⟨dform_of_at h.1, h.2⟩, fun h => ⟨at_of_dform h.1, h.2⟩⟩
theorem DForm.all {l : List DStep} (h : DForm l) : ∀ s ∈ l, DOk s := by
  have := atD_drop (at_of_dform h)
  simpa using this

theorem dlens_step {l : List DStep} {i : Nat} (h : i < l.length) (hf : DForm l) : oldD (l.drop i) = (if (l.getD i default).kind = 1 then 0 else (l.getD i default).n) + oldD (l.drop (i + 1)) ∧
    newD (l.drop i) = (if (l.getD i default).kind = 2 then 0 else szD (l.getD i default)) + newD (l.drop (i + 1)) ∧ DOk (l.getD i default) ∧ 0 ≤ oldD (l.drop (i + 1)) ∧ 0 ≤ newD (l.drop (i + 1)) ∧ 0 ≤ (l.getD i default).n ∧ 1 ≤ szD (l.getD i default) ∧ ((l.getD i default).kind = 0 ∨ (l.getD i default).kind = 1 ∨ (l.getD i default).kind = 2) := by
  have h1 := ((at_of_dform hf) i (Nat.zero_le _) h).1
  have h2 := stepD_sz (step_iff.2 h1)
  have h3 := sums_nn (l := l.drop (i + 1)) (fun s hs => hf.all s (List.mem_of_mem_drop hs))
  rw [dropD h]
  exact ⟨rfl, rfl, h1, h3.1, h3.2, h2.2.1, h2.2.2.2.1, h2.1⟩
theorem dend {l : List DStep} {i : Nat} (h : l.length ≤ i) : oldD (l.drop i) = 0 ∧ newD (l.drop i) = 0 := by rw [List.drop_eq_nil_of_le h]; exact ⟨rfl, rfl⟩

/-! ### The reference's check -/
def adjR (w x : DStep) : Prop := if x.kind = 1 then w.kind ≠ 0 else if x.kind = 2 then w.kind = 2 else w.kind = 0 ∧ sameL w.attrs x.attrs = true
instance (w x : DStep) : Decidable (adjR w x) := by unfold adjR; infer_instance
def chkR (l : List DStep) (i : Nat) (b a : Int) : Int :=
  if i < l.length then
    if stepD (l.getD i default) ≠ 0 then stepD (l.getD i default)
    else if 0 < i ∧ adjR (l.getD (i - 1) default) (l.getD i default) then 5
    else chkR l (i + 1) (if (l.getD i default).kind ≠ 1 ∧ b < 2147483648 then b + (l.getD i default).n else b) (if (l.getD i default).kind ≠ 2 ∧ a < 2147483648 then a + ((l.getD i default).n + (l.getD i default).elems.length) else a)
  else if 2147483647 < b ∨ 2147483647 < a then 3 else 0
termination_by l.length - i
def refD (l : List DStep) : Int := chkR l 0 0 0
def sumNs : List DStep → Int
  | [] => 0
  | s :: l => s.n + sumNs l
/-- Sizes of the strings inside. -/
def sameDS (x y : DStep) : Bool := ((x.kind == y.kind) && (x.n == y.n)) && (sameL x.attrs y.attrs && sameF x.elems y.elems)

/-! ### Units -/
inductive DU where
  | K (c : List Attr)
  | A (e : Elem)
  | C
def exS (s : DStep) : List DU := if s.kind = 1 then s.elems.map .A else if s.kind = 2 then List.replicate s.n.toNat .C else List.replicate s.n.toNat (.K s.attrs)
def exD : List DStep → List DU
  | [] => []
  | s :: l => exS s ++ exD l
theorem exD_app (a b : List DStep) : exD (a ++ b) = exD a ++ exD b := by
  induction a with
  | nil => rfl
  | cons s a ih => simp [exD, ih]
/-- An element changed by an attribute change. -/
def chgE (c : List Attr) (x : Elem) : Elem := ⟨x.char, x.ref, fm rawG x.attrs c⟩
def applyU : List DU → List Elem → List Elem
  | [], _ => []
  | .A e :: u, l => e :: applyU u l
  | .K c :: u, x :: l => chgE c x :: applyU u l
  | .C :: u, _ :: l => applyU u l
  | .K _ :: u, [] => applyU u []
  | .C :: u, [] => applyU u []
def undoU : List DU → List Elem → List DU
  | [], _ => []
  | .A _ :: u, l => .C :: undoU u l
  | .K c :: u, x :: l => .K (fm chgG (fm rawG x.attrs c) x.attrs) :: undoU u l
  | .C :: u, x :: l => .A x :: undoU u l
  | .K _ :: u, [] => undoU u []
  | .C :: u, [] => undoU u []
def oldN : List DU → Nat
  | [] => 0
  | .A _ :: u => oldN u
  | _ :: u => oldN u + 1
def newN : List DU → Nat
  | [] => 0
  | .C :: u => newN u
  | _ :: u => newN u + 1
def UOk : List DU → Prop
  | [] => True
  | .K c :: u => VG true c ∧ UOk u
  | _ :: u => UOk u
theorem undoU_back : ∀ (u : List DU) (l : List Elem), oldN u = l.length → UOk u → (∀ x ∈ l, VG false x.attrs) → applyU (undoU u l) (applyU u l) = l
  | [], [], _, _, _ => rfl
  | [], _ :: _, h, _, _ => by simp [oldN] at h
  | .A e :: u, l, h, hu, hl => by simp only [undoU, applyU]; exact undoU_back u l h hu hl
  | .K c :: u, [], h, _, _ => by simp [oldN] at h
  | .C :: u, [], h, _, _ => by simp [oldN] at h
  | .K c :: u, x :: l, h, hu, hl => by
    simp only [undoU, applyU]
    rw [undoU_back u l (by simpa [oldN] using h) hu.2 (fun y hy => hl y (by simp [hy]))]
    congr 1
    unfold chgE
    simp only
    rw [undo_back np_mt vp_mt (hl x (by simp)) hu.1]
  | .C :: u, x :: l, h, hu, hl => by
    simp only [undoU, applyU]
    rw [undoU_back u l (by simpa [oldN] using h) hu (fun y hy => hl y (by simp [hy]))]
inductive DSw : List DU → List DU → Prop
  | refl (u : List DU) : DSw u u
  | cons (x : DU) {u v : List DU} (h : DSw u v) : DSw (x :: u) (x :: v)
  | swap (e : Elem) (u : List DU) : DSw (.A e :: .C :: u) (.C :: .A e :: u)
  | symm {u v : List DU} (h : DSw u v) : DSw v u
  | trans {u v w : List DU} (h : DSw u v) (k : DSw v w) : DSw u w
theorem DSw.left (w : List DU) {u v : List DU} (h : DSw u v) : DSw (w ++ u) (w ++ v) := by
  induction w with
  | nil => exact h
  | cons x w ih => exact .cons x ih
theorem DSw.right (w : List DU) {u v : List DU} (h : DSw u v) : DSw (u ++ w) (v ++ w) := by
  induction h with
  | refl u => exact .refl _
  | cons x _ ih => exact .cons x ih
  | swap e u => exact .swap e _
  | symm _ ih => exact .symm ih
  | trans _ _ a b => exact .trans a b
theorem sw_applyU {u v : List DU} (h : DSw u v) : ∀ l, applyU u l = applyU v l := by
  induction h with
  | refl u => exact fun _ => rfl
  | cons x _ ih =>
    intro l
    cases x <;> cases l <;> simp [applyU, ih]
  | swap e u => intro l; cases l <;> simp [applyU]
  | symm _ ih => exact fun l => (ih l).symm
  | trans _ _ a b => exact fun l => (a l).trans (b l)
theorem dsw_lens {u v : List DU} (h : DSw u v) : oldN u = oldN v ∧ newN u = newN v := by
  induction h with
  | refl u => exact ⟨rfl, rfl⟩
  | cons x _ ih => cases x <;> simp [oldN, newN, ih.1, ih.2]
  | swap e u => exact ⟨rfl, rfl⟩
  | symm _ ih => exact ⟨ih.1.symm, ih.2.symm⟩
  | trans _ _ a b => exact ⟨a.1.trans b.1, a.2.trans b.2⟩
theorem dsw_C_As (e : List Elem) (u : List DU) : DSw (.C :: (e.map .A ++ u)) (e.map .A ++ .C :: u) := by
  induction e with
  | nil => exact .refl _
  | cons x e ih => exact .trans (.symm (.swap x _)) (.cons _ ih)
theorem dsw_Cs_As (c : Nat) (e : List Elem) (u : List DU) : DSw (List.replicate c .C ++ (e.map .A ++ u)) (e.map .A ++ (List.replicate c .C ++ u)) := by
  induction c with
  | zero => exact .refl _
  | succ c ih => exact .trans (.cons _ ih) (dsw_C_As e _)
theorem applyU_As (e : List Elem) (u : List DU) (l : List Elem) : applyU (e.map .A ++ u) l = e ++ applyU u l := by
  induction e with
  | nil => rfl
  | cons x e ih => simp [applyU, ih]
theorem applyU_Ks (n : Nat) (c : List Attr) (u : List DU) : ∀ l : List Elem, applyU (List.replicate n (.K c) ++ u) l = (l.take n).map (chgE c) ++ applyU u (l.drop n) := by
  induction n with
  | zero => intro l; simp
  | succ n ih =>
    intro l
    cases l with
    | nil => have := ih []; simpa [applyU, List.replicate_succ] using this
    | cons x l => simp [applyU, List.replicate_succ, ih]
theorem applyU_Cs (n : Nat) (u : List DU) : ∀ l : List Elem, applyU (List.replicate n .C ++ u) l = applyU u (l.drop n) := by
  induction n with
  | zero => intro l; simp
  | succ n ih =>
    intro l
    cases l with
    | nil => have := ih []; simpa [applyU, List.replicate_succ] using this
    | cons x l => simp [applyU, List.replicate_succ, ih]
def rawD (l : List Elem) (d : List DStep) : List Elem := applyU (exD d) l
/-- One step of the walk over a flow. -/
theorem raw_at {d : List DStep} {i : Nat} (h : i < d.length) (l : List Elem) : applyU (exD (d.drop i)) l =
    if (d.getD i default).kind = 1 then (d.getD i default).elems ++ applyU (exD (d.drop (i + 1))) l
    else if (d.getD i default).kind = 2 then applyU (exD (d.drop (i + 1))) (l.drop (d.getD i default).n.toNat)
    else (l.take (d.getD i default).n.toNat).map (chgE (d.getD i default).attrs) ++ applyU (exD (d.drop (i + 1))) (l.drop (d.getD i default).n.toNat) := by
  rw [dropD h, exD]
  unfold exS
  split
  · rw [applyU_As]
  · split
    · rw [applyU_Cs]
    · rw [applyU_Ks]
end Go.Ch
end
section
set_option linter.unusedVariables false
set_option linter.unusedSimpArgs false
namespace Go.Ch
open Go Go.Ab

structure DWr where
  out : List DStep
  add : List Elem
  cut : Int
def flushD (w : DWr) : List DStep := w.out ++ (if 0 < w.add.length then [⟨1, 0, [], w.add⟩] else []) ++ (if 0 < w.cut then [⟨2, w.cut, [], []⟩] else [])
def keepD (l : List DStep) (n : Int) (c : List Attr) : List DStep :=
  if 0 < l.length ∧ (l.getD (l.length - 1) default).kind = 0 ∧ sameL (l.getD (l.length - 1) default).attrs c = true then
    l.set (l.length - 1) ⟨(l.getD (l.length - 1) default).kind, (l.getD (l.length - 1) default).n + n, (l.getD (l.length - 1) default).attrs, (l.getD (l.length - 1) default).elems⟩
  else l ++ [⟨0, n, c, []⟩]
theorem flushD_len (w : DWr) : (flushD w).length ≤ w.out.length + 2 := by
  unfold flushD; simp only [List.length_append]; split <;> split <;> simp
/-- A step without the bound on its count. -/
def DOkW (s : DStep) : Prop :=
  (s.kind = 1 ∧ s.n = 0 ∧ s.attrs = [] ∧ s.elems ≠ [] ∧ ∀ x ∈ s.elems, elemE x = 0) ∨
  ((s.kind = 0 ∨ s.kind = 2) ∧ s.elems = [] ∧ (s.kind = 2 → s.attrs = []) ∧ 1 ≤ s.n ∧ VG true s.attrs)
def AdjOk : List DStep → Prop
  | [] => True
  | [_] => True
  | s :: t :: l => adjD s t = false ∧ AdjOk (t :: l)
theorem adj_snoc : ∀ {l : List DStep} {s : DStep}, AdjOk l → (∀ t, l.getLast? = some t → adjD t s = false) → AdjOk (l ++ [s])
  | [], s, _, _ => trivial
  | [x], s, _, h => ⟨h x rfl, trivial⟩
  | x :: y :: l, s, hf, h => ⟨hf.1, adj_snoc (l := y :: l) hf.2 (fun t ht => h t (by simpa [List.getLast?_cons_cons] using ht))⟩
theorem adjD_eq' {w x x' : DStep} (k : x'.kind = x.kind) (a : x'.attrs = x.attrs) : adjD w x' = adjD w x := by unfold adjD; rw [k, a]
theorem adj_last : ∀ {l : List DStep} {s s' : DStep}, AdjOk (l ++ [s]) → s'.kind = s.kind → s'.attrs = s.attrs → AdjOk (l ++ [s'])
  | [], s, s', _, _, _ => trivial
  | [x], s, s', h, k, a => ⟨by rw [adjD_eq' k a]; exact h.1, trivial⟩
  | x :: y :: l, s, s', h, k, a => ⟨h.1, adj_last (l := y :: l) h.2 k a⟩
theorem dform_of : ∀ {l : List DStep}, (∀ s ∈ l, DOk s) → AdjOk l → DForm l
  | [], _, _ => trivial
  | [s], h, _ => h s (by simp)
  | s :: t :: l, h, k => ⟨h s (by simp), k.1, dform_of (fun x hx => h x (by simp at hx ⊢; exact .inr hx)) k.2⟩
theorem okW {s : DStep} (h : DOk s) : DOkW s := by
  rcases h with h | ⟨a, b, c, d, e, f⟩
  · exact .inl h
  · exact .inr ⟨a, b, c, d, f⟩
theorem oSW {s : DStep} (h : DOkW s) : 0 ≤ oS s ∧ 0 ≤ nS s ∧ (s.kind ≠ 1 → oS s = s.n) ∧ 0 ≤ s.n := by
  unfold oS nS szD
  rcases h with ⟨k, n, a, e, _⟩ | ⟨k, _, _, n1, _⟩
  · have : 0 < s.elems.length := List.length_pos_iff.2 e
    rw [if_pos k, if_neg (by omega), if_pos k]
    exact ⟨Int.le_refl _, by omega, fun q => absurd k q, by omega⟩
  · have k1 : ¬ s.kind = 1 := by omega
    simp only [if_neg k1]
    refine ⟨by omega, by (split <;> omega), fun _ => trivial, by omega⟩
theorem sumsW : ∀ {l : List DStep}, (∀ s ∈ l, DOkW s) → 0 ≤ oldD l ∧ 0 ≤ newD l ∧ ∀ s ∈ l, s.kind ≠ 1 → s.n ≤ oldD l
  | [], _ => ⟨Int.le_refl _, Int.le_refl _, fun s hs => by cases hs⟩
  | s :: l, h => by
    have h1 := oSW (h s (by simp))
    have h2 := sumsW (l := l) (fun t ht => h t (by simp [ht]))
    simp only [oldD, newD]
    refine ⟨by omega, by omega, fun t ht k => ?_⟩
    rcases List.mem_cons.1 ht with rfl | ht
    · have := h1.2.2.1 k; omega
    · have := h2.2.2 t ht k; omega
theorem valid_of {l : List DStep} (h : ∀ s ∈ l, DOkW s) (ha : AdjOk l) (h1 : oldD l ≤ 2147483647) (h2 : newD l ≤ 2147483647) : DValid l := by
  refine ⟨dform_of (fun s hs => ?_) ha, h1, h2⟩
  rcases h s hs with q | ⟨a, b, c, d, e⟩
  · exact .inl q
  · have := (sumsW h).2.2 s hs (by omega)
    exact .inr ⟨a, b, c, d, by omega, e⟩
theorem oldN_app (u v : List DU) : oldN (u ++ v) = oldN u + oldN v := by
  induction u with
  | nil => simp [oldN]
  | cons x u ih => cases x <;> simp [oldN, ih] <;> omega
theorem newN_app (u v : List DU) : newN (u ++ v) = newN u + newN v := by
  induction u with
  | nil => simp [newN]
  | cons x u ih => cases x <;> simp [newN, ih] <;> omega
theorem lens_As (e : List Elem) : oldN (e.map .A) = 0 ∧ newN (e.map .A) = e.length := by
  induction e with
  | nil => exact ⟨rfl, rfl⟩
  | cons x e ih => simp [oldN, newN, ih]
theorem lens_Cs (n : Nat) : oldN (List.replicate n .C) = n ∧ newN (List.replicate n .C) = 0 := by
  induction n with
  | zero => exact ⟨rfl, rfl⟩
  | succ n ih => simp [List.replicate_succ, oldN, newN, ih]
theorem lens_Ks (n : Nat) (c : List Attr) : oldN (List.replicate n (.K c)) = n ∧ newN (List.replicate n (.K c)) = n := by
  induction n with
  | zero => exact ⟨rfl, rfl⟩
  | succ n ih => simp [List.replicate_succ, oldN, newN, ih]
theorem lens_S {s : DStep} (h : DOkW s) : (oldN (exS s) : Int) = oS s ∧ (newN (exS s) : Int) = nS s := by
  unfold exS oS nS szD
  rcases h with ⟨k, n, a, e, _⟩ | ⟨k, _, _, n1, _⟩
  · rw [if_pos k, if_pos k, if_neg (by omega), if_pos k, (lens_As _).1, (lens_As _).2]; exact ⟨rfl, rfl⟩
  · have k1 : ¬ s.kind = 1 := by omega
    by_cases k2 : s.kind = 2
    · simp only [if_neg k1, if_pos k2]
      rw [(lens_Cs _).1, (lens_Cs _).2]; omega
    · simp only [if_neg k1, if_neg k2]
      rw [(lens_Ks _ _).1, (lens_Ks _ _).2]; omega
theorem lens_D : ∀ {l : List DStep}, (∀ s ∈ l, DOkW s) → (oldN (exD l) : Int) = oldD l ∧ (newN (exD l) : Int) = newD l
  | [], _ => ⟨rfl, rfl⟩
  | s :: l, h => by
    have h1 := lens_S (h s (by simp))
    have h2 := lens_D (l := l) (fun t ht => h t (by simp [ht]))
    simp only [exD, oldD, newD]
    rw [oldN_app, newN_app]
    omega
def exDW (w : DWr) : List DU := exD w.out ++ (w.add.map .A ++ List.replicate w.cut.toNat .C)
structure GoodD (w : DWr) : Prop where
  ok : ∀ s ∈ w.out, DOkW s
  adj : AdjOk w.out
  last : ∀ t, w.out.getLast? = some t → t.kind = 0
  add : ∀ x ∈ w.add, elemE x = 0
  cut : 0 ≤ w.cut
theorem goodD0 : GoodD ⟨[], [], 0⟩ := ⟨fun s h => (by cases h), trivial, fun t h => (by cases h), fun x h => (by cases h), Int.le_refl _⟩
theorem flushD_ex {w : DWr} (h : GoodD w) : exD (flushD w) = exDW w := by
  have h2 := h.cut
  unfold flushD exDW
  rw [exD_app, exD_app, List.append_assoc]
  congr 2
  · split
    · simp [exD, exS]
    · rw [show w.add = [] from len0.1 (by omega)]; rfl
  · split
    · simp [exD, exS]
    · rw [show w.cut.toNat = 0 by omega]; rfl
theorem adj_1 {t s : DStep} (h : t.kind ≠ s.kind) (h2 : ¬ (t.kind = 2 ∧ s.kind = 1)) : adjD t s = false := by
  cases e : adjD t s
  · rfl
  · rcases adjD_yes.1 e with ⟨a, _⟩ | a
    · exact absurd a h
    · exact absurd a h2
theorem vg_nil : VG true [] := (chk_iff (e := true) (l := [])).1 (by rw [chkA]; rfl)
theorem flushD_ok {w : DWr} (h : GoodD w) : (∀ s ∈ flushD w, DOkW s) ∧ AdjOk (flushD w) := by
  have h2 := h.cut
  have o1 : 0 < w.add.length → DOkW ⟨1, 0, [], w.add⟩ := fun q => .inl ⟨rfl, rfl, rfl, List.length_pos_iff.1 q, h.add⟩
  have o2 : 0 < w.cut → DOkW ⟨2, w.cut, [], []⟩ := fun q => .inr ⟨.inr rfl, rfl, fun _ => rfl, q, vg_nil⟩
  refine ⟨fun s hs => ?_, ?_⟩
  · unfold flushD at hs
    simp only [List.mem_append] at hs
    rcases hs with (hs | hs) | hs
    · exact h.ok s hs
    · split at hs
      · rename_i q; rw [List.mem_singleton] at hs; subst hs; exact o1 q
      · cases hs
    · split at hs
      · rename_i q; rw [List.mem_singleton] at hs; subst hs; exact o2 q
      · cases hs
  · unfold flushD
    by_cases ha : 0 < w.add.length
    · rw [if_pos ha]
      have f1 : AdjOk (w.out ++ [⟨1, 0, [], w.add⟩]) := adj_snoc h.adj (fun t ht => by
        have := h.last t ht
        exact adj_1 (by simp only; omega) (by omega))
      by_cases hc : 0 < w.cut
      · rw [if_pos hc]
        refine adj_snoc f1 (fun t ht => ?_)
        rw [List.getLast?_concat] at ht
        cases ht
        exact adj_1 (by show (1 : Int) ≠ 2; decide) (by show ¬ ((1 : Int) = 2 ∧ (2 : Int) = 1); decide)
      · rw [if_neg hc, List.append_nil]; exact f1
    · rw [if_neg ha, List.append_nil]
      by_cases hc : 0 < w.cut
      · rw [if_pos hc]
        refine adj_snoc h.adj (fun t ht => ?_)
        have := h.last t ht
        exact adj_1 (by simp only; omega) (by omega)
      · rw [if_neg hc, List.append_nil]; exact h.adj
theorem lastD {l : List DStep} (h : 0 < l.length) : l = l.take (l.length - 1) ++ [l.getD (l.length - 1) default] := by
  conv => lhs; rw [← List.take_append_drop (l.length - 1) l]
  congr 1
  rw [List.drop_eq_getElem_cons (by omega), List.drop_eq_nil_of_le (by omega)]
  simp [List.getD, List.getElem?_eq_getElem (show l.length - 1 < l.length by omega)]
theorem lastD_mem {l : List DStep} (h : 0 < l.length) : l.getD (l.length - 1) default ∈ l := by
  rw [show l.getD (l.length - 1) default = l[l.length - 1] by simp [List.getD, List.getElem?_eq_getElem (show l.length - 1 < l.length by omega)]]
  exact List.getElem_mem _
theorem setD {l : List DStep} (h : 0 < l.length) (s : DStep) : l.set (l.length - 1) s = l.take (l.length - 1) ++ [s] := by
  rw [List.set_eq_take_append_cons_drop, if_pos (by omega), List.drop_eq_nil_of_le (by omega)]
theorem keepD_ok {l : List DStep} {n : Int} {c : List Attr} (ho : ∀ s ∈ l, DOkW s) (hf : AdjOk l) (hn : 1 ≤ n) (hc : VG true c) :
    (∀ s ∈ keepD l n c, DOkW s) ∧ AdjOk (keepD l n c) ∧ (∀ t, (keepD l n c).getLast? = some t → t.kind = 0) ∧ exD (keepD l n c) = exD l ++ List.replicate n.toNat (.K c) := by
  unfold keepD
  split
  · rename_i hc
    obtain ⟨h0, hk, ha⟩ := hc
    rw [sameL_eq] at ha
    generalize hx : l.getD (l.length - 1) default = x at hk ha ⊢
    have hl := lastD h0
    rw [hx] at hl
    rw [setD h0]
    have hox : DOkW x := ho x (by rw [hl]; simp)
    have hx2 : x.elems = [] ∧ 1 ≤ x.n ∧ VG true x.attrs := by
      rcases hox with ⟨k, _⟩ | ⟨_, a, _, b, d⟩
      · omega
      · exact ⟨a, b, d⟩
    refine ⟨fun s hs => ?_, adj_last (s := x) (by rw [← hl]; exact hf) rfl rfl, fun t ht => ?_, ?_⟩
    · rw [List.mem_append] at hs
      rcases hs with hs | hs
      · exact ho s (List.mem_of_mem_take hs)
      · rw [List.mem_singleton] at hs; subst hs
        exact .inr ⟨.inl hk, hx2.1, fun q => by simp only at q; omega, by simp only; omega, hx2.2.2⟩
    · rw [List.getLast?_concat] at ht; cases ht; exact hk
    · conv => rhs; rw [hl]
      rw [exD_app, exD_app, List.append_assoc]
      congr 1
      simp only [exD, List.append_nil, exS]
      rw [if_neg (by omega), if_neg (by omega), if_neg (by omega), if_neg (by omega), ha, show (x.n + n).toNat = x.n.toNat + n.toNat by omega]
      exact List.replicate_append_replicate.symm
  · rename_i hq
    refine ⟨fun s hs => ?_, adj_snoc hf (fun t ht => ?_), fun t ht => ?_, by rw [exD_app]; simp [exD, exS]⟩
    · rw [List.mem_append] at hs
      rcases hs with hs | hs
      · exact ho s hs
      · rw [List.mem_singleton] at hs; subst hs
        exact .inr ⟨.inl rfl, rfl, fun q => (by cases q), hn, hc⟩
    · have h0 : 0 < l.length := by
        rcases l with _ | ⟨y, l⟩
        · cases ht
        · simp
      have hl : l.getLast? = some (l.getD (l.length - 1) default) := by
        conv => lhs; rw [lastD h0]
        rw [List.getLast?_concat]
      rw [hl] at ht
      cases ht
      cases e : adjD (l.getD (l.length - 1) default) ⟨0, n, c, []⟩
      · rfl
      · rcases adjD_yes.1 e with ⟨a, b | b⟩ | ⟨_, b⟩
        · exact absurd rfl b
        · exact absurd ⟨h0, a, b⟩ hq
        · cases b
    · rw [List.getLast?_concat] at ht; cases ht; rfl
theorem GoodD.keep {w : DWr} {n : Int} {c : List Attr} (h : GoodD w) (hn : 1 ≤ n) (hc : VG true c) :
    GoodD ⟨keepD (flushD w) n c, [], 0⟩ ∧ exDW ⟨keepD (flushD w) n c, [], 0⟩ = exDW w ++ List.replicate n.toNat (.K c) := by
  obtain ⟨q1, q2, q3, q4⟩ := keepD_ok (flushD_ok h).1 (flushD_ok h).2 hn hc
  refine ⟨⟨q1, q2, q3, fun x hx => (by cases hx), Int.le_refl _⟩, ?_⟩
  rw [← flushD_ex h, ← q4]
  simp [exDW]
theorem GoodD.elems {w : DWr} {e : List Elem} (h : GoodD w) (he : ∀ x ∈ e, elemE x = 0) :
    GoodD ⟨w.out, w.add ++ e, w.cut⟩ ∧ DSw (exDW ⟨w.out, w.add ++ e, w.cut⟩) (exDW w ++ e.map .A) := by
  refine ⟨⟨h.ok, h.adj, h.last, fun x hx => ?_, h.cut⟩, ?_⟩
  · rcases List.mem_append.1 hx with hx | hx
    · exact h.add x hx
    · exact he x hx
  · unfold exDW
    simp only [List.map_append, List.append_assoc]
    refine .left _ (.left _ ?_)
    have := dsw_Cs_As w.cut.toNat e []
    simp only [List.append_nil] at this
    exact .symm this
theorem GoodD.cuts {w : DWr} {n : Int} (h : GoodD w) (hn : 0 ≤ n) :
    GoodD ⟨w.out, w.add, w.cut + n⟩ ∧ exDW ⟨w.out, w.add, w.cut + n⟩ = exDW w ++ List.replicate n.toNat .C := by
  have h2 := h.cut
  refine ⟨⟨h.ok, h.adj, h.last, h.add, by simp only; omega⟩, ?_⟩
  unfold exDW
  simp only [List.append_assoc]
  rw [show (w.cut + n).toNat = w.cut.toNat + n.toNat by omega, ← List.replicate_append_replicate]
theorem GoodD.valid {w : DWr} {u : List DU} (h : GoodD w) (hs : DSw (exDW w) u) (h1 : oldN u ≤ 2147483647) (h2 : newN u ≤ 2147483647) :
    DValid (flushD w) ∧ DSw (exD (flushD w)) u ∧ oldD (flushD w) = oldN u ∧ newD (flushD w) = newN u := by
  have hk := flushD_ok h
  have he := flushD_ex h
  have hl := dsw_lens hs
  have hd := lens_D hk.1
  rw [he] at hd
  refine ⟨valid_of hk.1 hk.2 (by omega) (by omega), by rw [he]; exact hs, by omega, by omega⟩
end Go.Ch
end
section
set_option linter.unusedVariables false
set_option linter.unusedSimpArgs false
namespace Go.Ch
open Go Go.Ab

def putU (w : DWr) : DU → DWr
  | .K c => ⟨keepD (flushD w) 1 c, [], 0⟩
  | .A e => ⟨w.out, w.add ++ [e], w.cut⟩
  | .C => ⟨w.out, w.add, w.cut + 1⟩
def foldD (w : DWr) : List DU → DWr
  | [] => w
  | u :: us => foldD (putU w u) us
theorem foldD_As (e : List Elem) (us : List DU) : ∀ w : DWr, foldD w (e.map .A ++ us) = foldD ⟨w.out, w.add ++ e, w.cut⟩ us := by
  induction e with
  | nil => intro w; simp
  | cons x e ih => intro w; simp only [List.map_cons, List.cons_append, foldD, putU]; rw [ih]; simp
theorem foldD_Cs (n : Nat) (us : List DU) : ∀ w : DWr, foldD w (List.replicate n .C ++ us) = foldD ⟨w.out, w.add, w.cut + n⟩ us := by
  induction n with
  | zero => intro w; simp
  | succ n ih => intro w; simp only [List.replicate_succ, List.cons_append, foldD, putU]; rw [ih]; simp only; rw [show w.cut + 1 + (n : Int) = w.cut + ((n + 1 : Nat) : Int) by omega]
theorem flushD_nil (l : List DStep) : flushD ⟨l, [], 0⟩ = l := by simp [flushD]
theorem keepD_keepD {l : List DStep} {m n : Int} {c : List Attr} : keepD (keepD l m c) n c = keepD l (m + n) c := by
  unfold keepD
  by_cases h : 0 < l.length ∧ (l.getD (l.length - 1) default).kind = 0 ∧ sameL (l.getD (l.length - 1) default).attrs c = true
  · rw [if_pos h, if_pos h, setD h.1, setD h.1]
    generalize l.getD (l.length - 1) default = x at *
    have e : ∀ y : DStep, (List.take (l.length - 1) l ++ [y]).getD ((List.take (l.length - 1) l ++ [y]).length - 1) default = y := fun y => by simp
    rw [e, if_pos ⟨by simp, h.2.1, h.2.2⟩, setD (by simp)]
    have t : ∀ y : DStep, (List.take (l.length - 1) l ++ [y]).take ((List.take (l.length - 1) l ++ [y]).length - 1) = List.take (l.length - 1) l := fun y => by simp
    rw [t, Int.add_assoc]
  · rw [if_neg h, if_neg h]
    have e : ∀ y : DStep, (l ++ [y]).getD ((l ++ [y]).length - 1) default = y := fun y => by simp
    rw [e, if_pos ⟨by simp, rfl, sameL_self c⟩, setD (by simp)]
    simp
theorem foldD_Ks (c : List Attr) (us : List DU) : ∀ (n : Nat) (w : DWr), foldD w (List.replicate (n + 1) (.K c) ++ us) = foldD ⟨keepD (flushD w) ((n + 1 : Nat) : Int) c, [], 0⟩ us
  | 0, w => by simp [foldD, putU]
  | n + 1, w => by
    rw [List.replicate_succ, List.cons_append, foldD, foldD_Ks c us n]
    simp only [putU]
    rw [flushD_nil, keepD_keepD, show (1 : Int) + ((n + 1 : Nat) : Int) = ((n + 1 + 1 : Nat) : Int) by omega]
def UnitOk : DU → Prop
  | .K c => VG true c ∧ c.length ≤ 400000000000
  | .A e => elemE e = 0 ∧ e.attrs.length ≤ 400000000000
  | .C => True
/-- Bounds of what the writer holds. -/
structure WBd (w : DWr) : Prop where
  out : DN 400000000000 w.out
  add : AN 400000000000 w.add
theorem WBd.flush {w : DWr} (h : WBd w) (hl : w.add.length ≤ 400000000000) : DN 400000000000 (flushD w) := by
  intro s hs
  unfold flushD at hs
  simp only [List.mem_append] at hs
  rcases hs with (hs | hs) | hs
  · exact h.out s hs
  · split at hs
    · rw [List.mem_singleton] at hs; subst hs; exact ⟨hl, by simp, h.add⟩
    · cases hs
  · split at hs
    · rw [List.mem_singleton] at hs; subst hs; exact ⟨by simp, by simp, fun x hx => by cases hx⟩
    · cases hs
theorem WBd.keep {w : DWr} {n : Int} {c : List Attr} (h : WBd w) (hl : w.add.length ≤ 400000000000) (hc : c.length ≤ 400000000000) : WBd ⟨keepD (flushD w) n c, [], 0⟩ := by
  have hf := h.flush hl
  refine ⟨fun s hs => ?_, fun x hx => by cases hx⟩
  simp only at hs
  unfold keepD at hs
  split at hs
  · rename_i q
    rw [setD q.1, List.mem_append] at hs
    rcases hs with hs | hs
    · exact hf s (List.mem_of_mem_take hs)
    · rw [List.mem_singleton] at hs; subst hs
      have := hf _ (lastD_mem q.1)
      exact this
  · rw [List.mem_append] at hs
    rcases hs with hs | hs
    · exact hf s hs
    · rw [List.mem_singleton] at hs; subst hs; exact ⟨by simp, hc, fun x hx => by cases hx⟩
theorem exS_len {s : DStep} (h : DOkW s) : 1 ≤ (exS s).length ∧ (s.kind ≠ 1 → s.n ≤ (exS s).length) ∧ 0 ≤ s.n ∧ (s.kind = 1 → s.n = 0) := by
  unfold exS
  rcases h with ⟨k, n, a, e, _⟩ | ⟨k, _, _, n1, _⟩
  · rw [if_pos k, List.length_map]
    have : 0 < s.elems.length := List.length_pos_iff.2 e
    exact ⟨this, fun q => absurd k q, by omega, fun _ => n⟩
  · have k1 : ¬ s.kind = 1 := by omega
    rw [if_neg k1]
    refine ⟨?_, fun _ => ?_, by omega, fun q => absurd q k1⟩ <;> split <;> simp <;> omega
theorem exD_len : ∀ {l : List DStep}, (∀ s ∈ l, DOkW s) → l.length ≤ (exD l).length ∧ ∀ s ∈ l, 0 ≤ s.n ∧ s.n ≤ ((exD l).length : Int)
  | [], _ => ⟨Nat.le_refl _, fun s hs => by cases hs⟩
  | s :: l, h => by
    have h1 := exS_len (h s (by simp))
    have h2 := exD_len (l := l) (fun t ht => h t (by simp [ht]))
    simp only [exD, List.length_append, List.length_cons]
    refine ⟨by omega, fun t ht => ?_⟩
    rcases List.mem_cons.1 ht with rfl | ht
    · refine ⟨h1.2.2.1, ?_⟩
      by_cases k : t.kind = 1
      · have := h1.2.2.2 k; omega
      · have := h1.2.1 k; omega
    · have := h2.2 t ht; omega
/-- The writer, what it is still to be fed, how much that is in all, and where it ends. -/
structure DI (w : DWr) (us : List DU) (T : Nat) (G : DWr) : Prop where
  good : GoodD w
  wb : WBd w
  units : ∀ u ∈ us, UnitOk u
  len : (exDW w).length + us.length = T
  small : T ≤ 8589934592
  eq : foldD w us = G
variable {w G : DWr} {us : List DU} {T : Nat}
theorem DI.bd (h : DI w us T G) : w.out.length ≤ T ∧ w.add.length ≤ T ∧ 0 ≤ w.cut ∧ w.cut ≤ T ∧ us.length ≤ T ∧ T ≤ 8589934592 ∧ w.add.length + us.length ≤ T ∧ w.cut + us.length ≤ T := by
  have h1 := (exD_len h.good.ok).1
  have h2 := h.good.cut
  have h3 := h.len
  have h4 := h.small
  unfold exDW at h3
  simp only [List.length_append, List.length_replicate, List.length_map] at h3
  omega
theorem DI.fl (h : DI w us T G) : (∀ s ∈ flushD w, 0 ≤ s.n ∧ s.n ≤ 10000000000) ∧ DN 400000000000 (flushD w) := by
  have hb := h.bd
  refine ⟨fun s hs => ?_, h.wb.flush (by omega)⟩
  have h1 := (exD_len (flushD_ok h.good).1).2 s hs
  rw [flushD_ex h.good] at h1
  have h3 := h.len
  omega
theorem DI.keep {n : Nat} {c : List Attr} (h : DI w (List.replicate (n + 1) (.K c) ++ us) T G) : DI ⟨keepD (flushD w) ((n + 1 : Nat) : Int) c, [], 0⟩ us T G := by
  have hu := h.units (.K c) (by rw [List.replicate_succ]; simp)
  have hb := h.bd
  obtain ⟨g1, g2⟩ := h.good.keep (n := ((n + 1 : Nat) : Int)) (by omega) hu.1
  refine ⟨g1, h.wb.keep (by omega) hu.2, fun u hu => h.units u (by simp [hu]), ?_, h.small, ?_⟩
  · have h3 := h.len
    rw [g2]
    simp only [List.length_append, List.length_replicate] at h3 ⊢
    omega
  · rw [← h.eq, foldD_Ks]
theorem dsw_len {u v : List DU} (h : DSw u v) : u.length = v.length := by
  induction h with
  | refl u => rfl
  | cons x _ ih => simp [ih]
  | swap e u => rfl
  | symm _ ih => exact ih.symm
  | trans _ _ a b => exact a.trans b
theorem DI.elems {e : List Elem} (h : DI w (e.map .A ++ us) T G) : DI ⟨w.out, w.add ++ e, w.cut⟩ us T G := by
  have hu : ∀ x ∈ e, UnitOk (.A x) := fun x hx => h.units (.A x) (by simp [hx])
  obtain ⟨g1, g2⟩ := h.good.elems (e := e) (fun x hx => (hu x hx).1)
  refine ⟨g1, ⟨h.wb.out, fun x hx => ?_⟩, fun u hu => h.units u (by simp [hu]), ?_, h.small, ?_⟩
  · rcases List.mem_append.1 hx with hx | hx
    · exact h.wb.add x hx
    · exact (hu x hx).2
  · have h3 := h.len
    rw [dsw_len g2]
    simp only [List.length_append, List.length_map] at h3 ⊢
    omega
  · rw [← h.eq, foldD_As]
theorem DI.cuts {n : Nat} (h : DI w (List.replicate n .C ++ us) T G) : DI ⟨w.out, w.add, w.cut + n⟩ us T G := by
  obtain ⟨g1, g2⟩ := h.good.cuts (n := (n : Int)) (by omega)
  refine ⟨g1, ⟨h.wb.out, h.wb.add⟩, fun u hu => h.units u (by simp [hu]), ?_, h.small, ?_⟩
  · have h3 := h.len
    rw [g2]
    simp only [List.length_append, List.length_replicate] at h3 ⊢
    omega
  · rw [← h.eq, foldD_Cs]
theorem DI.done (h : DI w [] T G) : w = G := h.eq
def doneD (us : List DU) : List DStep := flushD (foldD ⟨[], [], 0⟩ us)
theorem DI.start (h : ∀ u ∈ us, UnitOk u) (hs : us.length ≤ 8589934592) : DI ⟨[], [], 0⟩ us us.length (foldD ⟨[], [], 0⟩ us) :=
  ⟨goodD0, ⟨fun s h => (by cases h), fun x h => (by cases h)⟩, h, by simp [exDW, exD], hs, rfl⟩
theorem foldD_ok : ∀ (us : List DU) (w : DWr), GoodD w → (∀ u ∈ us, UnitOk u) → GoodD (foldD w us) ∧ DSw (exDW (foldD w us)) (exDW w ++ us)
  | [], w, h, _ => ⟨h, by simp only [foldD, List.append_nil]; exact .refl _⟩
  | u :: us, w, h, hu => by
    have h0 := hu u (by simp)
    have hp : GoodD (putU w u) ∧ DSw (exDW (putU w u)) (exDW w ++ [u]) := by
      cases u with
      | K c =>
        obtain ⟨g1, g2⟩ := h.keep (n := 1) (by decide) h0.1
        exact ⟨g1, by simp only [putU]; rw [g2]; exact .refl _⟩
      | A e =>
        obtain ⟨g1, g2⟩ := h.elems (e := [e]) (fun x hx => by rw [List.mem_singleton] at hx; subst hx; exact h0.1)
        exact ⟨g1, g2⟩
      | C =>
        obtain ⟨g1, g2⟩ := h.cuts (n := 1) (by decide)
        exact ⟨g1, by simp only [putU]; rw [g2]; exact .refl _⟩
    obtain ⟨q1, q2⟩ := foldD_ok us (putU w u) hp.1 (fun v hv => hu v (by simp [hv]))
    refine ⟨q1, .trans q2 ?_⟩
    have := hp.2.right us
    simpa using this
theorem doneD_ok (h : ∀ u ∈ us, UnitOk u) (h1 : oldN us ≤ 2147483647) (h2 : newN us ≤ 2147483647) :
    DValid (doneD us) ∧ DSw (exD (doneD us)) us ∧ oldD (doneD us) = oldN us ∧ newD (doneD us) = newN us := by
  obtain ⟨q1, q2⟩ := foldD_ok us ⟨[], [], 0⟩ goodD0 h
  exact q1.valid (by simpa [exDW, exD] using q2) h1 h2
theorem len_sum (us : List DU) : us.length ≤ oldN us + newN us := by
  induction us with
  | nil => simp [oldN]
  | cons u us ih => cases u <;> simp [oldN, newN] <;> omega
end Go.Ch
end
section
set_option linter.unusedVariables false
set_option linter.unusedSimpArgs false
namespace Go.Ch
open Go Go.Ab

theorem fm_len' (g : Attr → Attr → Option Attr) (a b : List Attr) : (fm g a b).length ≤ a.length + b.length := by
  unfold fm
  exact Nat.le_trans (List.length_filterMap_le _ _) (bothL_len a b)
def bk (c : List Attr) (x : Elem) : List Attr := fm chgG (fm rawG x.attrs c) x.attrs
def KOk (us : List DU) : Prop := (∀ c, DU.K c ∈ us → VG true c ∧ c.length ≤ 100000000000) ∧ (∀ e, DU.A e ∈ us → elemE e = 0 ∧ e.attrs.length ≤ 100000000000)
def EOk (r : List Elem) : Prop := ∀ x ∈ r, elemE x = 0 ∧ x.attrs.length ≤ 100000000000
theorem KOk.tail {u : DU} {us : List DU} (h : KOk (u :: us)) : KOk us := ⟨fun c hc => h.1 c (by simp [hc]), fun e he => h.2 e (by simp [he])⟩
theorem EOk.tail {x : Elem} {r : List Elem} (h : EOk (x :: r)) : EOk r := fun y hy => h y (by simp [hy])
theorem undoU_units : ∀ (us : List DU) (r : List Elem), KOk us → EOk r → ∀ u ∈ undoU us r, UnitOk u
  | [], _, _, _, u, hu => by simp [undoU] at hu
  | .A e :: us, r, hk, hr, u, hu => by
    simp only [undoU, List.mem_cons] at hu
    rcases hu with rfl | hu
    · trivial
    · exact undoU_units us r hk.tail hr u hu
  | .K c :: us, [], hk, hr, u, hu => undoU_units us [] hk.tail hr u (by simpa [undoU] using hu)
  | .C :: us, [], hk, hr, u, hu => undoU_units us [] hk.tail hr u (by simpa [undoU] using hu)
  | .K c :: us, x :: r, hk, hr, u, hu => by
    simp only [undoU, List.mem_cons] at hu
    rcases hu with rfl | hu
    · have h1 := hk.1 c (by simp)
      have h2 := hr x (by simp)
      have v := elem_ok h2.1
      refine ⟨chg_V np_mt (raw_V np_mt v h1.1) v, ?_⟩
      have l1 := fm_len' chgG (fm rawG x.attrs c) x.attrs
      have l2 := fm_len' rawG x.attrs c
      omega
    · exact undoU_units us r hk.tail hr.tail u hu
  | .C :: us, x :: r, hk, hr, u, hu => by
    simp only [undoU, List.mem_cons] at hu
    rcases hu with rfl | hu
    · have h2 := hr x (by simp)
      exact ⟨h2.1, by omega⟩
    · exact undoU_units us r hk.tail hr.tail u hu
theorem undoU_lens : ∀ (us : List DU) (r : List Elem), oldN us = r.length → oldN (undoU us r) = newN us ∧ newN (undoU us r) = r.length
  | [], r, h => by simp only [oldN] at h; simp [undoU, oldN, newN, ← h]
  | .A e :: us, r, h => by
    have := undoU_lens us r (by simpa [oldN] using h)
    simp [undoU, oldN, newN, this.1, this.2]
  | .K c :: us, [], h => by simp [oldN] at h
  | .C :: us, [], h => by simp [oldN] at h
  | .K c :: us, x :: r, h => by
    have := undoU_lens us r (by simpa [oldN] using h)
    simp [undoU, oldN, newN, this.1, this.2]
  | .C :: us, x :: r, h => by
    have := undoU_lens us r (by simpa [oldN] using h)
    simp [undoU, oldN, newN, this.1, this.2]
theorem applyU_len : ∀ (us : List DU) (r : List Elem), oldN us = r.length → (applyU us r).length = newN us
  | [], r, h => by simp [applyU, newN]
  | .A e :: us, r, h => by
    have := applyU_len us r (by simpa [oldN] using h)
    simp [applyU, newN, this]
  | .K c :: us, [], h => by simp [oldN] at h
  | .C :: us, [], h => by simp [oldN] at h
  | .K c :: us, x :: r, h => by
    have := applyU_len us r (by simpa [oldN] using h)
    simp [applyU, newN, this]
  | .C :: us, x :: r, h => by
    have := applyU_len us r (by simpa [oldN] using h)
    simp [applyU, newN, this]
theorem chgE_ok {x : Elem} {c : List Attr} (h : elemE x = 0) (hc : VG true c) : elemE (chgE c x) = 0 := by
  have v := raw_V np_mt (elem_ok h) hc
  unfold elemE at h ⊢
  unfold chgE
  simp only
  split at h
  · omega
  · rename_i q1
    rw [if_neg q1]
    split at h
    · omega
    · rename_i q2
      rw [if_neg q2]
      exact chk_iff.2 v
theorem applyU_ok : ∀ (us : List DU) (r : List Elem), KOk us → EOk r → ∀ x ∈ applyU us r, elemE x = 0 ∧ x.attrs.length ≤ 200000000000
  | [], _, _, _, u, hu => by simp [applyU] at hu
  | .A e :: us, r, hk, hr, u, hu => by
    simp only [applyU, List.mem_cons] at hu
    rcases hu with rfl | hu
    · have := hk.2 u (by simp); exact ⟨this.1, by omega⟩
    · exact applyU_ok us r hk.tail hr u hu
  | .K c :: us, [], hk, hr, u, hu => applyU_ok us [] hk.tail hr u (by simpa [applyU] using hu)
  | .C :: us, [], hk, hr, u, hu => applyU_ok us [] hk.tail hr u (by simpa [applyU] using hu)
  | .K c :: us, x :: r, hk, hr, u, hu => by
    simp only [applyU, List.mem_cons] at hu
    rcases hu with rfl | hu
    · have h1 := hk.1 c (by simp)
      have h2 := hr x (by simp)
      refine ⟨chgE_ok h2.1 h1.1, ?_⟩
      have l2 := fm_len' rawG x.attrs c
      show (fm rawG x.attrs c).length ≤ _
      omega
    · exact applyU_ok us r hk.tail hr.tail u hu
  | .C :: us, x :: r, hk, hr, u, hu => by
    simp only [applyU] at hu
    exact applyU_ok us r hk.tail hr.tail u hu
theorem exD_K {l : List DStep} (h : ∀ s ∈ l, DOk s) (hd : DN 100000000000 l) : KOk (exD l) := by
  induction l with
  | nil => exact ⟨fun c hc => by simp [exD] at hc, fun c hc => by simp [exD] at hc⟩
  | cons s l ih =>
    obtain ⟨i1, i2⟩ := ih (fun t ht => h t (by simp [ht])) (fun t ht => hd t (by simp [ht]))
    have hs := h s (by simp)
    obtain ⟨b1, b2, b3⟩ := hd s (by simp)
    refine ⟨fun c hc => ?_, fun e he => ?_⟩
    · simp only [exD, List.mem_append] at hc
      rcases hc with hc | hc
      · unfold exS at hc
        rcases hs with ⟨k, _⟩ | ⟨k, _, _, _, _, v⟩
        · rw [if_pos k] at hc; simp at hc
        · rw [if_neg (by omega)] at hc
          split at hc
          · simp [List.mem_replicate] at hc
          · have := List.eq_of_mem_replicate hc
            cases this
            exact ⟨v, b2⟩
      · exact i1 c hc
    · simp only [exD, List.mem_append] at he
      rcases he with he | he
      · unfold exS at he
        rcases hs with ⟨k, _, _, _, q⟩ | ⟨k, _⟩
        · rw [if_pos k, List.mem_map] at he
          obtain ⟨x, hx, e1⟩ := he
          cases e1
          exact ⟨q _ hx, b3 _ hx⟩
        · rw [if_neg (by omega)] at he
          split at he
          · simp [List.mem_replicate] at he
          · simp [List.mem_replicate] at he
      · exact i2 e he
def undoD (f : List Elem) (l : List DStep) : List DStep := doneD (undoU (exD l) f)
theorem okU_of {us : List DU} (h : KOk us) : UOk us := by
  induction us with
  | nil => trivial
  | cons u us ih =>
    cases u with
    | K c => exact ⟨(h.1 c (by simp)).1, ih h.tail⟩
    | A e => exact ih h.tail
    | C => exact ih h.tail
theorem undo_final {f : List Elem} {l : List DStep} (hv : DValid l) (hd : DN 100000000000 l) (hf : EOk f) (hlen : oldD l = f.length) :
    KOk (exD l) ∧ oldN (exD l) = f.length ∧ (newN (exD l) : Int) = newD l ∧ (∀ u ∈ undoU (exD l) f, UnitOk u) ∧ (undoU (exD l) f).length ≤ 8589934592 ∧
    DValid (undoD f l) ∧ oldD (undoD f l) = newD l ∧ newD (undoD f l) = f.length ∧ (∀ x ∈ rawD f l, elemE x = 0 ∧ x.attrs.length ≤ 200000000000) ∧
    ((rawD f l).length : Int) = newD l ∧ rawD (rawD f l) (undoD f l) = f := by
  have hk := exD_K hv.1.all hd
  have hw : ∀ s ∈ l, DOkW s := fun s hs => okW (hv.1.all s hs)
  obtain ⟨n1, n2⟩ := lens_D hw
  have o1 : oldN (exD l) = f.length := by omega
  have hu := undoU_units _ _ hk hf
  obtain ⟨m1, m2⟩ := undoU_lens _ _ o1
  have hs := len_sum (undoU (exD l) f)
  have v1 := hv.2.1
  have v2 := hv.2.2
  obtain ⟨d1, d2, d3, d4⟩ := doneD_ok hu (by omega) (by omega)
  have ha := applyU_len _ _ o1
  refine ⟨hk, o1, n2, hu, by omega, d1, ?_, ?_, applyU_ok _ _ hk hf, ?_, ?_⟩
  · show oldD (doneD _) = _; omega
  · show newD (doneD _) = _; omega
  · show ((applyU (exD l) f).length : Int) = _; omega
  · show applyU (exD (doneD _)) (applyU (exD l) f) = f
    rw [sw_applyU d2]
    exact undoU_back _ _ o1 (okU_of hk) (fun x hx => elem_ok (hf x hx).1)
variable {w G : DWr} {us : List DU} {T : Nat}
theorem DI.run {g : Elem → List Attr} {t : List Elem} {j : Nat} (hj : j < t.length) (h : DI w ((t.drop j).map (fun x => DU.K (g x)) ++ us) T G) :
    UnitOk (.K (g (t.getD j default))) ∧ DI ⟨keepD (flushD w) 1 (g (t.getD j default)), [], 0⟩ ((t.drop (j + 1)).map (fun x => DU.K (g x)) ++ us) T G := by
  rw [dropD hj, List.map_cons, List.cons_append] at h
  exact ⟨h.units _ (by simp), h.keep (n := 0)⟩
theorem DN.mono {m n : Nat} {l : List DStep} (h : DN m l) (hm : m ≤ n) : DN n l := fun s hs => ⟨Nat.le_trans (h s hs).1 hm, Nat.le_trans (h s hs).2.1 hm, fun x hx => Nat.le_trans ((h s hs).2.2 x hx) hm⟩
theorem EOk.an {f : List Elem} (h : EOk f) : AN 400000000000 f := fun x hx => by have := (h x hx).2; omega
theorem EOk.take {f : List Elem} (h : EOk f) (n : Nat) : EOk (f.take n) := fun x hx => h x (List.mem_of_mem_take hx)
theorem EOk.drop {f : List Elem} (h : EOk f) (n : Nat) : EOk (f.drop n) := fun x hx => h x (List.mem_of_mem_drop hx)
end Go.Ch
end
section
set_option linter.unusedVariables false
set_option linter.unusedSimpArgs false
namespace Go.Ch
open Go Go.Ab

def elemsT (l : List Elem) : Tree := .lst 3 (l.map elemT)
def boolT (b : Bool) : Tree := .sc (.bool b)
def attrsT (l : List Attr) : Tree := .lst 2 (l.map attrT)
structure Act where
  ins : List (List Elem)
  cut : List Bool
  set : List (List Attr)
def actT (x : Act) : Tree := .agg [.lst 1 (x.ins.map elemsT), .lst 1 (x.cut.map boolT), .lst 1 (x.set.map attrsT)]
/-- What is left from place i on, as units. -/
def actR (x : Act) (i : Nat) : List DU :=
  if i < x.cut.length then (x.ins.getD i default).map .A ++ ((if x.cut.getD i default = true then .C else .K (x.set.getD i default)) :: actR x (i + 1))
  else (x.ins.getD i default).map .A
termination_by x.cut.length - i
def tailR (x : Act) (i : Nat) : List DU := if i < x.cut.length then (if x.cut.getD i default = true then .C else .K (x.set.getD i default)) :: actR x (i + 1) else []
theorem actR_eq (x : Act) (i : Nat) : actR x i = (x.ins.getD i default).map .A ++ tailR x i := by
  unfold tailR
  rw [actR]
  split <;> simp
theorem tailR_C {x : Act} {i : Nat} (h : i < x.cut.length) (k : x.cut.getD i default = true) : tailR x i = .C :: actR x (i + 1) := by unfold tailR; rw [if_pos h, if_pos k]
theorem tailR_K {x : Act} {i : Nat} (h : i < x.cut.length) (k : x.cut.getD i default = false) : tailR x i = .K (x.set.getD i default) :: actR x (i + 1) := by unfold tailR; rw [if_pos h, if_neg (by rw [k]; decide)]
theorem tailR_e {x : Act} {i : Nat} (h : ¬ i < x.cut.length) : tailR x i = [] := by unfold tailR; rw [if_neg h]
theorem actR_cut (x : Act) : ∀ (n i : Nat), x.cut.length - i = n → n ≤ (actR x i).length
  | 0, i, h => Nat.zero_le _
  | n + 1, i, h => by
    have := actR_cut x n (i + 1) (by omega)
    rw [actR, if_pos (by omega)]
    simp only [List.length_append, List.length_cons]
    omega
variable {w G : DWr} {us : List DU} {T : Nat}
theorem DI.keep1 {c : List Attr} (h : DI w (.K c :: us) T G) : DI ⟨keepD (flushD w) 1 c, [], 0⟩ us T G := DI.keep (n := 0) h
theorem DI.cut1 (h : DI w (.C :: us) T G) : DI ⟨w.out, w.add, w.cut + 1⟩ us T G := DI.cuts (n := 1) h
theorem DI.of_eq {o o' : List DStep} {a : List Elem} {c : Int} (e : o' = o) (h : DI ⟨o, a, c⟩ us T G) : DI ⟨o', a, c⟩ us T G := e ▸ h
end Go.Ch
end
section
set_option linter.unusedVariables false
set_option linter.unusedSimpArgs false
namespace Go.Ch
open Go Go.Ab

inductive U where
  | K
  | A
  | C
/-- Adds and cuts at one gap may be exchanged. -/
inductive Sw : List U → List U → Prop
  | refl (u : List U) : Sw u u
  | cons (x : U) {u v : List U} (h : Sw u v) : Sw (x :: u) (x :: v)
  | swap (u : List U) : Sw (.A :: .C :: u) (.C :: .A :: u)
  | symm {u v : List U} (h : Sw u v) : Sw v u
  | trans {u v w : List U} (h : Sw u v) (k : Sw v w) : Sw u w
theorem Sw.of_eq {u v : List U} (h : u = v) : Sw u v := h ▸ .refl u
theorem Sw.left (w : List U) {u v : List U} (h : Sw u v) : Sw (w ++ u) (w ++ v) := by
  induction w with
  | nil => exact h
  | cons x w ih => exact .cons x ih
theorem Sw.right (w : List U) {u v : List U} (h : Sw u v) : Sw (u ++ w) (v ++ w) := by
  induction h with
  | refl u => exact .refl _
  | cons x _ ih => exact .cons x ih
  | swap u => exact .swap _
  | symm _ ih => exact .symm ih
  | trans _ _ a b => exact .trans a b
abbrev rep (n : Nat) (x : U) : List U := List.replicate n x
theorem rep_succ (n : Nat) (x : U) : rep (n + 1) x = x :: rep n x := rfl
theorem sw_C_As (a : Nat) (u : List U) : Sw (.C :: (rep a .A ++ u)) (rep a .A ++ .C :: u) := by
  induction a with
  | zero => exact .refl _
  | succ a ih => exact .trans (.symm (.swap _)) (.cons _ ih)
theorem sw_Cs_As (c a : Nat) (u : List U) : Sw (rep c .C ++ (rep a .A ++ u)) (rep a .A ++ (rep c .C ++ u)) := by
  induction c with
  | zero => exact .refl _
  | succ c ih => exact .trans (.cons _ ih) (sw_C_As a _)

def bumpA : List (Nat × Nat) → List (Nat × Nat)
  | [] => []
  | (a, c) :: r => (a + 1, c) :: r
def bumpC : List (Nat × Nat) → List (Nat × Nat)
  | [] => []
  | (a, c) :: r => (a, c + 1) :: r
def beta : List U → List (Nat × Nat)
  | [] => [(0, 0)]
  | .K :: u => (0, 0) :: beta u
  | .A :: u => bumpA (beta u)
  | .C :: u => bumpC (beta u)
def unb : List (Nat × Nat) → List U
  | [] => []
  | [(a, c)] => rep a .A ++ rep c .C
  | (a, c) :: s :: r => rep a .A ++ (rep c .C ++ .K :: unb (s :: r))
/-! ### Joining -/
def joinU : List U → List U → List U
  | .C :: p, q => .C :: joinU p q
  | [], q => q
  | .K :: p, [] => .K :: joinU p []
  | .A :: p, [] => .A :: joinU p []
  | .K :: p, .A :: q => .A :: joinU (.K :: p) q
  | .A :: p, .A :: q => .A :: joinU (.A :: p) q
  | .K :: p, .K :: q => .K :: joinU p q
  | .K :: p, .C :: q => .C :: joinU p q
  | .A :: p, .K :: q => .A :: joinU p q
  | .A :: p, .C :: q => joinU p q
termination_by p q => p.length + q.length
def oldU : List U → Nat
  | [] => 0
  | .A :: u => oldU u
  | .K :: u => oldU u + 1
  | .C :: u => oldU u + 1
def newU : List U → Nat
  | [] => 0
  | .C :: u => newU u
  | .K :: u => newU u + 1
  | .A :: u => newU u + 1
/-! ### Rebasing -/
def pairU : List U → List U → List U × List U
  | .A :: p, q => (.A :: (pairU p q).1, .K :: (pairU p q).2)
  | p, .A :: q => (.K :: (pairU p q).1, .A :: (pairU p q).2)
  | .K :: p, .K :: q => (.K :: (pairU p q).1, .K :: (pairU p q).2)
  | .K :: p, .C :: q => ((pairU p q).1, .C :: (pairU p q).2)
  | .C :: p, .K :: q => (.C :: (pairU p q).1, (pairU p q).2)
  | .C :: p, .C :: q => pairU p q
  | _, _ => ([], [])
termination_by p q => p.length + q.length
end Go.Ch
end
section
set_option linter.unusedVariables false
set_option linter.unusedSimpArgs false
namespace Go.Ch
open Go Go.Ab

structure AxStep where
  kind : Int
  n : Int
instance : Inhabited AxStep := ⟨⟨0, 0⟩⟩
def stepT (s : AxStep) : Tree := .agg [.sc (.int .i64 s.kind), .sc (.int .i64 s.n)]
def uOf (k : Int) : U := if k = 1 then .A else if k = 2 then .C else .K
def ex : List AxStep → List U
  | [] => []
  | s :: l => rep s.n.toNat (uOf s.kind) ++ ex l
theorem ex_app (a b : List AxStep) : ex (a ++ b) = ex a ++ ex b := by
  induction a with
  | nil => rfl
  | cons s a ih => simp [ex, ih]
def Ok1 (s : AxStep) : Prop := 0 ≤ s.kind ∧ s.kind ≤ 2 ∧ 1 ≤ s.n
def Nx (s t : AxStep) : Prop := s.kind ≠ t.kind ∧ ¬ (s.kind = 2 ∧ t.kind = 1)
theorem ok1_mk {k n : Int} (h : 0 ≤ k ∧ k ≤ 2) (hn : 1 ≤ n) : Ok1 ⟨k, n⟩ := ⟨h.1, h.2, hn⟩
theorem nx_mk {s : AxStep} {k n : Int} (h : s.kind ≠ k) (h2 : ¬ (s.kind = 2 ∧ k = 1)) : Nx s ⟨k, n⟩ := ⟨h, h2⟩
def Form : List AxStep → Prop
  | [] => True
  | [s] => Ok1 s
  | s :: t :: l => Ok1 s ∧ Nx s t ∧ Form (t :: l)
theorem Form.head {s : AxStep} {l : List AxStep} (h : Form (s :: l)) : Ok1 s := by
  cases l with
  | nil => exact h
  | cons t l => exact h.1
theorem Form.tail {s : AxStep} {l : List AxStep} (h : Form (s :: l)) : Form l := by
  cases l with
  | nil => trivial
  | cons t l => exact h.2.2
theorem Form.all : ∀ {l : List AxStep}, Form l → ∀ s ∈ l, Ok1 s
  | [], _, s, h => by cases h
  | t :: l, h, s, hs => by
    rcases List.mem_cons.1 hs with rfl | hs
    · exact h.head
    · exact h.tail.all s hs
theorem form_snoc : ∀ {l : List AxStep} {s : AxStep}, Form l → Ok1 s → (∀ t, l.getLast? = some t → Nx t s) → Form (l ++ [s])
  | [], s, _, h, _ => h
  | [t], s, h1, h2, h3 => ⟨h1, h3 t rfl, h2⟩
  | t :: t' :: l, s, h1, h2, h3 => ⟨h1.1, h1.2.1, form_snoc (l := t' :: l) h1.2.2 h2 (fun x hx => h3 x (by simpa using hx))⟩
theorem form_last : ∀ {l : List AxStep} {s s' : AxStep}, Form (l ++ [s]) → s'.kind = s.kind → 1 ≤ s'.n → Form (l ++ [s'])
  | [], s, s', h, e, hn => ⟨by rw [e]; exact h.1, by rw [e]; exact h.2.1, hn⟩
  | [t], s, s', h, e, hn => ⟨h.1, by unfold Nx; rw [e]; exact h.2.1, by have := h.2.2; exact ⟨by rw [e]; exact this.1, by rw [e]; exact this.2.1, hn⟩⟩
  | t :: t' :: l, s, s', h, e, hn => ⟨h.1, h.2.1, form_last (l := t' :: l) h.2.2 e hn⟩

theorem rep_add (m n : Nat) (x : U) : rep (m + n) x = rep m x ++ rep n x := List.replicate_append_replicate.symm
/-! ### One form for each effect -/
def opt1 (k : Int) (n : Nat) : List AxStep := if n = 0 then [] else [⟨k, n⟩]
def rend (k : Nat) : List (Nat × Nat) → List AxStep
  | [] => opt1 0 k
  | (a, c) :: r => if a = 0 ∧ c = 0 then (if r = [] then opt1 0 k else rend (k + 1) r) else opt1 0 k ++ opt1 1 a ++ opt1 2 c ++ (if r = [] then [] else rend 1 r)
theorem uOf0 : uOf 0 = .K := rfl
theorem uOf1 : uOf 1 = .A := rfl
theorem uOf2 : uOf 2 = .C := rfl
theorem kinds {s : AxStep} (h : Ok1 s) : s.kind = 0 ∨ s.kind = 1 ∨ s.kind = 2 := by have := h.1; have := h.2.1; omega
/-! ### The writer -/
structure Wr where
  out : List AxStep
  add : Int
  cut : Int
def flushW (w : Wr) : List AxStep := w.out ++ (if 0 < w.add then [⟨1, w.add⟩] else []) ++ (if 0 < w.cut then [⟨2, w.cut⟩] else [])
def keepW (l : List AxStep) (n : Int) : List AxStep :=
  if 0 < l.length ∧ (l.getD (l.length - 1) default).kind = 0 then l.set (l.length - 1) ⟨(l.getD (l.length - 1) default).kind, (l.getD (l.length - 1) default).n + n⟩ else l ++ [⟨0, n⟩]
def putW (w : Wr) (k n : Int) : Wr :=
  if n = 0 then w else if k = 1 then ⟨w.out, w.add + n, w.cut⟩ else if k = 2 then ⟨w.out, w.add, w.cut + n⟩ else ⟨keepW (flushW w) n, 0, 0⟩
def exW (w : Wr) : List U := ex w.out ++ (rep w.add.toNat .A ++ rep w.cut.toNat .C)
structure GoodW (w : Wr) : Prop where
  form : Form w.out
  last : ∀ t, w.out.getLast? = some t → t.kind = 0
  add : 0 ≤ w.add
  cut : 0 ≤ w.cut
theorem flushW_ex {w : Wr} (h : GoodW w) : ex (flushW w) = exW w := by
  have h1 := h.add
  have h2 := h.cut
  unfold flushW exW
  rw [ex_app, ex_app, List.append_assoc]
  congr 2
  · split
    · simp [ex, uOf]
    · rw [show w.add.toNat = 0 by omega]; rfl
  · split
    · simp [ex, uOf]
    · rw [show w.cut.toNat = 0 by omega]; rfl
theorem flushW_form {w : Wr} (h : GoodW w) : Form (flushW w) := by
  have h1 := h.add
  have h2 := h.cut
  unfold flushW
  by_cases ha : 0 < w.add
  · rw [if_pos ha]
    have f1 : Form (w.out ++ [⟨1, w.add⟩]) := form_snoc h.form (ok1_mk (by omega) (by omega)) (fun t ht => by
      have := h.last t ht
      exact nx_mk (by omega) (by omega))
    by_cases hc : 0 < w.cut
    · rw [if_pos hc]
      refine form_snoc f1 (ok1_mk (by omega) (by omega)) (fun t ht => ?_)
      rw [List.getLast?_concat] at ht
      cases ht
      exact nx_mk (by show (1 : Int) ≠ 2; decide) (by show ¬ ((1 : Int) = 2 ∧ (2 : Int) = 1); decide)
    · rw [if_neg hc, List.append_nil]; exact f1
  · rw [if_neg ha, List.append_nil]
    by_cases hc : 0 < w.cut
    · rw [if_pos hc]
      refine form_snoc h.form (ok1_mk (by omega) (by omega)) (fun t ht => ?_)
      have := h.last t ht
      exact nx_mk (by omega) (by omega)
    · rw [if_neg hc, List.append_nil]; exact h.form
theorem last_getD {l : List AxStep} (h : 0 < l.length) : l = l.take (l.length - 1) ++ [l.getD (l.length - 1) default] := by
  conv => lhs; rw [← List.take_append_drop (l.length - 1) l]
  congr 1
  rw [List.drop_eq_getElem_cons (by omega), List.drop_eq_nil_of_le (by omega)]
  simp [List.getD, List.getElem?_eq_getElem (show l.length - 1 < l.length by omega)]
theorem set_last {l : List AxStep} (h : 0 < l.length) (s : AxStep) : l.set (l.length - 1) s = l.take (l.length - 1) ++ [s] := by
  rw [List.set_eq_take_append_cons_drop, if_pos (by omega), List.drop_eq_nil_of_le (by omega)]
theorem getLast_getD {l : List AxStep} (h : 0 < l.length) : l.getLast? = some (l.getD (l.length - 1) default) := by
  conv => lhs; rw [last_getD h]
  rw [List.getLast?_concat]
theorem keepW_ok {l : List AxStep} {n : Int} (hf : Form l) (hn : 1 ≤ n) : Form (keepW l n) ∧ (∀ t, (keepW l n).getLast? = some t → t.kind = 0) ∧ ex (keepW l n) = ex l ++ rep n.toNat .K := by
  unfold keepW
  split
  · rename_i hc
    obtain ⟨h0, hk⟩ := hc
    generalize hx : l.getD (l.length - 1) default = x at hk ⊢
    have hl := last_getD h0
    rw [hx] at hl
    rw [set_last h0]
    have hox : Ok1 x := hf.all x (by rw [hl]; simp)
    refine ⟨form_last (s := x) (by rw [← hl]; exact hf) rfl (by have := hox.2.2; simp only; omega), fun t ht => ?_, ?_⟩
    · rw [List.getLast?_concat] at ht; cases ht; exact hk
    · conv => rhs; rw [hl]
      rw [ex_app, ex_app, List.append_assoc]
      congr 1
      simp only [ex, List.append_nil]
      rw [hk, uOf0, show (x.n + n).toNat = x.n.toNat + n.toNat by have := hox.2.2; omega]
      exact List.replicate_append_replicate.symm
  · rename_i hc
    refine ⟨form_snoc hf (ok1_mk (by decide) hn) (fun t ht => ?_), fun t ht => ?_, by rw [ex_app]; simp [ex, uOf]⟩
    · have h0 : 0 < l.length := by
        rcases l with _ | ⟨y, l⟩
        · cases ht
        · simp
      rw [getLast_getD h0] at ht
      cases ht
      exact nx_mk (fun hh => hc ⟨h0, hh⟩) (by omega)
    · rw [List.getLast?_concat] at ht; cases ht; rfl
theorem putW_ok {w : Wr} {k n : Int} (h : GoodW w) (hk : 0 ≤ k ∧ k ≤ 2) (hn : 0 ≤ n) : GoodW (putW w k n) ∧ Sw (exW (putW w k n)) (exW w ++ rep n.toNat (uOf k)) ∧ (exW (putW w k n)).length = (exW w).length + n.toNat := by
  have h1 := h.add
  have h2 := h.cut
  unfold putW
  by_cases n0 : n = 0
  · subst n0
    rw [if_pos rfl]
    exact ⟨h, by simp; exact .refl _, by simp⟩
  · rw [if_neg n0]
    by_cases k1 : k = 1
    · subst k1
      rw [if_pos rfl]
      refine ⟨⟨h.form, h.last, by simp only; omega, h2⟩, ?_, ?_⟩
      · unfold exW
        simp only
        rw [show (w.add + n).toNat = w.add.toNat + n.toNat by omega, rep_add, uOf1]
        simp only [List.append_assoc]
        refine .left _ (.left _ ?_)
        have := sw_Cs_As w.cut.toNat n.toNat []
        simp only [List.append_nil] at this
        exact .symm this
      · unfold exW
        simp only [List.length_append, List.length_replicate]
        omega
    · rw [if_neg k1]
      by_cases k2 : k = 2
      · subst k2
        rw [if_pos rfl]
        refine ⟨⟨h.form, h.last, h1, by simp only; omega⟩, ?_, ?_⟩
        · unfold exW
          simp only
          rw [show (w.cut + n).toNat = w.cut.toNat + n.toNat by omega, rep_add, uOf2]
          simp only [List.append_assoc]
          exact .refl _
        · unfold exW
          simp only [List.length_append, List.length_replicate]
          omega
      · rw [if_neg k2]
        have k0 : k = 0 := by omega
        subst k0
        obtain ⟨q1, q2, q3⟩ := keepW_ok (flushW_form h) (n := n) (by omega)
        rw [flushW_ex h] at q3
        have e : exW ⟨keepW (flushW w) n, 0, 0⟩ = exW w ++ rep n.toNat .K := by
          rw [← q3]; simp [exW]
        refine ⟨⟨q1, q2, Int.le_refl _, Int.le_refl _⟩, ?_, ?_⟩
        · rw [e]; exact .refl _
        · rw [e]; simp
/-- Puts one unit after the other. -/
def kOf : U → Int
  | .K => 0
  | .A => 1
  | .C => 2
def foldW (w : Wr) : List U → Wr
  | [] => w
  | u :: us => foldW (putW w (kOf u) 1) us
theorem foldW_app (w : Wr) (a b : List U) : foldW w (a ++ b) = foldW (foldW w a) b := by
  induction a generalizing w with
  | nil => rfl
  | cons u a ih => exact ih _
theorem flushW_nil (l : List AxStep) : flushW ⟨l, 0, 0⟩ = l := by simp [flushW]
theorem keepW_keepW {l : List AxStep} {m n : Int} : keepW (keepW l m) n = keepW l (m + n) := by
  unfold keepW
  by_cases hc : 0 < l.length ∧ (l.getD (l.length - 1) default).kind = 0
  · rw [if_pos hc, if_pos hc]
    have hl : (l.set (l.length - 1) ⟨(l.getD (l.length - 1) default).kind, (l.getD (l.length - 1) default).n + m⟩).length = l.length := by simp
    have hg : (l.set (l.length - 1) ⟨(l.getD (l.length - 1) default).kind, (l.getD (l.length - 1) default).n + m⟩).getD (l.length - 1) default = ⟨(l.getD (l.length - 1) default).kind, (l.getD (l.length - 1) default).n + m⟩ := by
      have h0 : l.length - 1 < l.length := by omega
      simp [List.getD, h0]
    rw [hl, hg, if_pos ⟨hc.1, hc.2⟩, List.set_set]
    simp only
    congr 2; omega
  · rw [if_neg hc, if_neg hc]
    have hl : (l ++ [(⟨0, m⟩ : AxStep)]).length = l.length + 1 := by simp
    have hg : (l ++ [(⟨0, m⟩ : AxStep)]).getD (l.length + 1 - 1) default = ⟨0, m⟩ := by simp
    rw [hl, hg, if_pos ⟨by omega, rfl⟩]
    simp [List.set_append_right]
theorem putW_A (w : Wr) (n : Int) : putW w 1 n = ⟨w.out, w.add + n, w.cut⟩ := by
  unfold putW
  by_cases h : n = 0
  · rw [if_pos h, h, Int.add_zero]
  · rw [if_neg h]; rfl
theorem putW_C (w : Wr) (n : Int) : putW w 2 n = ⟨w.out, w.add, w.cut + n⟩ := by
  unfold putW
  by_cases h : n = 0
  · rw [if_pos h, h, Int.add_zero]
  · rw [if_neg h]; rfl
theorem putW_K (w : Wr) {n : Int} (h : n ≠ 0) : putW w 0 n = ⟨keepW (flushW w) n, 0, 0⟩ := by
  unfold putW
  rw [if_neg h]; rfl
/-- Many units of one kind at once. -/
theorem putW_rep (w : Wr) (x : U) (m : Nat) : foldW w (rep m x) = putW w (kOf x) m := by
  have one : ∀ m : Nat, putW (putW w (kOf x) (m : Int)) (kOf x) 1 = putW w (kOf x) ((m + 1 : Nat) : Int) := by
    intro m
    cases x with
    | A => simp only [kOf, putW_A, Wr.mk.injEq, true_and, and_true]; omega
    | C => simp only [kOf, putW_C, Wr.mk.injEq, true_and, and_true]; omega
    | K =>
      by_cases h0 : m = 0
      · subst h0; simp [putW]
      · simp only [kOf]
        rw [putW_K w (by omega : (m : Int) ≠ 0), putW_K _ (by decide : (1 : Int) ≠ 0), putW_K w (by omega : ((m + 1 : Nat) : Int) ≠ 0), flushW_nil, keepW_keepW]
        congr 2
  induction m with
  | zero => simp [foldW, putW]
  | succ m ih =>
    rw [show rep (m + 1) x = rep m x ++ [x] from List.replicate_succ', foldW_app, ih]
    exact one m
def doneW (us : List U) : List AxStep := flushW (foldW ⟨[], 0, 0⟩ us)
theorem good0 : GoodW ⟨[], 0, 0⟩ := ⟨trivial, fun t ht => (by cases ht), Int.le_refl _, Int.le_refl _⟩
end Go.Ch
end
section
set_option linter.unusedVariables false
set_option linter.unusedSimpArgs false
namespace Go.Ch
open Go Go.Ab

/-! ### The check -/
def chkX (l : List AxStep) (i : Nat) (b a : Int) : Int :=
  if i < l.length then
    if (l.getD i default).kind < 0 ∨ 2 < (l.getD i default).kind then 8
    else if (l.getD i default).n < 1 ∨ 2147483647 < (l.getD i default).n then 2
    else if 0 < i ∧ ((l.getD (i - 1) default).kind = (l.getD i default).kind ∨ ((l.getD (i - 1) default).kind = 2 ∧ (l.getD i default).kind = 1)) then 5
    else chkX l (i + 1) (if (l.getD i default).kind ≠ 1 then min (b + (l.getD i default).n) 2147483648 else b) (if (l.getD i default).kind ≠ 2 then min (a + (l.getD i default).n) 2147483648 else a)
  else if 2147483647 < b ∨ 2147483647 < a then 3 else 0
termination_by l.length - i
def checkX (l : List AxStep) : Int := chkX l 0 0 0
def FormAt (l : List AxStep) (i : Nat) : Prop := ∀ k, i ≤ k → k < l.length → Ok1 (l.getD k default) ∧ (0 < k → Nx (l.getD (k - 1) default) (l.getD k default))
theorem drop_ats {l : List AxStep} {i : Nat} (h : i < l.length) : l.drop i = l.getD i default :: l.drop (i + 1) := by
  rw [List.drop_eq_getElem_cons h]; simp [List.getD, List.getElem?_eq_getElem h]
theorem drop_ends {l : List AxStep} {i : Nat} (h : ¬ i < l.length) : l.drop i = [] := List.drop_eq_nil_of_le (by omega)
theorem old_K (n : Nat) (u : List U) : oldU (rep n .K ++ u) = n + oldU u := by
  induction n with
  | zero => simp
  | succ n ih => rw [rep_succ, List.cons_append, oldU, ih]; omega
theorem old_A (n : Nat) (u : List U) : oldU (rep n .A ++ u) = oldU u := by
  induction n with
  | zero => simp
  | succ n ih => rw [rep_succ, List.cons_append, oldU, ih]
theorem old_C (n : Nat) (u : List U) : oldU (rep n .C ++ u) = n + oldU u := by
  induction n with
  | zero => simp
  | succ n ih => rw [rep_succ, List.cons_append, oldU, ih]; omega
theorem new_K (n : Nat) (u : List U) : newU (rep n .K ++ u) = n + newU u := by
  induction n with
  | zero => simp
  | succ n ih => rw [rep_succ, List.cons_append, newU, ih]; omega
theorem new_A (n : Nat) (u : List U) : newU (rep n .A ++ u) = n + newU u := by
  induction n with
  | zero => simp
  | succ n ih => rw [rep_succ, List.cons_append, newU, ih]; omega
theorem new_C (n : Nat) (u : List U) : newU (rep n .C ++ u) = newU u := by
  induction n with
  | zero => simp
  | succ n ih => rw [rep_succ, List.cons_append, newU, ih]
theorem old_rep (n : Nat) (k : Int) (u : List U) : (oldU (rep n (uOf k) ++ u) : Int) = (if k = 1 then (0 : Int) else (n : Int)) + oldU u := by
  unfold uOf
  by_cases h1 : k = 1
  · rw [if_pos h1, if_pos h1, old_A]; omega
  · rw [if_neg h1, if_neg h1]
    by_cases h2 : k = 2
    · rw [if_pos h2, old_C]; omega
    · rw [if_neg h2, old_K]; omega
theorem new_rep (n : Nat) (k : Int) (u : List U) : (newU (rep n (uOf k) ++ u) : Int) = (if k = 2 then (0 : Int) else (n : Int)) + newU u := by
  unfold uOf
  by_cases h1 : k = 1
  · rw [if_pos h1, new_A, if_neg (by omega)]; omega
  · rw [if_neg h1]
    by_cases h2 : k = 2
    · rw [if_pos h2, if_pos h2, new_C]; omega
    · rw [if_neg h2, if_neg h2, new_K]; omega
theorem chkX_all (l : List AxStep) : ∀ (m i : Nat) (b a : Int), l.length - i = m → 0 ≤ b → 0 ≤ a → b ≤ 2147483648 → a ≤ 2147483648 →
    (chkX l i b a = 0 ↔ FormAt l i ∧ b + oldU (ex (l.drop i)) ≤ 2147483647 ∧ a + newU (ex (l.drop i)) ≤ 2147483647)
  | 0, i, b, a, h, hb, ha, hb2, ha2 => by
    rw [chkX, if_neg (by omega), drop_ends (by omega)]
    simp only [ex, oldU, newU]
    split
    · constructor
      · intro h; omega
      · rintro ⟨_, h1, h2⟩; omega
    · exact ⟨fun _ => ⟨fun k h1 h2 => by omega, by omega, by omega⟩, fun _ => rfl⟩
  | m + 1, i, b, a, h, hb, ha, hb2, ha2 => by
    have hi : i < l.length := by omega
    rw [chkX, if_pos hi]
    have step : FormAt l i ↔ (Ok1 (l.getD i default) ∧ (0 < i → Nx (l.getD (i - 1) default) (l.getD i default))) ∧ FormAt l (i + 1) := by
      constructor
      · exact fun h => ⟨h i (Nat.le_refl _) hi, fun k h1 h2 => h k (by omega) h2⟩
      · rintro ⟨h1, h2⟩ k h3 h4
        by_cases e : k = i
        · subst e; exact h1
        · exact h2 k (by omega) h4
    rw [step, drop_ats hi]
    simp only [ex]
    rw [old_rep, new_rep]
    have ih := fun b' a' => chkX_all l m (i + 1) b' a' (by omega)
    generalize l.getD i default = x at *
    generalize l.getD (i - 1) default = y at *
    unfold Ok1 Nx
    by_cases c1 : x.kind < 0 ∨ 2 < x.kind
    · rw [if_pos c1]; constructor
      · intro h; omega
      · rintro ⟨⟨⟨h, _⟩, _⟩, _⟩; omega
    rw [if_neg c1]
    have n0 : (oldU (ex (l.drop (i + 1))) : Int) ≥ 0 := Int.natCast_nonneg _
    have n1 : (newU (ex (l.drop (i + 1))) : Int) ≥ 0 := Int.natCast_nonneg _
    by_cases c2 : x.n < 1 ∨ 2147483647 < x.n
    · rw [if_pos c2]; constructor
      · intro h; omega
      · rintro ⟨⟨⟨h, _⟩, _⟩, h1, h2⟩
        exfalso
        by_cases k1 : x.kind = 1
        · rw [if_neg (by omega)] at h2; omega
        · rw [if_neg k1] at h1; omega
    rw [if_neg c2]
    have hn : (x.n.toNat : Int) = x.n := Int.toNat_of_nonneg (by omega)
    rw [hn]
    by_cases c3 : 0 < i ∧ (y.kind = x.kind ∨ (y.kind = 2 ∧ x.kind = 1))
    · rw [if_pos c3]; constructor
      · intro h; omega
      · rintro ⟨⟨⟨_, h⟩, _⟩, _⟩
        have := h c3.1
        rcases c3.2 with q | q
        · exact absurd q this.1
        · exact absurd q this.2
    rw [if_neg c3, ih _ _ (by split <;> omega) (by split <;> omega) (by split <;> omega) (by split <;> omega)]
    constructor
    · rintro ⟨f, h1, h2⟩
      refine ⟨⟨⟨⟨by omega, by omega, by omega⟩, fun h0 => ⟨fun e => c3 ⟨h0, .inl e⟩, fun e => c3 ⟨h0, .inr e⟩⟩⟩, f⟩, ?_, ?_⟩
      · by_cases k1 : x.kind = 1
        · rw [if_pos k1]; rw [if_neg (by omega)] at h1; omega
        · rw [if_neg k1]; rw [if_pos k1] at h1; omega
      · by_cases k1 : x.kind = 2
        · rw [if_pos k1]; rw [if_neg (by omega)] at h2; omega
        · rw [if_neg k1]; rw [if_pos k1] at h2; omega
    · rintro ⟨⟨_, f⟩, h1, h2⟩
      refine ⟨f, ?_, ?_⟩
      · by_cases k1 : x.kind = 1
        · rw [if_pos k1] at h1; rw [if_neg (by omega)]; omega
        · rw [if_neg k1] at h1; rw [if_pos k1]; omega
      · by_cases k1 : x.kind = 2
        · rw [if_pos k1] at h2; rw [if_neg (by omega)]; omega
        · rw [if_neg k1] at h2; rw [if_pos k1]; omega
theorem form_of_at : ∀ {l : List AxStep}, FormAt l 0 → Form l
  | [], _ => trivial
  | [s], h => (h 0 (Nat.le_refl _) (by simp)).1
  | s :: t :: l, h => by
    have h0 := h 0 (Nat.le_refl _) (by simp)
    have h1 := h 1 (by omega) (by simp)
    refine ⟨h0.1, h1.2 (by omega), form_of_at (l := t :: l) (fun k _ hk => ?_)⟩
    have := h (k + 1) (by omega) (by simp at hk ⊢; omega)
    refine ⟨by simpa using this.1, fun hk0 => ?_⟩
    obtain ⟨m, rfl⟩ : ∃ m, k = m + 1 := ⟨k - 1, by omega⟩
    simpa using this.2 (by omega)
theorem at_of_form : ∀ {l : List AxStep}, Form l → FormAt l 0
  | [], _ => fun k _ hk => by simp at hk
  | s :: l, h => by
    have ih := at_of_form h.tail
    intro k _ hk
    cases k with
    | zero => exact ⟨h.head, fun h => absurd h (by decide)⟩
    | succ k =>
      have := ih k (by omega) (by simpa using hk)
      refine ⟨by simpa using this.1, fun _ => ?_⟩
      cases k with
      | zero =>
        cases l with
        | nil => simp at hk
        | cons t l => exact h.2.1
      | succ k => simpa using this.2 (by omega)
def Valid (l : List AxStep) : Prop := Form l ∧ oldU (ex l) ≤ 2147483647 ∧ newU (ex l) ≤ 2147483647
theorem check_iff {l : List AxStep} : checkX l = 0 ↔ Valid l := by
  unfold checkX Valid
  rw [chkX_all l _ 0 0 0 rfl (by decide) (by decide) (by decide) (by decide), List.drop_zero]
  constructor
  · rintro ⟨a, b, c⟩; exact ⟨form_of_at a, by omega, by omega⟩
  · rintro ⟨a, b, c⟩; exact ⟨at_of_form a, by omega, by omega⟩
theorem ex_len (l : List AxStep) : (ex l).length ≤ oldU (ex l) + newU (ex l) := by
  generalize ex l = u
  induction u with
  | nil => simp
  | cons x u ih => cases x <;> simp only [oldU, newU, List.length_cons] <;> omega
/-! ### Readers -/
def ru (l : List AxStep) (u : Int) : List U := (ex l).drop u.toNat
structure GoodR (l : List AxStep) (u : Int) : Prop where
  form : Form l
  pos : 0 ≤ u
  nil : l.length = 0 → u = 0
  lt : 0 < l.length → u < (l.getD 0 default).n
theorem good_r {l : List AxStep} (h : Form l) : GoodR l 0 := ⟨h, Int.le_refl _, fun _ => rfl, fun h0 => by
  have := (at_of_form h) 0 (Nat.le_refl _) h0
  have := this.1.2.2
  omega⟩
theorem ru0 (l : List AxStep) : ru l 0 = ex l := rfl
theorem ru_nil {l : List AxStep} {u : Int} (h : l.length = 0) : ru l u = [] := by
  have : l = [] := List.length_eq_zero_iff.1 h
  subst this; simp [ru, ex]
theorem ru_cons {l : List AxStep} {u : Int} (h : GoodR l u) (h0 : 0 < l.length) :
    ru l u = rep ((l.getD 0 default).n - u).toNat (uOf (l.getD 0 default).kind) ++ ex (l.drop 1) := by
  have h1 := h.lt h0
  have h2 := h.pos
  cases l with
  | nil => simp at h0
  | cons s l =>
    simp only [List.getD_cons_zero] at h1 ⊢
    unfold ru
    rw [ex, List.drop_append_of_le_length (by simp; omega), List.drop_replicate]
    congr 2
    omega
theorem GoodR.ok {l : List AxStep} {u : Int} (h : GoodR l u) (h0 : 0 < l.length) : Ok1 (l.getD 0 default) := ((at_of_form h.form) 0 (Nat.le_refl _) h0).1
theorem GoodR.take {l : List AxStep} {u n : Int} (h : GoodR l u) (h0 : 0 < l.length) (hn : 0 ≤ n) (hl : n ≤ (l.getD 0 default).n - u) :
    (u + n = (l.getD 0 default).n → GoodR (l.drop 1) 0 ∧ rep n.toNat (uOf (l.getD 0 default).kind) ++ ru (l.drop 1) 0 = ru l u) ∧
    (u + n ≠ (l.getD 0 default).n → GoodR l (u + n) ∧ rep n.toNat (uOf (l.getD 0 default).kind) ++ ru l (u + n) = ru l u) := by
  have h1 := h.lt h0
  have h2 := h.pos
  constructor
  · intro e
    refine ⟨good_r ?_, ?_⟩
    · cases l with
      | nil => trivial
      | cons s l => exact h.form.tail
    · rw [ru_cons h h0, ru0]
      congr 2
      omega
  · intro e
    have g : GoodR l (u + n) := ⟨h.form, by omega, fun hh => by omega, fun _ => by omega⟩
    refine ⟨g, ?_⟩
    rw [ru_cons h h0, ru_cons g h0, ← List.append_assoc, ← rep_add]
    congr 2
    omega
/-! ### Run by run -/
theorem jc_C (n : Nat) (p q : List U) : joinU (rep n .C ++ p) q = rep n .C ++ joinU p q := by
  induction n with
  | zero => rfl
  | succ n ih => rw [rep_succ, List.cons_append, joinU, ih]; rfl
/-- Nothing, or not a cut first. -/
def NoC : List U → Prop
  | .C :: _ => False
  | _ => True
theorem jc_A (n : Nat) {p : List U} (hp : NoC p) (q : List U) : joinU p (rep n .A ++ q) = rep n .A ++ joinU p q := by
  induction n with
  | zero => rfl
  | succ n ih =>
    rw [rep_succ, List.cons_append, List.cons_append, ← ih]
    cases p with
    | nil => simp only [joinU]
    | cons x p => cases x with
      | C => exact hp.elim
      | K => simp only [joinU]
      | A => simp only [joinU]
theorem jc_K (n : Nat) (k : Int) (hk : k ≠ 1) (p q : List U) : joinU (rep n .K ++ p) (rep n (uOf k) ++ q) = rep n (uOf k) ++ joinU p q := by
  induction n with
  | zero => rfl
  | succ n ih =>
    rw [rep_succ, rep_succ, List.cons_append, List.cons_append, List.cons_append, ← ih]
    unfold uOf
    rw [if_neg hk]
    split <;> simp only [joinU]
theorem jc_AK (n : Nat) (p q : List U) : joinU (rep n .A ++ p) (rep n .K ++ q) = rep n .A ++ joinU p q := by
  induction n with
  | zero => rfl
  | succ n ih => rw [rep_succ, rep_succ, List.cons_append, List.cons_append, List.cons_append, ← ih]; simp only [joinU]
theorem jc_AC (n : Nat) (p q : List U) : joinU (rep n .A ++ p) (rep n .C ++ q) = joinU p q := by
  induction n with
  | zero => rfl
  | succ n ih => rw [rep_succ, rep_succ, List.cons_append, List.cons_append, joinU, ih]
theorem noC_ru {l : List AxStep} {u : Int} (h : GoodR l u) (hk : 0 < l.length → (l.getD 0 default).kind ≠ 2) : NoC (ru l u) := by
  by_cases h0 : 0 < l.length
  · have h1 := h.lt h0
    obtain ⟨m, hm⟩ : ∃ m, ((l.getD 0 default).n - u).toNat = m + 1 := ⟨((l.getD 0 default).n - u).toNat - 1, by omega⟩
    rw [ru_cons h h0, hm, rep_succ, List.cons_append]
    unfold uOf
    split
    · trivial
    · rw [if_neg (hk h0)]; trivial
  · rw [ru_nil (by omega)]; trivial
def NoA : List U → Prop
  | .A :: _ => False
  | _ => True
theorem pc_XX (n : Nat) (s t : Int) (hs : s ≠ 1) (ht : t ≠ 1) (p q : List U) : pairU (rep n (uOf s) ++ p) (rep n (uOf t) ++ q) =
    ((if t = 2 then [] else rep n (uOf s)) ++ (pairU p q).1, (if s = 2 then [] else rep n (uOf t)) ++ (pairU p q).2) := by
  induction n with
  | zero => simp
  | succ n ih =>
    rw [rep_succ, rep_succ, List.cons_append, List.cons_append]
    unfold uOf at *
    rw [if_neg hs, if_neg ht] at *
    by_cases h2 : s = 2 <;> by_cases h3 : t = 2 <;> simp only [h2, h3, if_true, if_false, pairU, rep_succ, List.cons_append, List.nil_append] at ih ⊢ <;> simp [ih]
theorem putI {w : Wr} {k n : Int} (hk : 0 ≤ k ∧ k ≤ 2) (hn : 0 ≤ n) : foldW w (rep n.toNat (uOf k)) = putW w k n := by
  rw [putW_rep, Int.toNat_of_nonneg hn]
  congr 1
  unfold uOf
  split
  · rename_i h; rw [h]; rfl
  · split
    · rename_i h; rw [h]; rfl
    · show (0 : Int) = k; omega
end Go.Ch
end
section
set_option linter.unusedVariables false
set_option linter.unusedSimpArgs false
set_option maxRecDepth 100000
set_option maxHeartbeats 4000000
open Go Go.Proofs Go.Ab
namespace Go.Ch
def intT (z : Int) : Tree := .sc (.int .i64 z)
def withinI (x lo hi : Int) : Int := lo + ((x.tmod (hi - lo + 1)) + (hi - lo + 1)).tmod (hi - lo + 1)
theorem tmod_bd (x : Int) {n : Int} (hn : 0 < n) : -n < x.tmod n ∧ x.tmod n < n := by
  have h1 := Int.tmod_lt_of_pos x hn
  have h2 : -n < x.tmod n := by
    rcases Int.le_total 0 x with h | h
    · have := Int.tmod_nonneg n h; omega
    · have h3 := Int.tmod_lt_of_pos (-x) hn
      rw [Int.neg_tmod] at h3; omega
  exact ⟨h2, h1⟩
theorem withinI_bd (x : Int) {lo hi : Int} (h : lo ≤ hi) : lo ≤ withinI x lo hi ∧ withinI x lo hi ≤ hi := by
  unfold withinI
  have h1 := tmod_bd x (n := hi - lo + 1) (by omega)
  have h2 := Int.tmod_nonneg (hi - lo + 1) (a := (x.tmod (hi - lo + 1)) + (hi - lo + 1)) (by omega)
  have h3 := Int.tmod_lt_of_pos ((x.tmod (hi - lo + 1)) + (hi - lo + 1)) (b := hi - lo + 1) (by omega)
  omega
def rollV (raw : List Int) (used n : Int) : Int := if raw.length = 0 then 0 else withinI (IntKind.i64.wrap (raw.getD ((used + 1 - 1) % (raw.length : Int)).toNat default + (used + 1) / (raw.length : Int))) 0 (n - 1)
def rollU (raw : List Int) (used : Int) : Int := if raw.length = 0 then used else used + 1
theorem rollV_bd (raw : List Int) (used : Int) {n : Int} (h : 1 ≤ n) : 0 ≤ rollV raw used n ∧ rollV raw used n < n := by
  unfold rollV
  split
  · omega
  · have := withinI_bd (IntKind.i64.wrap (raw.getD ((used + 1 - 1) % (raw.length : Int)).toNat default + (used + 1) / (raw.length : Int))) (lo := 0) (hi := n - 1) (by omega)
    omega
theorem idx_bd {u : Int} {l : List Int} (h : 0 < l.length) (hu : 0 ≤ u) : 0 ≤ u % (l.length : Int) ∧ u % (l.length : Int) < l.length := by
  exact ⟨Int.emod_nonneg _ (by omega), Int.emod_lt_of_pos _ (by omega)⟩

theorem fc_within (x lo hi : Int) (hl : -1000000000000 ≤ lo ∧ lo ≤ hi ∧ hi ≤ 1000000000000) : FC Try.prog 37 [VI x, VI lo, VI hi] (app emp []) (VI (withinI x lo hi)) (app emp []) := by
 refine .go Try.f37 ?_
 have e1 : ((withinI x lo hi) : Int) = (lo + (((x.tmod ((hi - lo) + 1)) + ((hi - lo) + 1)).tmod ((hi - lo) + 1))) := by
  rfl
 exact .finE [.r [], .r [(2, X (Xn (hi - lo))), (3, X (Xn ((hi - lo) + 1)))], .r [(3, X (Xc ((((hi - lo) + 1) : Int) ≠ 0))), (5, X (Xn ((x.tmod ((hi - lo) + 1)) + ((hi - lo) + 1))) (by have h1 := tmod_bd x (n := hi - lo + 1) (by omega); omega)), (7, X (Xc ((((hi - lo) + 1) : Int) ≠ 0))), (8, X (Xn (lo + (((x.tmod ((hi - lo) + 1)) + ((hi - lo) + 1)).tmod ((hi - lo) + 1)))) (by have h1 := withinI_bd x (lo := lo) (hi := hi) (by omega); unfold withinI at h1; omega))]] [] (fun z0 => (VI z0, [])) ((lo + (((x.tmod ((hi - lo) + 1)) + ((hi - lo) + 1)).tmod ((hi - lo) + 1))) : Int) ((withinI x lo hi) : Int) e1

theorem fc_roll (raw : List Int) (used n : Int) (hu : 0 ≤ used ∧ used ≤ 1000000000000) (hn : 1 ≤ n ∧ n ≤ 1000000000000) (hll : raw.length ≤ 9223372036854775807) : FC Try.prog 87 [.ptr 0 0, VI n] (app emp [(0, .box [VL 1 intT raw, VI used])]) (VI (rollV raw used n)) (app emp [(0, .box [VL 1 intT raw, VI (rollU raw used)])]) := by
 refine .go Try.f87 ?_
 refine .br [.r [], .r [(4, X (Xl intT raw))]] ((raw.length : Int) == 0) (fun h1 => ?_) (fun h1 => ?_)
 ·
  (try simp only [beq_iff_eq, beq_eq_false_iff_ne, ne_eq] at h1)
  have e1 : ((rollU raw used) : Int) = used := by
   unfold rollU; ((repeat' split) <;> first | rfl | omega | (simp_all; done) | (simp_all; omega))
  have e2 : ((rollV raw used n) : Int) = 0 := by
   unfold rollV; ((repeat' split) <;> first | rfl | omega | (simp_all; done) | (simp_all; omega))
  exact .finE [.r []] [(0, 0)] (fun (z0, z1) => (VI z1, [(0, .box [VL 1 intT raw, VI z0])])) ((used : Int), (0 : Int)) (((rollU raw used) : Int), ((rollV raw used n) : Int)) (pr e1 e2)
 ·
  (try simp only [beq_iff_eq, beq_eq_false_iff_ne, ne_eq] at h1)
  have hr := idx_bd (l := raw) (u := used + 1 - 1) (by omega) (by omega)
  have e3 : ((rollU raw used) : Int) = (used + 1) := by
   unfold rollU; ((repeat' split) <;> first | rfl | omega | (simp_all; done) | (simp_all; omega))
  have e4 : ((rollV raw used n) : Int) = (withinI (IntKind.i64.wrap ((raw.getD (Int.toNat (((used + 1) - 1) % (raw.length : Int))) default) + ((used + 1) / (raw.length : Int)))) 0 (n - 1)) := by
   unfold rollV; ((repeat' split) <;> first | rfl | omega | (simp_all; done) | (simp_all; omega))
  exact .finE [.r [(4, X (Xn (used + 1)))], .r [(8, X (Xn ((used + 1) - 1))), (13, X (Xl intT raw)), (14, X (Xrem ((used + 1) - 1) (raw.length : Int))), (15, X (Xi intT raw (((used + 1) - 1) % (raw.length : Int)))), (25, X (Xl intT raw)), (26, X (Xquo (used + 1) (raw.length : Int)) (by refine ⟨by omega, by omega, by omega⟩)), (29, X (Xn (n - 1))), (30, X (Xc0 (fc_within (IntKind.i64.wrap ((raw.getD (Int.toNat (((used + 1) - 1) % (raw.length : Int))) default) + ((used + 1) / (raw.length : Int)))) 0 (n - 1) (by omega)) X0))]] [(0, 0)] (fun (z0, z1) => (VI z1, [(0, .box [VL 1 intT raw, VI z0])])) (((used + 1) : Int), ((withinI (IntKind.i64.wrap ((raw.getD (Int.toNat (((used + 1) - 1) % (raw.length : Int))) default) + ((used + 1) / (raw.length : Int)))) 0 (n - 1)) : Int)) (((rollU raw used) : Int), ((rollV raw used n) : Int)) (pr e3 e4)

def segE (u : List Int) (i k : Nat) : Nat := if k < u.length ∧ (u.getD k default = 0 ↔ u.getD i default = 0) then segE u i (k + 1) else k
termination_by u.length - k
def cntX (u : List Int) (i k : Nat) (x : Int) : Nat := ((u.drop i).take (k - i)).countP (fun y => decide (y = x))
def o1 (k : Int) (n : Nat) : List AxStep := if 0 < n then [⟨k, (n : Int)⟩] else []
def o3 (a b c : Nat) : List AxStep := o1 0 a ++ (o1 1 b ++ o1 2 c)
theorem segE_ge (u : List Int) (i k : Nat) : k ≤ segE u i k := by
  induction k using segE.induct (u := u) (i := i) with
  | case1 k h ih => rw [segE, if_pos h]; omega
  | case2 k h => rw [segE, if_neg h]; omega
theorem segE_gt (u : List Int) (i : Nat) (h : i < u.length) : i < segE u i i := by
  rw [segE, if_pos ⟨h, Iff.rfl⟩]; exact segE_ge _ _ _
def stepsL (u : List Int) (i : Nat) (out : List AxStep) : List AxStep :=
  if h : i < u.length then stepsL u (segE u i i) (out ++ o3 (cntX u i (segE u i i) 0) (cntX u i (segE u i i) 1) (cntX u i (segE u i i) 2)) else out
termination_by u.length - i
decreasing_by have := segE_gt u i h; omega
end Go.Ch
end
section
set_option linter.unusedVariables false
set_option linter.unusedSimpArgs false
namespace Go.Ch
open Go Go.Ab

def onB : ByteArray := { data := #[111, 110] }
def boldB : ByteArray := { data := #[98, 111, 108, 100] }
def insE (tag : ByteArray) (i j : Nat) : Elem := ⟨65 + ((i : Int) + (j : Int)) % 26, 0, [⟨tag, { data := #[111, 110] }⟩]⟩
def insL (tag : ByteArray) (i k : Nat) : List Elem := (List.range k).map (insE tag i)
def setL (tag : ByteArray) (v : Int) : List Attr :=
  if v = 1 then [⟨{ data := #[98, 111, 108, 100] }, { data := #[111, 110] }⟩]
  else if v = 2 then [⟨{ data := #[98, 111, 108, 100] }, { data := #[] }⟩]
  else if v = 3 then [⟨{ data := #[98, 111, 108, 100] }, tag⟩, ⟨tag, { data := #[111, 110] }⟩] else []
def insK (raw : List Int) (used : Int) : Nat := (max 0 (rollV raw used 8 - 5)).toNat
def chgF (raw : List Int) (tag : ByteArray) (n : Nat) : Nat → Int → Act → Act
  | 0, used, x => ⟨x.ins ++ [insL tag n (insK raw used)], x.cut, x.set⟩
  | k + 1, used, x => chgF raw tag n k (rollU raw (rollU raw (rollU raw used)))
      ⟨x.ins ++ [insL tag (n - (k + 1)) (insK raw used)], x.cut ++ [rollV raw (rollU raw (rollU raw used)) 8 == 0], x.set ++ [setL tag (rollV raw (rollU raw used) 8)]⟩
def chgX (raw : List Int) (tag : ByteArray) (n : Nat) : Act := chgF raw tag n n 0 ⟨[], [], []⟩
def TagOk (tag : ByteArray) : Prop := (∀ v, VG true (setL tag v)) ∧ VG false [⟨tag, { data := #[111, 110] }⟩]
theorem rollU_le (raw : List Int) (used : Int) : used ≤ rollU raw used ∧ rollU raw used ≤ used + 1 := by unfold rollU; split <;> omega
structure ActOk (x : Act) : Prop where
  ins : ∀ e ∈ x.ins, e.length ≤ 2 ∧ ∀ y ∈ e, elemE y = 0 ∧ y.attrs.length ≤ 100
  set : ∀ c ∈ x.set, VG true c ∧ c.length ≤ 100
theorem insE_ok {tag : ByteArray} (h : TagOk tag) (i j : Nat) : elemE (insE tag i j) = 0 := by
  have h1 := Int.emod_nonneg ((i : Int) + (j : Int)) (b := 26) (by decide)
  have h2 := Int.emod_lt_of_pos ((i : Int) + (j : Int)) (b := 26) (by decide)
  refine (elemE_c ?_ (.inr ?_) (.inl rfl)).trans (chk_iff.2 h.2)
  · show ¬ (65 + ((i : Int) + (j : Int)) % 26 = 0 ↔ (0 : Int) = 0)
    intro q; have := q.2 rfl; omega
  · show CharP (65 + ((i : Int) + (j : Int)) % 26)
    unfold CharP; omega
theorem insL_ok {tag : ByteArray} (h : TagOk tag) (i : Nat) {k : Nat} (hk : k ≤ 2) : (insL tag i k).length ≤ 2 ∧ ∀ y ∈ insL tag i k, elemE y = 0 ∧ y.attrs.length ≤ 100 := by
  refine ⟨by simp [insL]; exact hk, fun y hy => ?_⟩
  obtain ⟨j, _, rfl⟩ := List.mem_map.1 hy
  exact ⟨insE_ok h i j, by simp [insE]⟩
theorem setL_len (tag : ByteArray) (v : Int) : (setL tag v).length ≤ 100 := by
  unfold setL; repeat' split
  all_goals simp
theorem insK_le (raw : List Int) (used : Int) : insK raw used ≤ 2 := by
  have := rollV_bd raw used (n := 8) (by decide)
  unfold insK; omega
theorem chgF_ok {raw : List Int} {tag : ByteArray} (h : TagOk tag) (n : Nat) : ∀ (k : Nat) (used : Int) (x : Act), k ≤ n → ActOk x → x.ins.length = n - k → x.cut.length = n - k → x.set.length = n - k →
    ActOk (chgF raw tag n k used x) ∧ (chgF raw tag n k used x).ins.length = n + 1 ∧ (chgF raw tag n k used x).cut.length = n ∧ (chgF raw tag n k used x).set.length = n
  | 0, used, x, hk, ho, h1, h2, h3 => by
    simp only [chgF]
    refine ⟨⟨fun e he => ?_, ho.set⟩, by simp [h1], by omega, by omega⟩
    rcases List.mem_append.1 he with he | he
    · exact ho.ins e he
    · rw [List.mem_singleton] at he; subst he; exact insL_ok h _ (insK_le raw used)
  | k + 1, used, x, hk, ho, h1, h2, h3 => by
    simp only [chgF]
    refine chgF_ok h n k _ _ (by omega) ⟨fun e he => ?_, fun c hc => ?_⟩ (by simp [h1]; omega) (by simp [h2]; omega) (by simp [h3]; omega)
    · rcases List.mem_append.1 he with he | he
      · exact ho.ins e he
      · rw [List.mem_singleton] at he; subst he; exact insL_ok h _ (insK_le raw used)
    · rcases List.mem_append.1 hc with hc | hc
      · exact ho.set c hc
      · rw [List.mem_singleton] at hc; subst hc; exact ⟨h.1 _, setL_len _ _⟩
theorem chgX_ok {raw : List Int} {tag : ByteArray} (h : TagOk tag) (n : Nat) : ActOk (chgX raw tag n) ∧ (chgX raw tag n).ins.length = n + 1 ∧ (chgX raw tag n).cut.length = n ∧ (chgX raw tag n).set.length = n :=
  chgF_ok h n n 0 _ (Nat.le_refl _) ⟨fun e he => (by cases he), fun c hc => (by cases hc)⟩ (by simp) (by simp) (by simp)
def UnitS : DU → Prop
  | .K c => VG true c ∧ c.length ≤ 100
  | .A e => elemE e = 0 ∧ e.attrs.length ≤ 100
  | .C => True
theorem UnitS.ok {u : DU} (h : UnitS u) : UnitOk u := by
  cases u with
  | K c => exact ⟨h.1, by have := h.2; omega⟩
  | A e => exact ⟨h.1, by have := h.2; omega⟩
  | C => trivial
theorem getD_mem' {α : Type} [Inhabited α] {l : List α} {k : Nat} (h : k < l.length) : l.getD k default ∈ l := by
  rw [show l.getD k default = l[k] by simp [List.getD, List.getElem?_eq_getElem h]]
  exact List.getElem_mem h
theorem actR_facts {x : Act} (h : ActOk x) {n : Nat} (h1 : x.ins.length = n + 1) (h2 : x.cut.length = n) (h3 : x.set.length = n) : ∀ (m i : Nat), n - i = m → i ≤ n →
    (∀ u ∈ actR x i, UnitS u) ∧ oldN (actR x i) = n - i ∧ newN (actR x i) ≤ 3 * (n - i) + 2
  | 0, i, hm, hi => by
    obtain ⟨q1, q2⟩ := h.ins _ (getD_mem' (l := x.ins) (k := i) (by omega))
    rw [actR, if_neg (by omega)]
    refine ⟨fun u hu => ?_, ?_, ?_⟩
    · obtain ⟨e, he, rfl⟩ := List.mem_map.1 hu; exact q2 e he
    · rw [(lens_As _).1]; omega
    · rw [(lens_As _).2]; omega
  | m + 1, i, hm, hi => by
    obtain ⟨q1, q2⟩ := h.ins _ (getD_mem' (l := x.ins) (k := i) (by omega))
    have q3 := h.set _ (getD_mem' (l := x.set) (k := i) (by omega))
    obtain ⟨r1, r2, r3⟩ := actR_facts h h1 h2 h3 m (i + 1) (by omega) (by omega)
    rw [actR, if_pos (by omega)]
    refine ⟨fun u hu => ?_, ?_, ?_⟩
    · rcases List.mem_append.1 hu with hu | hu
      · obtain ⟨e, he, rfl⟩ := List.mem_map.1 hu; exact q2 e he
      · rcases List.mem_cons.1 hu with rfl | hu
        · split
          · trivial
          · exact q3
        · exact r1 u hu
    · rw [oldN_app, (lens_As _).1]
      split <;> simp only [oldN] <;> omega
    · rw [newN_app, (lens_As _).2]
      split <;> simp only [newN] <;> omega
theorem dsw_mem {u v : List DU} (h : DSw u v) : ∀ x, x ∈ u ↔ x ∈ v := by
  induction h with
  | refl u => exact fun x => Iff.rfl
  | cons y _ ih => intro x; simp [ih x]
  | swap e u => intro x; simp only [List.mem_cons]; constructor <;> rintro (h | h | h) <;> simp [h]
  | symm _ ih => exact fun x => (ih x).symm
  | trans _ _ a b => exact fun x => (a x).trans (b x)
theorem exD_mem {l : List DStep} {s : DStep} (h : s ∈ l) {u : DU} (hu : u ∈ exS s) : u ∈ exD l := by
  induction l with
  | nil => cases h
  | cons t l ih =>
    simp only [exD, List.mem_append]
    rcases List.mem_cons.1 h with rfl | h
    · exact .inl hu
    · exact .inr (ih h)
theorem newD_mem : ∀ {l : List DStep}, (∀ s ∈ l, DOk s) → ∀ s ∈ l, nS s ≤ newD l
  | [], _, s, h => by cases h
  | t :: l, h, s, hs => by
    have h1 := oS_nn (h t (by simp))
    have h2 := sums_nn (l := l) (fun t ht => h t (by simp [ht]))
    simp only [newD]
    rcases List.mem_cons.1 hs with rfl | hs
    · omega
    · have := newD_mem (l := l) (fun t ht => h t (by simp [ht])) s hs; omega
theorem dn_of {l : List DStep} {us : List DU} (hv : DValid l) (hs : DSw (exD l) us) (hu : ∀ u ∈ us, UnitS u) : DN 100000000000 l := by
  intro s hs'
  have ho := hv.1.all s hs'
  have hn := newD_mem hv.1.all s hs'
  have v2 := hv.2.2
  have hm := fun u hu' => hu u ((dsw_mem hs u).1 (exD_mem hs' (u := u) hu'))
  unfold exS at hm
  unfold nS szD at hn
  rcases ho with ⟨k, n, a, e, q⟩ | ⟨k, a, b, n1, n2, v⟩
  · rw [if_neg (by omega), if_pos k] at hn
    rw [if_pos k] at hm
    refine ⟨by omega, by rw [a]; simp, fun x hx => ?_⟩
    have := (hm (.A x) (List.mem_map.2 ⟨x, hx, rfl⟩)).2
    omega
  · rw [if_neg (by omega)] at hm
    refine ⟨by rw [a]; simp, ?_, fun x hx => by rw [a] at hx; cases hx⟩
    by_cases k2 : s.kind = 2
    · rw [b k2]; simp
    · rw [if_neg k2] at hm
      have := (hm (.K s.attrs) (by rw [List.mem_replicate]; exact ⟨by omega, rfl⟩)).2
      omega
theorem change_ok {raw : List Int} {tag : ByteArray} (h : TagOk tag) {n : Nat} (hn : n ≤ 100000000) :
    (chgX raw tag n).ins.length = (chgX raw tag n).cut.length + 1 ∧ (chgX raw tag n).set.length = (chgX raw tag n).cut.length ∧ (∀ u ∈ actR (chgX raw tag n) 0, UnitOk u) ∧ (actR (chgX raw tag n) 0).length ≤ 8589934592 ∧
    DValid (doneD (actR (chgX raw tag n) 0)) ∧ oldD (doneD (actR (chgX raw tag n) 0)) = n ∧ DN 100000000000 (doneD (actR (chgX raw tag n) 0)) ∧ newD (doneD (actR (chgX raw tag n) 0)) ≤ 3 * n + 2 ∧
    DSw (exD (doneD (actR (chgX raw tag n) 0))) (actR (chgX raw tag n) 0) := by
  obtain ⟨a1, a2, a3, a4⟩ := chgX_ok (raw := raw) h n
  obtain ⟨f1, f2, f3⟩ := actR_facts a1 a2 a3 a4 n 0 (by omega) (by omega)
  have hl := len_sum (actR (chgX raw tag n) 0)
  have ho : ∀ u ∈ actR (chgX raw tag n) 0, UnitOk u := fun u hu => (f1 u hu).ok
  obtain ⟨d1, d2, d3, d4⟩ := doneD_ok ho (by omega) (by omega)
  exact ⟨by omega, by omega, ho, by omega, d1, by omega, dn_of d1 d2 f1, by omega, d2⟩
theorem tag_x : TagOk { data := #[120] } := by
  refine ⟨fun v => ?_, chk_iff.1 (by decide +kernel)⟩
  unfold setL
  split
  · exact chk_iff.1 (by decide +kernel)
  · split
    · exact chk_iff.1 (by decide +kernel)
    · split
      · exact chk_iff.1 (by decide +kernel)
      · exact vg_nil
end Go.Ch
end
section
set_option linter.unusedVariables false
set_option linter.unusedSimpArgs false
set_option maxRecDepth 100000
set_option maxHeartbeats 4000000
open Go Go.Proofs Go.Ab
namespace Go.Ch
def fitA (u : List Int) (v : Int) : List Int := u ++ List.replicate (max 0 (v - 3)).toNat 1
def fitL (raw : List Int) : Nat → Int → List Int → List Int × Int
  | 0, used, u => (u, used)
  | r + 1, used, u => fitL raw r (rollU raw (rollU raw used)) (fitA u (rollV raw used 6) ++ [if rollV raw (rollU raw used) 6 = 0 then 2 else 0])
def fitU (raw : List Int) (n : Nat) : List Int := fitA (fitL raw n 0 []).1 (rollV raw (fitL raw n 0 []).2 6)
def U3 (u : List Int) : Prop := ∀ x ∈ u, 0 ≤ x ∧ x ≤ 2
theorem U3.app {u v : List Int} (h : U3 u) (k : U3 v) : U3 (u ++ v) := fun x hx => by
  rcases List.mem_append.1 hx with hx | hx
  · exact h x hx
  · exact k x hx
theorem U3.one {x : Int} (h : 0 ≤ x ∧ x ≤ 2) : U3 [x] := fun y hy => by rw [List.mem_singleton] at hy; subst hy; exact h
end Go.Ch
end
