/- Parts of the proof: ChFlow, GridText, GridDoc, ChGrid, ChRepl, MapPlain, ReplPlay, ChPlay, TryzShelf, ReplSort0, SortKit, ReplSort, ReplOrd. -/
import Derived.Test.YtfhidobmbgmjfaaGreatDoorM1
import Derived.Test.YtfhidobmbgmjfaaGreatDoorM2
import Derived.Test.YtfhidobmbgmjfaaGreatDoorM3
import Derived.Test.YtfhidobmbgmjfaaGreatDoorM4
import Derived.Test.YtfhidobmbgmjfaaGreatDoorM5
import Derived.Shelf.Unicode.DecodeSlow
import Derived.Lib.TrimUEq
import Derived.Lib.QuoteLoop
import Derived.Lib.ValidLaws
import Derived.Lib.ValidAsc
import Derived.Shelf.LaysM
import Derived.Shelf.LaysC
import Derived.Shelf.Strconv.Itoa3
import Derived.Shelf.Strconv.AtoiAll
import Derived.Shelf.Unicode.DecodeAny
import Derived.Ground.Names2Prog
import Derived.Shelf.Slices.SearchI
import Derived.Ground.SlsfProg
import Derived.Shelf.SlGeneric
import Derived.Shelf.SlSortCmp.WholeK
import Derived.Test.YtfhidobmbgmjfaaGreatDoorProg
import Derived.Laws.Cover1
import Derived.WalkKit
import Derived.WalkMore
import Derived.Handy
import Derived.StillTailTactics
import Derived.Shelf.SlSortCmp.NoneTotal
section
set_option linter.unusedVariables false
set_option linter.unusedSimpArgs false
set_option maxRecDepth 100000
set_option maxHeartbeats 4000000
open Go Go.Proofs Go.Ab
namespace Go.Ch
theorem fc_char (c : Int) : FC Tryz.prog 128 [VI c] (app emp []) (VB (decide (CharP c))) (app emp []) := by
 refine .go Tryz.f128 ?_
 have e1 : ((decide (CharP c)) : Bool) = (((((c == 9) || (c == 10)) || (decide (c ≥ 32) && decide (c < 127))) || (decide (c ≥ 160) && decide (c < 55296))) || (decide (c > 57343) && decide (c ≤ 1114111))) := by
  rw [Bool.eq_iff_iff, decide_eq_true_iff]; unfold CharP; simp only [Bool.or_eq_true, Bool.and_eq_true, decide_eq_true_eq, beq_iff_eq]; constructor <;> intro hh <;> omega
 exact .finE [.r [], .r [(4, Xv 1 (!(c == 9)) X0), (5, X (Xk' (c == 9))), (8, Xv 1 (!((c == 9) || (c == 10))) X0), (9, Xv 1 (!((c == 9) || (c == 10))) X0), (11, Xv 1 ((!((c == 9) || (c == 10))) && (decide (c ≥ 32))) X0), (12, Xka (!((c == 9) || (c == 10))) (decide (c ≥ 32))), (13, X (Xk' ((c == 9) || (c == 10)))), (16, Xv 1 (!(((c == 9) || (c == 10)) || (decide (c ≥ 32) && decide (c < 127)))) X0), (17, Xv 1 (!(((c == 9) || (c == 10)) || (decide (c ≥ 32) && decide (c < 127)))) X0), (19, Xv 1 ((!(((c == 9) || (c == 10)) || (decide (c ≥ 32) && decide (c < 127)))) && (decide (c ≥ 160))) X0), (20, Xka (!(((c == 9) || (c == 10)) || (decide (c ≥ 32) && decide (c < 127)))) (decide (c ≥ 160))), (21, X (Xk' (((c == 9) || (c == 10)) || (decide (c ≥ 32) && decide (c < 127))))), (24, Xv 1 (!((((c == 9) || (c == 10)) || (decide (c ≥ 32) && decide (c < 127))) || (decide (c ≥ 160) && decide (c < 55296)))) X0), (25, Xv 1 (!((((c == 9) || (c == 10)) || (decide (c ≥ 32) && decide (c < 127))) || (decide (c ≥ 160) && decide (c < 55296)))) X0), (27, Xv 1 ((!((((c == 9) || (c == 10)) || (decide (c ≥ 32) && decide (c < 127))) || (decide (c ≥ 160) && decide (c < 55296)))) && (decide (c > 57343))) X0), (28, Xka (!((((c == 9) || (c == 10)) || (decide (c ≥ 32) && decide (c < 127))) || (decide (c ≥ 160) && decide (c < 55296)))) (decide (c > 57343))), (29, X (Xk' ((((c == 9) || (c == 10)) || (decide (c ≥ 32) && decide (c < 127))) || (decide (c ≥ 160) && decide (c < 55296)))))]] [] (fun z0 => (VB z0, [])) ((((((c == 9) || (c == 10)) || (decide (c ≥ 32) && decide (c < 127))) || (decide (c ≥ 160) && decide (c < 55296))) || (decide (c > 57343) && decide (c ≤ 1114111))) : Bool) ((decide (CharP c)) : Bool) e1

theorem fc_in (x a b : Int) : FC Tryz.prog 55 [VI x, VI a, VI b] (app emp []) (VB (decide (a ≤ x ∧ x ≤ b))) (app emp []) := by
 refine .go Tryz.f55 ?_
 have e1 : ((decide (a ≤ x ∧ x ≤ b)) : Bool) = (decide (x ≥ a) && decide (x ≤ b)) := by
  rw [Bool.eq_iff_iff]; simp; try omega
 exact .finE [.r [], .r [(6, Xv 2 (decide (x ≥ a)) X0), (7, X (Xk (decide (x ≥ a))))]] [] (fun z0 => (VB z0, [])) ((decide (x ≥ a) && decide (x ≤ b)) : Bool) ((decide (a ≤ x ∧ x ≤ b)) : Bool) e1

theorem fc_charR (c : Int) : FC Tryz.prog 54 [VI c] (app emp []) (VB (decide (CharP c))) (app emp []) := by
 refine .go Tryz.f54 ?_
 have e1 : ((decide (CharP c)) : Bool) = (((((c == 9) || (c == 10)) || (decide (32 ≤ c ∧ c ≤ 126))) || (decide (160 ≤ c ∧ c ≤ 55295))) || (decide (57344 ≤ c ∧ c ≤ 1114111))) := by
  rw [Bool.eq_iff_iff, decide_eq_true_iff]; unfold CharP; simp only [Bool.or_eq_true, Bool.and_eq_true, decide_eq_true_eq, beq_iff_eq]; constructor <;> intro hh <;> omega
 exact .finE [.r [], .r [(4, Xv 1 (!(c == 9)) X0), (5, X (Xk' (c == 9))), (8, Xv 1 (!((c == 9) || (c == 10))) (Xc0 (fc_in c 32 126) X0)), (9, X (Xk' ((c == 9) || (c == 10)))), (12, Xv 1 (!(((c == 9) || (c == 10)) || (decide (32 ≤ c ∧ c ≤ 126)))) (Xc0 (fc_in c 160 55295) X0)), (13, X (Xk' (((c == 9) || (c == 10)) || (decide (32 ≤ c ∧ c ≤ 126))))), (16, Xv 1 (!((((c == 9) || (c == 10)) || (decide (32 ≤ c ∧ c ≤ 126))) || (decide (160 ≤ c ∧ c ≤ 55295)))) (Xc0 (fc_in c 57344 1114111) X0)), (17, X (Xk' ((((c == 9) || (c == 10)) || (decide (32 ≤ c ∧ c ≤ 126))) || (decide (160 ≤ c ∧ c ≤ 55295)))))]] [] (fun z0 => (VB z0, [])) ((((((c == 9) || (c == 10)) || (decide (32 ≤ c ∧ c ≤ 126))) || (decide (160 ≤ c ∧ c ≤ 55295))) || (decide (57344 ≤ c ∧ c ≤ 1114111))) : Bool) ((decide (CharP c)) : Bool) e1

theorem nz_iff {a b : Int} : ((a != 0) = (b != 0)) ↔ (a = 0 ↔ b = 0) := by
  rw [Bool.eq_iff_iff]; simp; omega

theorem fc_elem (x : Elem) : FC Tryz.prog 92 [.t (elemT x)] (app emp []) (VI (elemE x)) (app emp []) := by
 refine .go Tryz.f92 ?_
 refine .br [.r [], .r []] ((x.char != 0) == (x.ref != 0)) (fun h1 => ?_) (fun h1 => ?_)
 ·
  (try simp only [beq_iff_eq, beq_eq_false_iff_ne, ne_eq, bne_iff_ne, bne_eq_false_iff_eq] at h1)
  have e1 : ((elemE x) : Int) = 4 := by
   first | exact elemE_4 (nz_iff.1 h1) | exact elemE_2 (fun h => h1 (nz_iff.2 h)) (.inl h3) | exact elemE_2 (fun h => h1 (nz_iff.2 h)) (.inr h4) | exact elemE_c (fun h => h1 (nz_iff.2 h)) h3 h4 | (exfalso; simp_all; done)
  exact .finE [.r []] [] (fun z0 => (VI z0, [])) (4 : Int) ((elemE x) : Int) e1
 ·
  (try simp only [beq_iff_eq, beq_eq_false_iff_ne, ne_eq, bne_iff_ne, bne_eq_false_iff_eq] at h1)
  refine .br [.r [(5, Xv 1 (x.ref == 0) X0), (6, Xv 1 (x.ref == 0) (Xc0 (fc_char x.char) X0)), (7, Xv 1 (x.ref == 0) X0), (8, X (Xk (x.ref == 0)))]] ((x.ref == 0) && !(decide (CharP x.char))) (fun h3 => ?_) (fun h3 => ?_)
  ·
   (try simp only [decide_eq_true_eq, decide_eq_false_iff_not, Int.not_lt, Int.not_le, Bool.not_eq_true', Bool.not_eq_false', Bool.and_eq_true, Bool.and_eq_false_iff, beq_iff_eq, beq_eq_false_iff_ne, ne_eq] at h3)
   refine .br [] ((x.ref == 0) && !(decide (CharP x.char))) (fun h3 => ?_) (fun h3 => ?_)
   ·
    (try simp only [decide_eq_true_eq, decide_eq_false_iff_not, Int.not_lt, Int.not_le, Bool.not_eq_true', Bool.not_eq_false', Bool.and_eq_true, Bool.and_eq_false_iff, beq_iff_eq, beq_eq_false_iff_ne, ne_eq] at h3)
    have e2 : ((elemE x) : Int) = 2 := by
     first | exact elemE_4 (nz_iff.1 h1) | exact elemE_2 (fun h => h1 (nz_iff.2 h)) (.inl h3) | exact elemE_2 (fun h => h1 (nz_iff.2 h)) (.inr h4) | exact elemE_c (fun h => h1 (nz_iff.2 h)) h3 h4 | (exfalso; simp_all; done)
    exact .finE [.r []] [] (fun z0 => (VI z0, [])) (2 : Int) ((elemE x) : Int) e2
   ·
    (try simp only [decide_eq_true_eq, decide_eq_false_iff_not, Int.not_lt, Int.not_le, Bool.not_eq_true', Bool.not_eq_false', Bool.and_eq_true, Bool.and_eq_false_iff, beq_iff_eq, beq_eq_false_iff_ne, ne_eq] at h3)
    have e3 : ((elemE x) : Int) = (chkA false x.attrs 0) := by
     first | exact elemE_4 (nz_iff.1 h1) | exact elemE_2 (fun h => h1 (nz_iff.2 h)) (.inl h3) | exact elemE_2 (fun h => h1 (nz_iff.2 h)) (.inr h4) | exact elemE_c (fun h => h1 (nz_iff.2 h)) h3 h4 | (exfalso; simp_all; done)
    exact .finE [.r [(2, X (Xc0 (fc_acheck x.attrs) X0))]] [] (fun z0 => (VI z0, [])) ((chkA false x.attrs 0) : Int) ((elemE x) : Int) e3
  ·
   (try simp only [decide_eq_true_eq, decide_eq_false_iff_not, Int.not_lt, Int.not_le, Bool.not_eq_true', Bool.not_eq_false', Bool.and_eq_true, Bool.and_eq_false_iff, beq_iff_eq, beq_eq_false_iff_ne, ne_eq] at h3)
   refine .br [.r [(5, Xv 1 (x.ref != 0) X0), (6, Xv 1 (x.ref != 0) X0), (7, Xv 1 (x.ref != 0) X0), (9, Xv 1 ((x.ref != 0) && !(decide (x.ref < 1))) X0), (10, Xv 1 ((x.ref != 0) && !(decide (x.ref < 1))) X0), (11, Xko (x.ref != 0) (decide (x.ref < 1))), (12, X (Xk (x.ref != 0)))]] ((x.ref != 0) && (decide (x.ref < 1) || decide (x.ref > 1073741824))) (fun h4 => ?_) (fun h4 => ?_)
   ·
    (try simp only [decide_eq_true_eq, decide_eq_false_iff_not, Int.not_lt, Int.not_le, gt_iff_lt, Bool.and_eq_true, Bool.and_eq_false_iff, Bool.not_eq_true', Bool.not_eq_false', Bool.or_eq_true, Bool.or_eq_false_iff, bne_iff_ne, bne_eq_false_iff_eq, ne_eq] at h4)
    have e4 : ((elemE x) : Int) = 2 := by
     first | exact elemE_4 (nz_iff.1 h1) | exact elemE_2 (fun h => h1 (nz_iff.2 h)) (.inl h3) | exact elemE_2 (fun h => h1 (nz_iff.2 h)) (.inr h4) | exact elemE_c (fun h => h1 (nz_iff.2 h)) h3 h4 | (exfalso; simp_all; done)
    exact .finE [.r []] [] (fun z0 => (VI z0, [])) (2 : Int) ((elemE x) : Int) e4
   ·
    (try simp only [decide_eq_true_eq, decide_eq_false_iff_not, Int.not_lt, Int.not_le, gt_iff_lt, Bool.and_eq_true, Bool.and_eq_false_iff, Bool.not_eq_true', Bool.not_eq_false', Bool.or_eq_true, Bool.or_eq_false_iff, bne_iff_ne, bne_eq_false_iff_eq, ne_eq] at h4)
    have e5 : ((elemE x) : Int) = (chkA false x.attrs 0) := by
     first | exact elemE_4 (nz_iff.1 h1) | exact elemE_2 (fun h => h1 (nz_iff.2 h)) (.inl h3) | exact elemE_2 (fun h => h1 (nz_iff.2 h)) (.inr h4) | exact elemE_c (fun h => h1 (nz_iff.2 h)) h3 h4 | (exfalso; simp_all; done)
    exact .finE [.r [(2, X (Xc0 (fc_acheck x.attrs) X0))]] [] (fun z0 => (VI z0, [])) ((chkA false x.attrs 0) : Int) ((elemE x) : Int) e5

theorem fc_elemError (x : Elem) (hz : Szd x.attrs) : FC Tryz.prog 19 [.t (elemT x)] (app emp []) (VI (elemE x)) (app emp []) := by
 refine .go Tryz.f19 ?_
 refine .br [.r [], .r [(5, Xv 1 (x.char == 0) X0), (6, Xv 1 (x.char == 0) X0), (7, X (Xk (x.char == 0))), (10, Xv 1 (!((x.char == 0) && (x.ref == 0))) X0), (11, Xv 1 (!((x.char == 0) && (x.ref == 0))) X0), (12, Xv 1 (!((x.char == 0) && (x.ref == 0))) X0), (14, Xv 1 ((!((x.char == 0) && (x.ref == 0))) && (x.char != 0)) X0), (15, Xv 1 ((!((x.char == 0) && (x.ref == 0))) && (x.char != 0)) X0), (16, Xka (!((x.char == 0) && (x.ref == 0))) (x.char != 0)), (17, X (Xk' ((x.char == 0) && (x.ref == 0))))]] (((x.char == 0) && (x.ref == 0)) || ((x.char != 0) && (x.ref != 0))) (fun h1 => ?_) (fun h1 => ?_)
 ·
  (try simp only [Bool.and_eq_true, Bool.and_eq_false_iff, Bool.not_eq_true', Bool.not_eq_false', Bool.or_eq_true, Bool.or_eq_false_iff, beq_iff_eq, beq_eq_false_iff_ne, ne_eq, bne_iff_ne, bne_eq_false_iff_eq] at h1)
  have e1 : ((elemE x) : Int) = 4 := by
   exact elemE_4 (by omega)
  exact .finE [.r []] [] (fun z0 => (VI z0, [])) (4 : Int) ((elemE x) : Int) e1
 ·
  (try simp only [Bool.and_eq_true, Bool.and_eq_false_iff, Bool.not_eq_true', Bool.not_eq_false', Bool.or_eq_true, Bool.or_eq_false_iff, beq_iff_eq, beq_eq_false_iff_ne, ne_eq, bne_iff_ne, bne_eq_false_iff_eq] at h1)
  refine .br [.r [(5, Xv 1 (x.char != 0) X0), (6, Xv 1 (x.char != 0) (Xc0 (fc_charR x.char) X0)), (7, Xv 1 (x.char != 0) X0), (8, X (Xk (x.char != 0))), (11, Xv 1 (!((x.char != 0) && !(decide (CharP x.char)))) X0), (12, Xv 1 (!((x.char != 0) && !(decide (CharP x.char)))) X0), (13, Xv 1 (!((x.char != 0) && !(decide (CharP x.char)))) X0), (15, Xv 1 ((!((x.char != 0) && !(decide (CharP x.char)))) && (x.ref != 0)) X0), (16, Xv 1 ((!((x.char != 0) && !(decide (CharP x.char)))) && (x.ref != 0)) (Xc0 (fc_in x.ref 1 1073741824) X0)), (17, Xv 1 ((!((x.char != 0) && !(decide (CharP x.char)))) && (x.ref != 0)) X0), (18, Xka (!((x.char != 0) && !(decide (CharP x.char)))) (x.ref != 0)), (19, X (Xk' ((x.char != 0) && !(decide (CharP x.char)))))]] (((x.char != 0) && !(decide (CharP x.char))) || ((x.ref != 0) && !(decide (1 ≤ x.ref ∧ x.ref ≤ 1073741824)))) (fun h3 => ?_) (fun h3 => ?_)
  ·
   (try simp only [decide_eq_true_eq, decide_eq_false_iff_not, Int.not_lt, Int.not_le, Bool.not_eq_true', Bool.not_eq_false', Bool.and_eq_true, Bool.and_eq_false_iff, Bool.or_eq_true, Bool.or_eq_false_iff, bne_iff_ne, bne_eq_false_iff_eq, ne_eq] at h3)
   have e2 : ((elemE x) : Int) = 2 := by
    refine elemE_2 (by omega) ?_
    rcases h3 with ⟨q, r⟩ | ⟨q, r⟩
    · exact .inl ⟨by omega, r⟩
    · exact .inr ⟨q, by omega⟩
   exact .finE [.r []] [] (fun z0 => (VI z0, [])) (2 : Int) ((elemE x) : Int) e2
  ·
   (try simp only [decide_eq_true_eq, decide_eq_false_iff_not, Int.not_lt, Int.not_le, Bool.not_eq_true', Bool.not_eq_false', Bool.and_eq_true, Bool.and_eq_false_iff, Bool.or_eq_true, Bool.or_eq_false_iff, bne_iff_ne, bne_eq_false_iff_eq, ne_eq] at h3)
   have e3 : ((elemE x) : Int) = (errA false x.attrs 0) := by
    rw [errA_eq false x.attrs _ 0 rfl]
    obtain ⟨h3a, h3b⟩ := h3
    exact elemE_c (by omega) (by rcases h3a with q | q; (left; omega); exact .inr q) (by rcases h3b with q | q; exact .inl q; exact .inr q)
   exact .finE [.r [(2, X (Xc0 (fc_attrsError x.attrs false (by assumption)) X0))]] [] (fun z0 => (VI z0, [])) ((errA false x.attrs 0) : Int) ((elemE x) : Int) e3
end Go.Ch
end
section
set_option linter.unusedVariables false
set_option linter.unusedSimpArgs false
namespace Go.Ch
open Go Go.Ab

def decR (u : ByteArray) : Int := ((Lib.decodeGo u).1 : Int)
def decW (u : ByteArray) : Nat := (Lib.decodeGo u).2
theorem decW_bd {u : ByteArray} (h : 0 < u.size) : 1 ≤ decW u ∧ decW u ≤ u.size := by
  unfold decW Lib.decodeGo
  rw [if_neg (by omega)]
  have hl : u.data.toList.length = u.size := by rw [Array.length_toList]; rfl
  rw [Lib.decode_N]
  have h1 := Lib.decodeN_ge1 (u.data.toList.length - 0) (u.data.toList.getD 0 0).toNat (u.data.toList.getD (0 + 1) 0).toNat (u.data.toList.getD (0 + 2) 0).toNat (u.data.toList.getD (0 + 3) 0).toNat
  have h2 := Lib.decodeN_width_le (u.data.toList.length - 0) (u.data.toList.getD 0 0).toNat (u.data.toList.getD (0 + 1) 0).toNat (u.data.toList.getD (0 + 2) 0).toNat (u.data.toList.getD (0 + 3) 0).toNat (by omega)
  omega
theorem decR_bd (u : ByteArray) : 0 ≤ decR u ∧ decR u ≤ 1114111 := by
  unfold decR Lib.decodeGo
  split
  · decide
  · have := Lib.rune_le u 0; omega
def badT (u : ByteArray) : Prop := (decR u = 65533 ∧ decW u = 1) ∨ decR u = 10 ∨ ¬ CharP (decR u)
instance (u : ByteArray) : Decidable (badT u) := by unfold badT CharP; infer_instance
/-- A string that can be the text of a cell. -/
def textG (u : ByteArray) : Bool := if h : 0 < u.size then (if badT u then false else textG (u.extract (decW u) u.size)) else true
termination_by u.size
decreasing_by
  have := decW_bd h
  rw [ByteArray.size_extract]
  omega
theorem textG_bad {u : ByteArray} (h : 0 < u.size) (hb : badT u) : textG u = false := by rw [textG, dif_pos h, if_pos hb]
theorem textG_go {u : ByteArray} (h : 0 < u.size) (hb : ¬ badT u) : textG u = textG (u.extract (decW u) u.size) := by
  conv => lhs; rw [textG]
  rw [dif_pos h, if_neg hb]
theorem textG_end {u : ByteArray} (h : ¬ 0 < u.size) : textG u = true := by rw [textG, dif_neg h]
theorem u_len (u : ByteArray) : u.data.toList.length = u.size := by rw [Array.length_toList]; rfl
theorem decL_eq {u : ByteArray} (h : 0 < u.size) : Lib.decodeL u.data.toList = Lib.decodeGo u := by
  unfold Lib.decodeL Lib.decodeGo
  rw [if_neg (by omega)]
theorem valid_at {u : ByteArray} (h : 0 < u.size) : Lib.validD u.data.toList = if decR u = 65533 ∧ decW u = 1 then false else Lib.validD (u.extract (decW u) u.size).data.toList := by
  have hne : u.data.toList ≠ [] := by
    intro e
    have := u_len u
    rw [e] at this
    simp at this; omega
  rw [Lib.validD_step _ hne, decL_eq h, Lib.ext_list]
  unfold decR decW
  have : ((Lib.decodeGo u).1 = 65533 ∧ (Lib.decodeGo u).2 = 1) ↔ (((Lib.decodeGo u).1 : Int) = 65533 ∧ (Lib.decodeGo u).2 = 1) := by omega
  simp only [this]
theorem text_valid : ∀ (n : Nat) (u : ByteArray), u.size = n → Lib.validD u.data.toList = false → textG u = false := by
  intro n
  induction n using Nat.strongRecOn with
  | ind n ih =>
    intro u hn hv
    by_cases h : 0 < u.size
    · rw [valid_at h] at hv
      split at hv
      · rename_i hb
        exact textG_bad h (.inl hb)
      · by_cases hb : badT u
        · exact textG_bad h hb
        · rw [textG_go h hb]
          have := decW_bd h
          exact ih (u.extract (decW u) u.size).size (by rw [ByteArray.size_extract]; omega) _ rfl hv
    · exfalso
      have : u.data.toList = [] := List.length_eq_zero_iff.1 (by rw [u_len]; omega)
      rw [this, Lib.validD_nil] at hv
      cases hv
/-- The rest of a string, from a place on. -/
def tailG (u : ByteArray) (p : Nat) : ByteArray := u.extract p u.size
theorem tailG_size (u : ByteArray) (p : Nat) (h : p ≤ u.size) : (tailG u p).size = u.size - p := by unfold tailG; rw [ByteArray.size_extract]; omega
theorem dec_tail {u : ByteArray} {p : Nat} (h : p < u.size) : Utf8.decode u p = Lib.decodeGo (tailG u p) := by
  have hx : (tailG u p).data.toList = u.data.toList.drop p := Lib.ext_list u p
  have hsz : (tailG u p).size ≠ 0 := by rw [tailG_size u p (by omega)]; omega
  unfold Lib.decodeGo
  rw [if_neg hsz, ← Lib.decodeL_drop u p, ← hx]
  rfl
theorem tail_tail (u : ByteArray) (p w : Nat) (h : p ≤ u.size) : (tailG u p).extract w (tailG u p).size = tailG u (p + w) := by
  unfold tailG
  apply ByteArray.ext
  simp only [ByteArray.data_extract, ByteArray.size_extract]
  rw [Array.extract_extract]
  congr 1 <;> omega
theorem tail0 (u : ByteArray) : tailG u 0 = u := by
  unfold tailG
  exact ByteArray.extract_zero_size
/-- What the loop over the characters keeps. -/
structure CtI (u : ByteArray) (p : Nat) : Prop where
  le : p ≤ u.size
  val : Lib.validD (tailG u p).data.toList = true
  eq : textG u = textG (tailG u p)
theorem CtI.start {u : ByteArray} (h : Lib.validD u.data.toList = true) : CtI u 0 := ⟨Nat.zero_le _, by rw [tail0]; exact h, by rw [tail0]⟩
theorem CtI.done {u : ByteArray} {p : Nat} (h : CtI u p) (hp : ¬ p < u.size) : textG u = true := by
  rw [h.eq]; exact textG_end (by rw [tailG_size u p h.le]; omega)
theorem CtI.next {u : ByteArray} {p : Nat} (h : CtI u p) (hp : p < u.size) : p < p + (Utf8.decode u p).2 ∧ p + (Utf8.decode u p).2 ≤ u.size ∧ 0 ≤ ((Utf8.decode u p).1 : Int) ∧ ((Utf8.decode u p).1 : Int) ≤ 1114111 ∧
    (((Utf8.decode u p).1 : Int) = 10 ∨ ¬ CharP ((Utf8.decode u p).1 : Int) → textG u = false) ∧ (¬ ((Utf8.decode u p).1 : Int) = 10 → CharP ((Utf8.decode u p).1 : Int) → CtI u (p + (Utf8.decode u p).2)) := by
  have hs := tailG_size u p h.le
  have h0 : 0 < (tailG u p).size := by omega
  rw [dec_tail hp]
  have hw := decW_bd h0
  have hr := decR_bd (tailG u p)
  have hv := h.val
  rw [valid_at h0] at hv
  split at hv
  · cases hv
  · rename_i hb
    have e1 : ((Lib.decodeGo (tailG u p)).1 : Int) = decR (tailG u p) := rfl
    have e2 : (Lib.decodeGo (tailG u p)).2 = decW (tailG u p) := rfl
    rw [e1, e2]
    refine ⟨by omega, by omega, hr.1, hr.2, fun q => ?_, fun q1 q2 => ?_⟩
    · rw [h.eq]; exact textG_bad h0 (.inr q)
    · have hn : ¬ badT (tailG u p) := fun q => by
        rcases q with q | q | q
        · exact hb q
        · exact q1 q
        · exact q q2
      refine ⟨by omega, ?_, ?_⟩
      · rw [← tail_tail u p _ h.le]; exact hv
      · rw [← tail_tail u p _ h.le, h.eq, textG_go h0 hn]
end Go.Ch
end
section
set_option linter.unusedVariables false
set_option linter.unusedSimpArgs false
namespace Go.Ch
open Go Go.Ab

structure Cell where
  row : Int
  col : Int
  text : ByteArray
  ref : Int
  attrs : List Attr
instance : Inhabited Cell := ⟨⟨0, 0, { data := #[] }, 0, []⟩⟩
structure Rect where
  row : Int
  col : Int
  h : Int
  w : Int
deriving DecidableEq
instance : Inhabited Rect := ⟨⟨0, 0, 0, 0⟩⟩
structure Grid where
  rows : Int
  cols : Int
  cells : List Cell
  merges : List Rect
instance : Inhabited Grid := ⟨⟨0, 0, [], []⟩⟩
def cellT (c : Cell) : Tree := .agg [TI c.row, TI c.col, TS c.text, TI c.ref, .lst 2 (c.attrs.map attrT)]
def rectT (r : Rect) : Tree := .agg [TI r.row, TI r.col, TI r.h, TI r.w]
def gridT (g : Grid) : Tree := .agg [TI g.rows, TI g.cols, .lst 5 (g.cells.map cellT), .lst 4 (g.merges.map rectT)]
def ordC (a b : Cell) : Int := orL [cmpI a.row b.row, cmpI a.col b.col]
def emptyC (c : Cell) : Bool := (seq c.text { data := #[] } && c.ref == 0) && (c.attrs.length : Int) == 0

def insB (r : Rect) (m n : Int) : Bool := decide (0 ≤ r.row ∧ 0 ≤ r.col ∧ 1 ≤ r.h ∧ 1 ≤ r.w ∧ r.row < m ∧ r.col < n ∧ r.h ≤ m - r.row ∧ r.w ≤ n - r.col)
def meetB (a b : Rect) : Bool := decide (a.row < b.row + b.h ∧ b.row < a.row + a.h ∧ a.col < b.col + b.w ∧ b.col < a.col + a.w)
/-- Numbers that do not overflow. -/
def RB (r : Rect) : Prop := -1000000000000 ≤ r.row ∧ r.row ≤ 1000000000000 ∧ -1000000000000 ≤ r.col ∧ r.col ≤ 1000000000000 ∧ -1000000000000 ≤ r.h ∧ r.h ≤ 1000000000000 ∧ -1000000000000 ≤ r.w ∧ r.w ≤ 1000000000000
def befB (a b : Rect) : Bool := decide (a.row < b.row ∨ (a.row = b.row ∧ a.col < b.col))
theorem getDX_mem {α : Type} [Inhabited α] {l : List α} {i : Nat} (h : i < l.length) : l.getD i default ∈ l := by
  rw [show l.getD i default = l[i] by simp [List.getD, List.getElem?_eq_getElem h]]; exact List.getElem_mem _
theorem drop_succD {α : Type} [Inhabited α] {l : List α} {i : Nat} (h : i < l.length) : l.drop i = l.getD i default :: l.drop (i + 1) := by
  rw [List.drop_eq_getElem_cons h]; simp [List.getD, List.getElem?_eq_getElem h]
theorem lies_eq {r : Rect} {m n : Int} (hm : 0 ≤ m) (hn : 0 ≤ n) : insB r m n = decide (((0 ≤ r.row ∧ r.row ≤ m - 1) ∧ (0 ≤ r.col ∧ r.col ≤ n - 1)) ∧ (1 ≤ r.h ∧ r.h ≤ m - r.row) ∧ (1 ≤ r.w ∧ r.w ≤ n - r.col)) := by
  unfold insB
  rw [Bool.eq_iff_iff]
  simp only [decide_eq_true_eq]
  omega
def shareB (a b : Rect) : Bool := decide (max a.row b.row < min (a.row + a.h) (b.row + b.h)) && decide (max a.col b.col < min (a.col + a.w) (b.col + b.w))
theorem share_eq {a b : Rect} (h1 : 1 ≤ a.h) (h2 : 1 ≤ a.w) (h3 : 1 ≤ b.h) (h4 : 1 ≤ b.w) : shareB a b = meetB a b := by
  unfold shareB meetB
  rw [Bool.eq_iff_iff]
  simp only [Bool.and_eq_true, decide_eq_true_eq]
  omega
theorem ordC_def (a b : Cell) : ordC a b = if a.row < b.row then -1 else if a.row > b.row then 1 else if a.col < b.col then -1 else if a.col > b.col then 1 else 0 := by
  unfold ordC
  simp only [orL]
  unfold cmpI
  by_cases h1 : a.row < b.row
  · rw [if_pos h1, if_pos (by decide), if_pos h1]
  · rw [if_neg h1, if_neg h1]
    by_cases h2 : a.row > b.row
    · rw [if_pos h2, if_pos (by decide), if_pos h2]
    · rw [if_neg h2, if_neg (by decide), if_neg h2]
      by_cases h3 : a.col < b.col
      · rw [if_pos h3, if_pos (by decide)]
      · rw [if_neg h3]
        by_cases h4 : a.col > b.col
        · rw [if_pos h4, if_pos (by decide)]
        · rw [if_neg h4, if_neg (by decide)]
theorem ordC_ge {a b : Cell} : 0 ≤ ordC a b ↔ b.row < a.row ∨ (b.row = a.row ∧ b.col ≤ a.col) := by
  rw [ordC_def]; repeat' split
  all_goals omega
def cellE (c : Cell) (m n : Int) (none : Bool) : Int :=
  if c.row < 0 ∨ m ≤ c.row ∨ c.col < 0 ∨ n ≤ c.col then 2
  else if c.ref < 0 ∨ 1073741824 < c.ref then 2
  else if textG c.text = false then 23
  else if ¬ chkA false c.attrs 0 = 0 then chkA false c.attrs 0
  else if emptyC c = true ∧ none = false then 4 else 0
def cellsE (l : List Cell) (m n : Int) (none : Bool) (i : Nat) : Int :=
  if i < l.length then
    (if ¬ cellE (l.getD i default) m n none = 0 then cellE (l.getD i default) m n none
     else if 0 < i ∧ 0 ≤ ordC (l.getD (i - 1) default) (l.getD i default) then 5 else cellsE l m n none (i + 1))
  else 0
termination_by l.length - i
/-- Strings and lists of a cell are of a size that there can be. -/
def SzC (l : List Cell) : Prop := ∀ c ∈ l, c.text.size ≤ 9223372036854775807 ∧ Szd c.attrs
theorem SzC.at_ {l : List Cell} (h : SzC l) {i : Nat} (hi : i < l.length) : (l.getD i default).text.size ≤ 9223372036854775807 ∧ Szd (l.getD i default).attrs := h _ (getDX_mem hi)
def anyM (l : List Rect) (r : Rect) : Bool := l.any (fun q => meetB q r)
def mergE (l : List Rect) (m n : Int) (i : Nat) : Int :=
  if i < l.length then
    (if insB (l.getD i default) m n = false then 2
     else if (l.getD i default).h = 1 ∧ (l.getD i default).w = 1 then 4
     else if 0 < i ∧ befB (l.getD (i - 1) default) (l.getD i default) = false then 5
     else if anyM (l.take i) (l.getD i default) = true then 21
     else mergE l m n (i + 1))
  else 0
termination_by l.length - i
def gridE (g : Grid) : Int :=
  if g.rows < 0 ∨ 2147483647 < g.rows ∨ g.cols < 0 ∨ 2147483647 < g.cols then 2
  else if ¬ cellsE g.cells g.rows g.cols false 0 = 0 then cellsE g.cells g.rows g.cols false 0
  else mergE g.merges g.rows g.cols 0
/-- The index of the first element with a property. -/
def idxF {α : Type} [Inhabited α] (p : α → Bool) (l : List α) (i : Nat) : Int := if i < l.length then (if p (l.getD i default) = true then (i : Int) else idxF p l (i + 1)) else -1
termination_by l.length - i
theorem idxF_ge {α : Type} [Inhabited α] (p : α → Bool) {l : List α} : ∀ (n i : Nat), l.length - i = n → (0 ≤ idxF p l i ↔ (l.drop i).any p = true)
  | 0, i, h => by rw [idxF, if_neg (by omega), List.drop_eq_nil_of_le (by omega)]; simp
  | n + 1, i, h => by
    have hi : i < l.length := by omega
    rw [idxF, if_pos hi, drop_succD hi, List.any_cons]
    by_cases hp : p (l.getD i default) = true
    · rw [if_pos hp, hp]; simp
    · rw [if_neg hp, idxF_ge p n (i + 1) (by omega)]
      simp only [Bool.not_eq_true] at hp
      rw [hp, Bool.false_or]
theorem idxF_any {α : Type} [Inhabited α] (p : α → Bool) (l : List α) : (0 ≤ idxF p l 0) = ((l.any p) = true) := propext (by rw [idxF_ge p _ 0 rfl, List.drop_zero])
def AllRB (l : List Rect) : Prop := ∀ q ∈ l, RB q
theorem insB_iff {r : Rect} {m n : Int} : insB r m n = true ↔ 0 ≤ r.row ∧ 0 ≤ r.col ∧ 1 ≤ r.h ∧ 1 ≤ r.w ∧ r.row < m ∧ r.col < n ∧ r.h ≤ m - r.row ∧ r.w ≤ n - r.col := by
  unfold insB; rw [decide_eq_true_eq]
theorem RB_ins {r : Rect} {m n : Int} (h : insB r m n = true) (hm : m ≤ 1000000000000) (hn : n ≤ 1000000000000) : RB r := by
  have := insB_iff.1 h
  unfold RB; omega
theorem bef_f {a b : Rect} : befB a b = false ↔ b.row < a.row ∨ (b.row = a.row ∧ b.col ≤ a.col) := by unfold befB; rw [decide_eq_false_iff_not]; omega
theorem meetB_iff {a b : Rect} : meetB a b = true ↔ a.row < b.row + b.h ∧ b.row < a.row + a.h ∧ a.col < b.col + b.w ∧ b.col < a.col + a.w := by unfold meetB; rw [decide_eq_true_eq]
theorem meetB_comm (a b : Rect) : meetB a b = meetB b a := by
  rw [Bool.eq_iff_iff, meetB_iff, meetB_iff]; omega
/-- All of the first rectangles lie within. -/
def InsTo (l : List Rect) (m n : Int) (i : Nat) : Prop := ∀ k, k < i → insB (l.getD k default) m n = true
theorem InsTo.all {l : List Rect} {m n : Int} {i : Nat} (h : InsTo l m n i) (hi : i ≤ l.length) (hm : m ≤ 1000000000000) (hn : n ≤ 1000000000000) : AllRB (l.take i) := fun q hq => by
  obtain ⟨k, hk, rfl⟩ := List.mem_iff_getElem.1 hq
  have h2 : k < i := by rw [List.length_take] at hk; omega
  have := RB_ins (h k h2) hm hn
  rw [List.getElem_take]
  rwa [List.getD_eq_getElem?_getD, List.getElem?_eq_getElem (by omega)] at this
theorem InsTo.succ {l : List Rect} {m n : Int} {i : Nat} (h : InsTo l m n i) (h2 : insB (l.getD i default) m n = true) : InsTo l m n (i + 1) := fun k hk => by
  by_cases e : k = i
  · rw [e]; exact h2
  · exact h k (by omega)
theorem anyM_take {l : List Rect} {r : Rect} {i : Nat} : anyM (l.take i) r = true ↔ ∃ k, k < i ∧ k < l.length ∧ meetB (l.getD k default) r = true := by
  unfold anyM
  rw [List.any_eq_true]
  constructor
  · rintro ⟨q, hq, hm⟩
    obtain ⟨k, hk, rfl⟩ := List.mem_iff_getElem.1 hq
    rw [List.length_take] at hk
    rw [List.getElem_take] at hm
    refine ⟨k, by omega, by omega, ?_⟩
    rwa [List.getD_eq_getElem?_getD, List.getElem?_eq_getElem (by omega)]
  · rintro ⟨k, h1, h2, hm⟩
    refine ⟨l.getD k default, ?_, hm⟩
    have : (l.take i).getD k default ∈ l.take i := getDX_mem (by rw [List.length_take]; omega)
    rwa [List.getD_eq_getElem?_getD, List.getElem?_take_of_lt h1, ← List.getD_eq_getElem?_getD] at this
end Go.Ch
end
section
set_option linter.unusedVariables false
set_option linter.unusedSimpArgs false
set_option maxRecDepth 100000
set_option maxHeartbeats 4000000
open Go Go.Proofs Go.Ab
namespace Go.Ch
theorem fc_isNaN (x : Int) : FC Tryz.prog 175 [VI x] (app emp []) (VB false) (app emp []) := by
 refine .go Tryz.f175 ?_
 have e1 : ((x != x) : Bool) = false := by
  simp
 exact .finE [.r [], .r []] [] (fun z0 => (VB z0, [])) ((x != x) : Bool) (false : Bool) e1.symm

theorem fc_cmpI (x y : Int) : FC Tryz.prog 150 [VI x, VI y] (app emp []) (VI (cmpI x y)) (app emp []) := by
 refine .go Tryz.f150 ?_
 refine .br [.r [], .r [(1, X (Xc0 (fc_isNaN x) X0))], .r [(1, X (Xc0 (fc_isNaN y) X0))], .r [], .f, .r [], .f, .r []] (decide (x < y)) (fun h9 => ?_) (fun h9 => ?_)
 ·
  (try simp only [decide_eq_true_eq, decide_eq_false_iff_not, Int.not_lt, Int.not_le] at h9)
  have e1 : ((cmpI x y) : Int) = -1 := by
   unfold cmpI; ((repeat' split) <;> first | rfl | omega | (simp_all; done) | (simp_all; omega))
  exact .finE [.r []] [] (fun z0 => (VI z0, [])) (-1 : Int) ((cmpI x y) : Int) e1
 ·
  (try simp only [decide_eq_true_eq, decide_eq_false_iff_not, Int.not_lt, Int.not_le] at h9)
  refine .br [.r []] (decide (x > y)) (fun h11 => ?_) (fun h11 => ?_)
  ·
   (try simp only [decide_eq_true_eq, decide_eq_false_iff_not, Int.not_lt, Int.not_le, gt_iff_lt] at h11)
   have e2 : ((cmpI x y) : Int) = 1 := by
    unfold cmpI; ((repeat' split) <;> first | rfl | omega | (simp_all; done) | (simp_all; omega))
   exact .finE [.r []] [] (fun z0 => (VI z0, [])) (1 : Int) ((cmpI x y) : Int) e2
  ·
   (try simp only [decide_eq_true_eq, decide_eq_false_iff_not, Int.not_lt, Int.not_le, gt_iff_lt] at h11)
   have e3 : ((cmpI x y) : Int) = 0 := by
    unfold cmpI; ((repeat' split) <;> first | rfl | omega | (simp_all; done) | (simp_all; omega))
   exact .finE [.r []] [] (fun z0 => (VI z0, [])) (0 : Int) ((cmpI x y) : Int) e3

theorem fc_or (l : List Int) : FC Tryz.prog 148 [VL 1 intT l] (app emp []) (VI (orL l)) (app emp []) := by
 refine .go Tryz.f148 ?_
 refine .len 0 (fun hl0 => ?_)
 refine .loop (α := Nat) [.r [], .r [], .r [(1, X (Xl intT l))]] 40 (fun i => ([(3, VI 0), (6, VL 1 intT l), (7, VI (l.length : Int)), (8, VI (i : Int))], [])) (fun i => i ≤ l.length ∧ orL l = orL (l.drop i)) (fun i => l.length - i) (0 : Nat) ?_ ?_
 ·
  exact ⟨by omega, rfl⟩
 rintro i I3 ih3
 try dsimp only at I3
 refine .br [.r []] (decide ((i : Int) < (l.length : Int))) (fun h3 => ?_) (fun h3 => ?_)
 ·
  (try simp only [decide_eq_true_eq, decide_eq_false_iff_not, Int.not_lt, Int.not_le] at h3)
  refine .br [.r [(0, X (Xi intT l (i : Int)))], .r []] ((l.getD i default) != 0) (fun h5 => ?_) (fun h5 => ?_)
  ·
   (try simp only [bne_iff_ne, bne_eq_false_iff_eq, ne_eq] at h5)
   have e1 : ((orL l) : Int) = (l.getD i default) := by
    rw [I3.2, orL_at (by omega), if_pos (by omega)]
   exact .finE [.r []] [] (fun z0 => (VI z0, [])) ((l.getD i default) : Int) ((orL l) : Int) e1
  ·
   (try simp only [bne_iff_ne, bne_eq_false_iff_eq, ne_eq] at h5)
   refine .back [.r [(0, X (Xn ((i : Int) + 1)))]] [] (ih3 ((i + 1) : Nat) ?_ ?_)
   ·
    refine ⟨by omega, ?_⟩
    rw [I3.2, orL_at (by omega), if_neg (by omega)]
   ·
    ((try dsimp only); omega)
 ·
  (try simp only [decide_eq_true_eq, decide_eq_false_iff_not, Int.not_lt, Int.not_le] at h3)
  have e2 : ((orL l) : Int) = 0 := by
   rw [I3.2, List.drop_eq_nil_of_le (by omega)]; rfl
  exact .finE [.r []] [] (fun z0 => (VI z0, [])) (0 : Int) ((orL l) : Int) e2

theorem fc_order (a b : Cell) : FC Tryz.prog 157 [.t (cellT a), .t (cellT b)] (app emp []) (VI (ordC a b)) (app emp []) := by
 refine .go Tryz.f157 ?_
 have e1 : ((ordC a b) : Int) = (orL [(cmpI a.row b.row), (cmpI a.col b.col)]) := by
  rfl
 exact .finE [.r [], .r [(4, X (Xc0 (fc_cmpI a.row b.row) X0)), (9, X (Xc0 (fc_cmpI a.col b.col) X0)), (11, X (Xc0 (fc_or [(cmpI a.row b.row), (cmpI a.col b.col)]) (rowC intT [(cmpI a.row b.row), (cmpI a.col b.col)] X0)))]] [] (fun z0 => (VI z0, [])) ((orL [(cmpI a.row b.row), (cmpI a.col b.col)]) : Int) ((ordC a b) : Int) e1

theorem fc_empty (c : Cell) : FC Tryz.prog 156 [.t (cellT c)] (app emp []) (VB (emptyC c)) (app emp []) := by
 refine .go Tryz.f156 ?_
 have e1 : ((emptyC c) : Bool) = ((seq c.text ({ data := #[] }) && (c.ref == 0)) && ((c.attrs.length : Int) == 0)) := by
  rfl
 exact .finE [.r [], .r [(5, Xv 1 (seq c.text ({ data := #[] })) X0), (6, Xv 1 (seq c.text ({ data := #[] })) X0), (7, X (Xk (seq c.text ({ data := #[] })))), (10, Xv 1 (seq c.text ({ data := #[] }) && (c.ref == 0)) X0), (11, Xv 1 (seq c.text ({ data := #[] }) && (c.ref == 0)) (Xl attrT c.attrs)), (12, Xv 1 (seq c.text ({ data := #[] }) && (c.ref == 0)) X0), (13, X (Xk (seq c.text ({ data := #[] }) && (c.ref == 0))))]] [] (fun z0 => (VB z0, [])) (((seq c.text ({ data := #[] }) && (c.ref == 0)) && ((c.attrs.length : Int) == 0)) : Bool) ((emptyC c) : Bool) e1

theorem fc_inside (r : Rect) (m n : Int) (hb : 0 ≤ m ∧ m ≤ 1000000000000 ∧ 0 ≤ n ∧ n ≤ 1000000000000) : FC Tryz.prog 121 [.t (rectT r), VI m, VI n] (app emp []) (VB (insB r m n)) (app emp []) := by
 refine .go Tryz.f121 ?_
 have e1 : ((insB r m n) : Bool) = (((((((decide (r.row ≥ 0) && decide (r.col ≥ 0)) && decide (r.h ≥ 1)) && decide (r.w ≥ 1)) && decide (r.row < m)) && decide (r.col < n)) && decide (r.h ≤ (m - r.row))) && decide (r.w ≤ (n - r.col))) := by
  unfold insB; rw [Bool.eq_iff_iff]; simp; try omega
 exact .finE [.r [], .r [(5, Xv 1 (decide (r.row ≥ 0)) X0), (6, Xv 1 (decide (r.row ≥ 0)) X0), (7, X (Xk (decide (r.row ≥ 0)))), (10, Xv 1 (decide (r.row ≥ 0) && decide (r.col ≥ 0)) X0), (11, Xv 1 (decide (r.row ≥ 0) && decide (r.col ≥ 0)) X0), (12, X (Xk (decide (r.row ≥ 0) && decide (r.col ≥ 0)))), (15, Xv 1 ((decide (r.row ≥ 0) && decide (r.col ≥ 0)) && decide (r.h ≥ 1)) X0), (16, Xv 1 ((decide (r.row ≥ 0) && decide (r.col ≥ 0)) && decide (r.h ≥ 1)) X0), (17, X (Xk ((decide (r.row ≥ 0) && decide (r.col ≥ 0)) && decide (r.h ≥ 1)))), (20, Xv 1 (((decide (r.row ≥ 0) && decide (r.col ≥ 0)) && decide (r.h ≥ 1)) && decide (r.w ≥ 1)) X0), (22, Xv 2 (((decide (r.row ≥ 0) && decide (r.col ≥ 0)) && decide (r.h ≥ 1)) && decide (r.w ≥ 1)) X0), (23, X (Xk (((decide (r.row ≥ 0) && decide (r.col ≥ 0)) && decide (r.h ≥ 1)) && decide (r.w ≥ 1)))), (26, Xv 1 ((((decide (r.row ≥ 0) && decide (r.col ≥ 0)) && decide (r.h ≥ 1)) && decide (r.w ≥ 1)) && decide (r.row < m)) X0), (28, Xv 2 ((((decide (r.row ≥ 0) && decide (r.col ≥ 0)) && decide (r.h ≥ 1)) && decide (r.w ≥ 1)) && decide (r.row < m)) X0), (29, X (Xk ((((decide (r.row ≥ 0) && decide (r.col ≥ 0)) && decide (r.h ≥ 1)) && decide (r.w ≥ 1)) && decide (r.row < m)))), (32, Xv 1 (((((decide (r.row ≥ 0) && decide (r.col ≥ 0)) && decide (r.h ≥ 1)) && decide (r.w ≥ 1)) && decide (r.row < m)) && decide (r.col < n)) X0), (35, Xv 1 (((((decide (r.row ≥ 0) && decide (r.col ≥ 0)) && decide (r.h ≥ 1)) && decide (r.w ≥ 1)) && decide (r.row < m)) && decide (r.col < n)) X0), (36, Xv 2 (((((decide (r.row ≥ 0) && decide (r.col ≥ 0)) && decide (r.h ≥ 1)) && decide (r.w ≥ 1)) && decide (r.row < m)) && decide (r.col < n)) (Xn (m - r.row))), (37, Xv 2 (((((decide (r.row ≥ 0) && decide (r.col ≥ 0)) && decide (r.h ≥ 1)) && decide (r.w ≥ 1)) && decide (r.row < m)) && decide (r.col < n)) X0), (38, X (Xk (((((decide (r.row ≥ 0) && decide (r.col ≥ 0)) && decide (r.h ≥ 1)) && decide (r.w ≥ 1)) && decide (r.row < m)) && decide (r.col < n)))), (41, Xv 1 ((((((decide (r.row ≥ 0) && decide (r.col ≥ 0)) && decide (r.h ≥ 1)) && decide (r.w ≥ 1)) && decide (r.row < m)) && decide (r.col < n)) && decide (r.h ≤ (m - r.row))) X0), (44, Xv 1 ((((((decide (r.row ≥ 0) && decide (r.col ≥ 0)) && decide (r.h ≥ 1)) && decide (r.w ≥ 1)) && decide (r.row < m)) && decide (r.col < n)) && decide (r.h ≤ (m - r.row))) X0), (45, Xv 2 ((((((decide (r.row ≥ 0) && decide (r.col ≥ 0)) && decide (r.h ≥ 1)) && decide (r.w ≥ 1)) && decide (r.row < m)) && decide (r.col < n)) && decide (r.h ≤ (m - r.row))) (Xn (n - r.col))), (46, Xv 2 ((((((decide (r.row ≥ 0) && decide (r.col ≥ 0)) && decide (r.h ≥ 1)) && decide (r.w ≥ 1)) && decide (r.row < m)) && decide (r.col < n)) && decide (r.h ≤ (m - r.row))) X0), (47, X (Xk ((((((decide (r.row ≥ 0) && decide (r.col ≥ 0)) && decide (r.h ≥ 1)) && decide (r.w ≥ 1)) && decide (r.row < m)) && decide (r.col < n)) && decide (r.h ≤ (m - r.row)))))]] [] (fun z0 => (VB z0, [])) ((((((((decide (r.row ≥ 0) && decide (r.col ≥ 0)) && decide (r.h ≥ 1)) && decide (r.w ≥ 1)) && decide (r.row < m)) && decide (r.col < n)) && decide (r.h ≤ (m - r.row))) && decide (r.w ≤ (n - r.col))) : Bool) ((insB r m n) : Bool) e1

theorem fc_meets (a b : Rect) (ha : RB a) (hb : RB b) : FC Tryz.prog 125 [.t (rectT a), .t (rectT b)] (app emp []) (VB (meetB a b)) (app emp []) := by
 refine .go Tryz.f125 ?_
 unfold RB at ha hb
 have e1 : ((meetB a b) : Bool) = (((decide (a.row < (b.row + b.h)) && decide (b.row < (a.row + a.h))) && decide (a.col < (b.col + b.w))) && decide (b.col < (a.col + a.w))) := by
  unfold meetB; rw [Bool.eq_iff_iff]; simp; try omega
 exact .finE [.r [], .r [(6, X (Xn (b.row + b.h))), (10, Xv 1 (decide (a.row < (b.row + b.h))) X0), (12, Xv 1 (decide (a.row < (b.row + b.h))) X0), (14, Xv 1 (decide (a.row < (b.row + b.h))) X0), (15, Xv 2 (decide (a.row < (b.row + b.h))) (Xn (a.row + a.h))), (16, Xv 2 (decide (a.row < (b.row + b.h))) X0), (17, X (Xk (decide (a.row < (b.row + b.h))))), (20, Xv 1 (decide (a.row < (b.row + b.h)) && decide (b.row < (a.row + a.h))) X0), (22, Xv 1 (decide (a.row < (b.row + b.h)) && decide (b.row < (a.row + a.h))) X0), (24, Xv 1 (decide (a.row < (b.row + b.h)) && decide (b.row < (a.row + a.h))) X0), (25, Xv 2 (decide (a.row < (b.row + b.h)) && decide (b.row < (a.row + a.h))) (Xn (b.col + b.w))), (26, Xv 2 (decide (a.row < (b.row + b.h)) && decide (b.row < (a.row + a.h))) X0), (27, X (Xk (decide (a.row < (b.row + b.h)) && decide (b.row < (a.row + a.h))))), (30, Xv 1 ((decide (a.row < (b.row + b.h)) && decide (b.row < (a.row + a.h))) && decide (a.col < (b.col + b.w))) X0), (32, Xv 1 ((decide (a.row < (b.row + b.h)) && decide (b.row < (a.row + a.h))) && decide (a.col < (b.col + b.w))) X0), (34, Xv 1 ((decide (a.row < (b.row + b.h)) && decide (b.row < (a.row + a.h))) && decide (a.col < (b.col + b.w))) X0), (35, Xv 2 ((decide (a.row < (b.row + b.h)) && decide (b.row < (a.row + a.h))) && decide (a.col < (b.col + b.w))) (Xn (a.col + a.w))), (36, Xv 2 ((decide (a.row < (b.row + b.h)) && decide (b.row < (a.row + a.h))) && decide (a.col < (b.col + b.w))) X0), (37, X (Xk ((decide (a.row < (b.row + b.h)) && decide (b.row < (a.row + a.h))) && decide (a.col < (b.col + b.w)))))]] [] (fun z0 => (VB z0, [])) ((((decide (a.row < (b.row + b.h)) && decide (b.row < (a.row + a.h))) && decide (a.col < (b.col + b.w))) && decide (b.col < (a.col + a.w))) : Bool) ((meetB a b) : Bool) e1

theorem fc_before (a b : Rect) : FC Tryz.prog 122 [.t (rectT a), .t (rectT b)] (app emp []) (VB (befB a b)) (app emp []) := by
 refine .go Tryz.f122 ?_
 have e1 : ((befB a b) : Bool) = (decide (a.row < b.row) || ((a.row == b.row) && decide (a.col < b.col))) := by
  unfold befB; rw [Bool.eq_iff_iff]; simp; try omega
 exact .finE [.r [], .r [(7, Xv 1 (!(decide (a.row < b.row))) X0), (9, Xv 1 (!(decide (a.row < b.row))) X0), (10, Xv 2 (!(decide (a.row < b.row))) X0), (11, Xv 1 (!(decide (a.row < b.row))) X0), (13, Xv 1 ((!(decide (a.row < b.row))) && (a.row == b.row)) X0), (15, Xv 1 ((!(decide (a.row < b.row))) && (a.row == b.row)) X0), (16, Xv 2 ((!(decide (a.row < b.row))) && (a.row == b.row)) X0), (17, Xka (!(decide (a.row < b.row))) (a.row == b.row)), (18, X (Xk' (decide (a.row < b.row))))]] [] (fun z0 => (VB z0, [])) ((decide (a.row < b.row) || ((a.row == b.row) && decide (a.col < b.col))) : Bool) ((befB a b) : Bool) e1

theorem fc_emptyR (c : Cell) : FC Tryz.prog 143 [.t (cellT c)] (app emp []) (VB (emptyC c)) (app emp []) := by
 refine .go Tryz.f143 ?_
 have e1 : ((emptyC c) : Bool) = ((seq c.text ({ data := #[] }) && (c.ref == 0)) && ((c.attrs.length : Int) == 0)) := by
  rfl
 exact .finE [.r [], .r [(5, Xv 1 (seq c.text ({ data := #[] })) X0), (6, Xv 1 (seq c.text ({ data := #[] })) X0), (7, X (Xk (seq c.text ({ data := #[] })))), (10, Xv 1 (seq c.text ({ data := #[] }) && (c.ref == 0)) X0), (11, Xv 1 (seq c.text ({ data := #[] }) && (c.ref == 0)) (Xl attrT c.attrs)), (12, Xv 1 (seq c.text ({ data := #[] }) && (c.ref == 0)) X0), (13, X (Xk (seq c.text ({ data := #[] }) && (c.ref == 0))))]] [] (fun z0 => (VB z0, [])) (((seq c.text ({ data := #[] }) && (c.ref == 0)) && ((c.attrs.length : Int) == 0)) : Bool) ((emptyC c) : Bool) e1
end Go.Ch
end
section
set_option linter.unusedVariables false
set_option linter.unusedSimpArgs false
set_option maxRecDepth 100000
set_option maxHeartbeats 4000000
open Go Go.Proofs Go.Ab
namespace Go.Ch
theorem fc_place (s : ByteArray) : FC Tryz.prog 159 [VS s] (app emp []) (VB (placeB s)) (app emp []) := by
 refine .go Tryz.f159 ?_
 refine .br [.r [], .r [(4, Xv 1 (!(seq s ({ data := #[] }))) X0), (5, Xv 1 (!(seq s ({ data := #[] }))) X0), (6, X (Xk' (seq s ({ data := #[] })))), (10, Xv 1 (!(seq s ({ data := #[] }) || decide ((s.size : Int) > 200))) X0), (11, Xv 1 (!(seq s ({ data := #[] }) || decide ((s.size : Int) > 200))) (Xn ((s.size : Int) - 1)) (fun hg => by (try simp only [decide_eq_true_eq, decide_eq_false_iff_not, Int.not_lt, Int.not_le, gt_iff_lt, Bool.not_eq_true', Bool.not_eq_false', Bool.or_eq_true, Bool.or_eq_false_iff] at hg); exact (by have := str_pos hg.1; omega))), (12, Xv 2 (!(seq s ({ data := #[] }) || decide ((s.size : Int) > 200))) (Xb s ((s.size : Int) - 1)) (fun hg => by (try simp only [decide_eq_true_eq, decide_eq_false_iff_not, Int.not_lt, Int.not_le, gt_iff_lt, Bool.not_eq_true', Bool.not_eq_false', Bool.or_eq_true, Bool.or_eq_false_iff] at hg); exact ⟨(by have := str_pos hg.1; omega), (by omega)⟩)), (13, Xv 1 (!(seq s ({ data := #[] }) || decide ((s.size : Int) > 200))) X0), (14, X (Xk' (seq s ({ data := #[] }) || decide ((s.size : Int) > 200))))]] ((seq s ({ data := #[] }) || decide ((s.size : Int) > 200)) || (((((s[(Int.toNat ((s.size : Int) - 1))]?).getD 0).toNat : Nat) : Int) == 97)) (fun h1 => ?_) (fun h1 => ?_)
 ·
  (try simp only [decide_eq_true_eq, decide_eq_false_iff_not, Int.not_lt, Int.not_le, gt_iff_lt, Bool.or_eq_true, Bool.or_eq_false_iff, beq_iff_eq, beq_eq_false_iff_ne, ne_eq] at h1)
  have e1 : ((placeB s) : Bool) = false := by
   have hs : ((s.size : Int) - 1).toNat = s.size - 1 := by omega
   rw [hs] at h1; simp only [byt0, seq_mt, decide_eq_true_eq] at h1; unfold placeB; rw [decide_eq_false (fun q => by omega)]; rfl
  exact .finE [.r []] [] (fun z0 => (VB z0, [])) (false : Bool) ((placeB s) : Bool) e1
 ·
  (try simp only [decide_eq_true_eq, decide_eq_false_iff_not, Int.not_lt, Int.not_le, gt_iff_lt, Bool.or_eq_true, Bool.or_eq_false_iff, beq_iff_eq, beq_eq_false_iff_ne, ne_eq] at h1)
  refine .loop (α := Nat) [.r []] 152 (fun i => ([(0, VS s), (20, VI (s.size : Int)), (21, VI (i : Int))], [])) (fun i => i ≤ s.size ∧ plS s 0 = plS s i) (fun i => s.size - i) (0 : Nat) ?_ ?_
  ·
   exact ⟨by omega, rfl⟩
  rintro i I4 ih4
  try dsimp only at I4
  refine .br [.r []] (decide ((i : Int) < (s.size : Int))) (fun h4 => ?_) (fun h4 => ?_)
  ·
   (try simp only [decide_eq_true_eq, decide_eq_false_iff_not, Int.not_lt, Int.not_le] at h4)
   refine .br [.r [], .r [(2, X (Xb s (i : Int))), (7, Xv 2 (!(decide (((((s[i]?).getD 0).toNat : Nat) : Int) < 97))) (Xb s (i : Int))), (8, Xv 1 (!(decide (((((s[i]?).getD 0).toNat : Nat) : Int) < 97))) X0), (9, X (Xk' (decide (((((s[i]?).getD 0).toNat : Nat) : Int) < 97))))]] (decide (((((s[i]?).getD 0).toNat : Nat) : Int) < 97) || decide (((((s[i]?).getD 0).toNat : Nat) : Int) > 122)) (fun h6 => ?_) (fun h6 => ?_)
   ·
    (try simp only [decide_eq_true_eq, decide_eq_false_iff_not, Int.not_lt, Int.not_le, gt_iff_lt, Bool.or_eq_true, Bool.or_eq_false_iff] at h6)
    have e2 : ((placeB s) : Bool) = false := by
     simp only [byt0] at h6; unfold placeB; rw [I4.2, plS, if_pos (by omega), if_pos (by omega)]; simp
    exact .finE [.r []] [] (fun z0 => (VB z0, [])) (false : Bool) ((placeB s) : Bool) e2
   ·
    (try simp only [decide_eq_true_eq, decide_eq_false_iff_not, Int.not_lt, Int.not_le, gt_iff_lt, Bool.or_eq_true, Bool.or_eq_false_iff] at h6)
    refine .back [.r [(0, X (Xn ((i : Int) + 1)))]] [] (ih4 ((i + 1) : Nat) ?_ ?_)
    ·
     simp only [byt0] at h6; refine ⟨by omega, ?_⟩; rw [I4.2, plS, if_pos (by omega), if_neg (by omega)]
    ·
     ((try dsimp only); omega)
  ·
   (try simp only [decide_eq_true_eq, decide_eq_false_iff_not, Int.not_lt, Int.not_le] at h4)
   have e3 : ((placeB s) : Bool) = true := by
    have hs : ((s.size : Int) - 1).toNat = s.size - 1 := by omega
    rw [hs] at h1; simp only [byt0, seq_mt, decide_eq_false_iff_not] at h1; unfold placeB; rw [I4.2, plS, if_neg (by omega), decide_eq_true (by omega)]; rfl
   exact .finE [.r []] [] (fun z0 => (VB z0, [])) (true : Bool) ((placeB s) : Bool) e3

theorem fc_stamps (a b : DOp) : FC Tryz.prog 127 [.t (dopT a), .t (dopT b)] (app emp []) (VI (stampC a b)) (app emp []) := by
 refine .go Tryz.f127 ?_
 have e1 : ((stampC a b) : Int) = (orL [(cmpI a.clock b.clock), (cmpI a.site b.site)]) := by
  rfl
 exact .finE [.r [], .r [(4, X (Xc0 (fc_cmpI a.clock b.clock) X0)), (9, X (Xc0 (fc_cmpI a.site b.site) X0)), (11, X (Xc0 (fc_or [(cmpI a.clock b.clock), (cmpI a.site b.site)]) (rowC intT [(cmpI a.clock b.clock), (cmpI a.site b.site)] X0)))]] [] (fun z0 => (VI z0, [])) ((orL [(cmpI a.clock b.clock), (cmpI a.site b.site)]) : Int) ((stampC a b) : Int) e1

theorem fc_op (o : DOp) : FC Tryz.prog 126 [.t (dopT o)] (app emp []) (VI (opE o)) (app emp []) := by
 refine .go Tryz.f126 ?_
 refine .br [.r [], .r [(5, Xv 1 (o.kind != 0) X0), (6, Xv 1 (o.kind != 0) X0), (7, X (Xk (o.kind != 0)))]] ((o.kind != 0) && (o.kind != 1)) (fun h1 => ?_) (fun h1 => ?_)
 ·
  (try simp only [Bool.and_eq_true, Bool.and_eq_false_iff, Bool.not_eq_true', Bool.not_eq_false', bne_iff_ne, bne_eq_false_iff_eq, ne_eq] at h1)
  have e1 : ((opE o) : Int) = 8 := by
   unfold opE
   (repeat' split) <;> first | rfl | (exfalso; omega) | (exfalso; simp_all; done) | (exfalso; simp_all; omega) | grind
  exact .finE [.r []] [] (fun z0 => (VI z0, [])) (8 : Int) ((opE o) : Int) e1
 ·
  (try simp only [Bool.and_eq_true, Bool.and_eq_false_iff, Bool.not_eq_true', Bool.not_eq_false', bne_iff_ne, bne_eq_false_iff_eq, ne_eq] at h1)
  refine .br [.r [(5, Xv 1 (!(decide (o.clock < 1))) X0), (6, Xv 1 (!(decide (o.clock < 1))) X0), (7, X (Xk' (decide (o.clock < 1)))), (10, Xv 1 (!(decide (o.clock < 1) || decide (o.clock > 1073741824))) X0), (11, Xv 1 (!(decide (o.clock < 1) || decide (o.clock > 1073741824))) X0), (12, X (Xk' (decide (o.clock < 1) || decide (o.clock > 1073741824)))), (15, Xv 1 (!((decide (o.clock < 1) || decide (o.clock > 1073741824)) || decide (o.site < 0))) X0), (16, Xv 1 (!((decide (o.clock < 1) || decide (o.clock > 1073741824)) || decide (o.site < 0))) X0), (17, X (Xk' ((decide (o.clock < 1) || decide (o.clock > 1073741824)) || decide (o.site < 0)))), (20, Xv 1 (!(((decide (o.clock < 1) || decide (o.clock > 1073741824)) || decide (o.site < 0)) || decide (o.site > 1000))) X0), (21, Xv 1 (!(((decide (o.clock < 1) || decide (o.clock > 1073741824)) || decide (o.site < 0)) || decide (o.site > 1000))) X0), (22, X (Xk' (((decide (o.clock < 1) || decide (o.clock > 1073741824)) || decide (o.site < 0)) || decide (o.site > 1000)))), (25, Xv 1 (!((((decide (o.clock < 1) || decide (o.clock > 1073741824)) || decide (o.site < 0)) || decide (o.site > 1000)) || decide (o.itm < 1))) X0), (26, Xv 1 (!((((decide (o.clock < 1) || decide (o.clock > 1073741824)) || decide (o.site < 0)) || decide (o.site > 1000)) || decide (o.itm < 1))) X0), (27, X (Xk' ((((decide (o.clock < 1) || decide (o.clock > 1073741824)) || decide (o.site < 0)) || decide (o.site > 1000)) || decide (o.itm < 1))))]] (((((decide (o.clock < 1) || decide (o.clock > 1073741824)) || decide (o.site < 0)) || decide (o.site > 1000)) || decide (o.itm < 1)) || decide (o.itm > 1073741824)) (fun h3 => ?_) (fun h3 => ?_)
  ·
   (try simp only [decide_eq_true_eq, decide_eq_false_iff_not, Int.not_lt, Int.not_le, gt_iff_lt, Bool.or_eq_true, Bool.or_eq_false_iff] at h3)
   have e2 : ((opE o) : Int) = 2 := by
    unfold opE
    (repeat' split) <;> first | rfl | (exfalso; omega) | (exfalso; simp_all; done) | (exfalso; simp_all; omega) | grind
   exact .finE [.r []] [] (fun z0 => (VI z0, [])) (2 : Int) ((opE o) : Int) e2
  ·
   (try simp only [decide_eq_true_eq, decide_eq_false_iff_not, Int.not_lt, Int.not_le, gt_iff_lt, Bool.or_eq_true, Bool.or_eq_false_iff] at h3)
   refine .br [.r [(5, Xv 1 (o.kind == 0) X0), (6, Xv 1 (o.kind == 0) X0), (7, Xv 1 (o.kind == 0) X0), (9, Xv 1 ((o.kind == 0) && !(!(seq o.nm ({ data := #[] })))) X0), (10, Xv 1 ((o.kind == 0) && !(!(seq o.nm ({ data := #[] })))) X0), (11, Xko (o.kind == 0) (!(seq o.nm ({ data := #[] })))), (12, X (Xk (o.kind == 0)))]] ((o.kind == 0) && (!(seq o.nm ({ data := #[] })) || !(seq o.vl ({ data := #[] })))) (fun h5 => ?_) (fun h5 => ?_)
   ·
    (try simp only [Bool.not_eq_true', Bool.not_eq_false', Bool.and_eq_true, Bool.and_eq_false_iff, Bool.or_eq_true, Bool.or_eq_false_iff, beq_iff_eq, beq_eq_false_iff_ne, ne_eq] at h5)
    refine .br [] ((o.kind == 0) && (!(seq o.nm ({ data := #[] })) || !(seq o.vl ({ data := #[] })))) (fun h5 => ?_) (fun h5 => ?_)
    ·
     (try simp only [Bool.not_eq_true', Bool.not_eq_false', Bool.and_eq_true, Bool.and_eq_false_iff, Bool.or_eq_true, Bool.or_eq_false_iff, beq_iff_eq, beq_eq_false_iff_ne, ne_eq] at h5)
     have e3 : ((opE o) : Int) = 4 := by
      unfold opE
      (repeat' split) <;> first | rfl | (exfalso; omega) | (exfalso; simp_all; done) | (exfalso; simp_all; omega) | grind
     exact .finE [.r []] [] (fun z0 => (VI z0, [])) (4 : Int) ((opE o) : Int) e3
    ·
     (try simp only [Bool.not_eq_true', Bool.not_eq_false', Bool.and_eq_true, Bool.and_eq_false_iff, Bool.or_eq_true, Bool.or_eq_false_iff, beq_iff_eq, beq_eq_false_iff_ne, ne_eq] at h5)
     refine .br [.r [(5, Xv 1 (o.kind == 0) X0), (6, Xv 1 (o.kind == 0) X0), (7, Xv 1 (o.kind == 0) X0), (9, Xv 1 ((o.kind == 0) && !(decide (o.prt < (-1)))) X0), (10, Xv 1 ((o.kind == 0) && !(decide (o.prt < (-1)))) X0), (11, Xko (o.kind == 0) (decide (o.prt < (-1)))), (12, X (Xk (o.kind == 0)))]] ((o.kind == 0) && (decide (o.prt < (-1)) || decide (o.prt > 1073741824))) (fun h8 => ?_) (fun h8 => ?_)
     ·
      (try simp only [decide_eq_true_eq, decide_eq_false_iff_not, Int.not_lt, Int.not_le, gt_iff_lt, Bool.and_eq_true, Bool.and_eq_false_iff, Bool.not_eq_true', Bool.not_eq_false', Bool.or_eq_true, Bool.or_eq_false_iff, beq_iff_eq, beq_eq_false_iff_ne, ne_eq] at h8)
      have e4 : ((opE o) : Int) = 2 := by
       unfold opE
       (repeat' split) <;> first | rfl | (exfalso; omega) | (exfalso; simp_all; done) | (exfalso; simp_all; omega) | grind
      exact .finE [.r []] [] (fun z0 => (VI z0, [])) (2 : Int) ((opE o) : Int) e4
     ·
      (try simp only [decide_eq_true_eq, decide_eq_false_iff_not, Int.not_lt, Int.not_le, gt_iff_lt, Bool.and_eq_true, Bool.and_eq_false_iff, Bool.not_eq_true', Bool.not_eq_false', Bool.or_eq_true, Bool.or_eq_false_iff, beq_iff_eq, beq_eq_false_iff_ne, ne_eq] at h8)
      refine .br [.r [(5, Xv 1 (o.kind == 0) X0), (6, Xv 1 (o.kind == 0) (Xc0 (fc_place o.plc) X0)), (7, Xv 1 (o.kind == 0) X0), (8, X (Xk (o.kind == 0)))]] ((o.kind == 0) && !(placeB o.plc)) (fun h10 => ?_) (fun h10 => ?_)
      ·
       (try simp only [Bool.not_eq_true', Bool.not_eq_false', Bool.and_eq_true, Bool.and_eq_false_iff, beq_iff_eq, beq_eq_false_iff_ne, ne_eq] at h10)
       refine .br [] ((o.kind == 0) && !(placeB o.plc)) (fun h10 => ?_) (fun h10 => ?_)
       ·
        (try simp only [Bool.not_eq_true', Bool.not_eq_false', Bool.and_eq_true, Bool.and_eq_false_iff, beq_iff_eq, beq_eq_false_iff_ne, ne_eq] at h10)
        have e5 : ((opE o) : Int) = 9 := by
         unfold opE
         (repeat' split) <;> first | rfl | (exfalso; omega) | (exfalso; simp_all; done) | (exfalso; simp_all; omega) | grind
        exact .finE [.r []] [] (fun z0 => (VI z0, [])) (9 : Int) ((opE o) : Int) e5
       ·
        (try simp only [Bool.not_eq_true', Bool.not_eq_false', Bool.and_eq_true, Bool.and_eq_false_iff, beq_iff_eq, beq_eq_false_iff_ne, ne_eq] at h10)
        refine .br [.r [(5, Xv 1 (o.kind == 1) X0), (6, Xv 1 (o.kind == 1) X0), (7, X (Xk (o.kind == 1))), (10, Xv 1 ((o.kind == 1) && !(seq o.vl ({ data := #[] }))) X0), (11, Xv 1 ((o.kind == 1) && !(seq o.vl ({ data := #[] }))) (Xc0 (fc_value o.vl) X0)), (12, Xv 1 ((o.kind == 1) && !(seq o.vl ({ data := #[] }))) X0), (13, X (Xk ((o.kind == 1) && !(seq o.vl ({ data := #[] })))))]] (((o.kind == 1) && !(seq o.vl ({ data := #[] }))) && !(valGo o.vl)) (fun h13 => ?_) (fun h13 => ?_)
        ·
         (try simp only [Bool.not_eq_true', Bool.not_eq_false', Bool.and_eq_true, Bool.and_eq_false_iff, beq_iff_eq, beq_eq_false_iff_ne, ne_eq] at h13)
         have e6 : ((opE o) : Int) = 23 := by
          unfold opE
          (repeat' split) <;> first | rfl | (exfalso; omega) | (exfalso; simp_all; done) | (exfalso; simp_all; omega) | grind
         exact .finE [.r []] [] (fun z0 => (VI z0, [])) (23 : Int) ((opE o) : Int) e6
        ·
         (try simp only [Bool.not_eq_true', Bool.not_eq_false', Bool.and_eq_true, Bool.and_eq_false_iff, beq_iff_eq, beq_eq_false_iff_ne, ne_eq] at h13)
         have e7 : ((opE o) : Int) = 0 := by
          unfold opE
          (repeat' split) <;> first | rfl | (exfalso; omega) | (exfalso; simp_all; done) | (exfalso; simp_all; omega) | grind
         exact .finE [.r []] [] (fun z0 => (VI z0, [])) (0 : Int) ((opE o) : Int) e7
      ·
       (try simp only [Bool.not_eq_true', Bool.not_eq_false', Bool.and_eq_true, Bool.and_eq_false_iff, beq_iff_eq, beq_eq_false_iff_ne, ne_eq] at h10)
       refine .br [.r [(5, Xv 1 (o.kind == 1) X0), (6, Xv 1 (o.kind == 1) (Xc0 (fc_name o.nm) X0)), (7, Xv 1 (o.kind == 1) X0), (8, X (Xk (o.kind == 1)))]] ((o.kind == 1) && !(nameGo o.nm)) (fun h11 => ?_) (fun h11 => ?_)
       ·
        (try simp only [Bool.not_eq_true', Bool.not_eq_false', Bool.and_eq_true, Bool.and_eq_false_iff, beq_iff_eq, beq_eq_false_iff_ne, ne_eq] at h11)
        have e8 : ((opE o) : Int) = 9 := by
         unfold opE
         (repeat' split) <;> first | rfl | (exfalso; omega) | (exfalso; simp_all; done) | (exfalso; simp_all; omega) | grind
        exact .finE [.r []] [] (fun z0 => (VI z0, [])) (9 : Int) ((opE o) : Int) e8
       ·
        (try simp only [Bool.not_eq_true', Bool.not_eq_false', Bool.and_eq_true, Bool.and_eq_false_iff, beq_iff_eq, beq_eq_false_iff_ne, ne_eq] at h11)
        refine .br [.r [(5, Xv 1 (o.kind == 1) X0), (6, Xv 1 (o.kind == 1) X0), (7, X (Xk (o.kind == 1))), (10, Xv 1 ((o.kind == 1) && !(seq o.vl ({ data := #[] }))) X0), (11, Xv 1 ((o.kind == 1) && !(seq o.vl ({ data := #[] }))) (Xc0 (fc_value o.vl) X0)), (12, Xv 1 ((o.kind == 1) && !(seq o.vl ({ data := #[] }))) X0), (13, X (Xk ((o.kind == 1) && !(seq o.vl ({ data := #[] })))))]] (((o.kind == 1) && !(seq o.vl ({ data := #[] }))) && !(valGo o.vl)) (fun h13 => ?_) (fun h13 => ?_)
        ·
         (try simp only [Bool.not_eq_true', Bool.not_eq_false', Bool.and_eq_true, Bool.and_eq_false_iff, beq_iff_eq, beq_eq_false_iff_ne, ne_eq] at h13)
         have e9 : ((opE o) : Int) = 23 := by
          unfold opE
          (repeat' split) <;> first | rfl | (exfalso; omega) | (exfalso; simp_all; done) | (exfalso; simp_all; omega) | grind
         exact .finE [.r []] [] (fun z0 => (VI z0, [])) (23 : Int) ((opE o) : Int) e9
        ·
         (try simp only [Bool.not_eq_true', Bool.not_eq_false', Bool.and_eq_true, Bool.and_eq_false_iff, beq_iff_eq, beq_eq_false_iff_ne, ne_eq] at h13)
         have e10 : ((opE o) : Int) = 0 := by
          unfold opE
          (repeat' split) <;> first | rfl | (exfalso; omega) | (exfalso; simp_all; done) | (exfalso; simp_all; omega) | grind
         exact .finE [.r []] [] (fun z0 => (VI z0, [])) (0 : Int) ((opE o) : Int) e10
   ·
    (try simp only [Bool.not_eq_true', Bool.not_eq_false', Bool.and_eq_true, Bool.and_eq_false_iff, Bool.or_eq_true, Bool.or_eq_false_iff, beq_iff_eq, beq_eq_false_iff_ne, ne_eq] at h5)
    refine .br [.r [(5, Xv 1 (o.kind == 1) X0), (6, Xv 1 (o.kind == 1) X0), (7, Xv 1 (o.kind == 1) X0), (9, Xv 1 ((o.kind == 1) && !(o.prt != 0)) X0), (10, Xv 1 ((o.kind == 1) && !(o.prt != 0)) X0), (11, Xko (o.kind == 1) (o.prt != 0)), (12, X (Xk (o.kind == 1)))]] ((o.kind == 1) && ((o.prt != 0) || !(seq o.plc ({ data := #[] })))) (fun h6 => ?_) (fun h6 => ?_)
    ·
     (try simp only [Bool.not_eq_true', Bool.not_eq_false', Bool.and_eq_true, Bool.and_eq_false_iff, Bool.or_eq_true, Bool.or_eq_false_iff, beq_iff_eq, beq_eq_false_iff_ne, ne_eq, bne_iff_ne, bne_eq_false_iff_eq] at h6)
     have e11 : ((opE o) : Int) = 4 := by
      unfold opE
      (repeat' split) <;> first | rfl | (exfalso; omega) | (exfalso; simp_all; done) | (exfalso; simp_all; omega) | grind
     exact .finE [.r []] [] (fun z0 => (VI z0, [])) (4 : Int) ((opE o) : Int) e11
    ·
     (try simp only [Bool.not_eq_true', Bool.not_eq_false', Bool.and_eq_true, Bool.and_eq_false_iff, Bool.or_eq_true, Bool.or_eq_false_iff, beq_iff_eq, beq_eq_false_iff_ne, ne_eq, bne_iff_ne, bne_eq_false_iff_eq] at h6)
     refine .br [.r [(5, Xv 1 (o.kind == 0) X0), (6, Xv 1 (o.kind == 0) X0), (7, Xv 1 (o.kind == 0) X0), (9, Xv 1 ((o.kind == 0) && !(decide (o.prt < (-1)))) X0), (10, Xv 1 ((o.kind == 0) && !(decide (o.prt < (-1)))) X0), (11, Xko (o.kind == 0) (decide (o.prt < (-1)))), (12, X (Xk (o.kind == 0)))]] ((o.kind == 0) && (decide (o.prt < (-1)) || decide (o.prt > 1073741824))) (fun h8 => ?_) (fun h8 => ?_)
     ·
      (try simp only [decide_eq_true_eq, decide_eq_false_iff_not, Int.not_lt, Int.not_le, gt_iff_lt, Bool.and_eq_true, Bool.and_eq_false_iff, Bool.not_eq_true', Bool.not_eq_false', Bool.or_eq_true, Bool.or_eq_false_iff, beq_iff_eq, beq_eq_false_iff_ne, ne_eq] at h8)
      have e12 : ((opE o) : Int) = 2 := by
       unfold opE
       (repeat' split) <;> first | rfl | (exfalso; omega) | (exfalso; simp_all; done) | (exfalso; simp_all; omega) | grind
      exact .finE [.r []] [] (fun z0 => (VI z0, [])) (2 : Int) ((opE o) : Int) e12
     ·
      (try simp only [decide_eq_true_eq, decide_eq_false_iff_not, Int.not_lt, Int.not_le, gt_iff_lt, Bool.and_eq_true, Bool.and_eq_false_iff, Bool.not_eq_true', Bool.not_eq_false', Bool.or_eq_true, Bool.or_eq_false_iff, beq_iff_eq, beq_eq_false_iff_ne, ne_eq] at h8)
      refine .br [.r [(5, Xv 1 (o.kind == 0) X0), (6, Xv 1 (o.kind == 0) (Xc0 (fc_place o.plc) X0)), (7, Xv 1 (o.kind == 0) X0), (8, X (Xk (o.kind == 0)))]] ((o.kind == 0) && !(placeB o.plc)) (fun h10 => ?_) (fun h10 => ?_)
      ·
       (try simp only [Bool.not_eq_true', Bool.not_eq_false', Bool.and_eq_true, Bool.and_eq_false_iff, beq_iff_eq, beq_eq_false_iff_ne, ne_eq] at h10)
       refine .br [] ((o.kind == 0) && !(placeB o.plc)) (fun h10 => ?_) (fun h10 => ?_)
       ·
        (try simp only [Bool.not_eq_true', Bool.not_eq_false', Bool.and_eq_true, Bool.and_eq_false_iff, beq_iff_eq, beq_eq_false_iff_ne, ne_eq] at h10)
        have e13 : ((opE o) : Int) = 9 := by
         unfold opE
         (repeat' split) <;> first | rfl | (exfalso; omega) | (exfalso; simp_all; done) | (exfalso; simp_all; omega) | grind
        exact .finE [.r []] [] (fun z0 => (VI z0, [])) (9 : Int) ((opE o) : Int) e13
       ·
        (try simp only [Bool.not_eq_true', Bool.not_eq_false', Bool.and_eq_true, Bool.and_eq_false_iff, beq_iff_eq, beq_eq_false_iff_ne, ne_eq] at h10)
        refine .br [.r [(5, Xv 1 (o.kind == 1) X0), (6, Xv 1 (o.kind == 1) X0), (7, X (Xk (o.kind == 1))), (10, Xv 1 ((o.kind == 1) && !(seq o.vl ({ data := #[] }))) X0), (11, Xv 1 ((o.kind == 1) && !(seq o.vl ({ data := #[] }))) (Xc0 (fc_value o.vl) X0)), (12, Xv 1 ((o.kind == 1) && !(seq o.vl ({ data := #[] }))) X0), (13, X (Xk ((o.kind == 1) && !(seq o.vl ({ data := #[] })))))]] (((o.kind == 1) && !(seq o.vl ({ data := #[] }))) && !(valGo o.vl)) (fun h13 => ?_) (fun h13 => ?_)
        ·
         (try simp only [Bool.not_eq_true', Bool.not_eq_false', Bool.and_eq_true, Bool.and_eq_false_iff, beq_iff_eq, beq_eq_false_iff_ne, ne_eq] at h13)
         have e14 : ((opE o) : Int) = 23 := by
          unfold opE
          (repeat' split) <;> first | rfl | (exfalso; omega) | (exfalso; simp_all; done) | (exfalso; simp_all; omega) | grind
         exact .finE [.r []] [] (fun z0 => (VI z0, [])) (23 : Int) ((opE o) : Int) e14
        ·
         (try simp only [Bool.not_eq_true', Bool.not_eq_false', Bool.and_eq_true, Bool.and_eq_false_iff, beq_iff_eq, beq_eq_false_iff_ne, ne_eq] at h13)
         have e15 : ((opE o) : Int) = 0 := by
          unfold opE
          (repeat' split) <;> first | rfl | (exfalso; omega) | (exfalso; simp_all; done) | (exfalso; simp_all; omega) | grind
         exact .finE [.r []] [] (fun z0 => (VI z0, [])) (0 : Int) ((opE o) : Int) e15
      ·
       (try simp only [Bool.not_eq_true', Bool.not_eq_false', Bool.and_eq_true, Bool.and_eq_false_iff, beq_iff_eq, beq_eq_false_iff_ne, ne_eq] at h10)
       refine .br [.r [(5, Xv 1 (o.kind == 1) X0), (6, Xv 1 (o.kind == 1) (Xc0 (fc_name o.nm) X0)), (7, Xv 1 (o.kind == 1) X0), (8, X (Xk (o.kind == 1)))]] ((o.kind == 1) && !(nameGo o.nm)) (fun h11 => ?_) (fun h11 => ?_)
       ·
        (try simp only [Bool.not_eq_true', Bool.not_eq_false', Bool.and_eq_true, Bool.and_eq_false_iff, beq_iff_eq, beq_eq_false_iff_ne, ne_eq] at h11)
        have e16 : ((opE o) : Int) = 9 := by
         unfold opE
         (repeat' split) <;> first | rfl | (exfalso; omega) | (exfalso; simp_all; done) | (exfalso; simp_all; omega) | grind
        exact .finE [.r []] [] (fun z0 => (VI z0, [])) (9 : Int) ((opE o) : Int) e16
       ·
        (try simp only [Bool.not_eq_true', Bool.not_eq_false', Bool.and_eq_true, Bool.and_eq_false_iff, beq_iff_eq, beq_eq_false_iff_ne, ne_eq] at h11)
        refine .br [.r [(5, Xv 1 (o.kind == 1) X0), (6, Xv 1 (o.kind == 1) X0), (7, X (Xk (o.kind == 1))), (10, Xv 1 ((o.kind == 1) && !(seq o.vl ({ data := #[] }))) X0), (11, Xv 1 ((o.kind == 1) && !(seq o.vl ({ data := #[] }))) (Xc0 (fc_value o.vl) X0)), (12, Xv 1 ((o.kind == 1) && !(seq o.vl ({ data := #[] }))) X0), (13, X (Xk ((o.kind == 1) && !(seq o.vl ({ data := #[] })))))]] (((o.kind == 1) && !(seq o.vl ({ data := #[] }))) && !(valGo o.vl)) (fun h13 => ?_) (fun h13 => ?_)
        ·
         (try simp only [Bool.not_eq_true', Bool.not_eq_false', Bool.and_eq_true, Bool.and_eq_false_iff, beq_iff_eq, beq_eq_false_iff_ne, ne_eq] at h13)
         have e17 : ((opE o) : Int) = 23 := by
          unfold opE
          (repeat' split) <;> first | rfl | (exfalso; omega) | (exfalso; simp_all; done) | (exfalso; simp_all; omega) | grind
         exact .finE [.r []] [] (fun z0 => (VI z0, [])) (23 : Int) ((opE o) : Int) e17
        ·
         (try simp only [Bool.not_eq_true', Bool.not_eq_false', Bool.and_eq_true, Bool.and_eq_false_iff, beq_iff_eq, beq_eq_false_iff_ne, ne_eq] at h13)
         have e18 : ((opE o) : Int) = 0 := by
          unfold opE
          (repeat' split) <;> first | rfl | (exfalso; omega) | (exfalso; simp_all; done) | (exfalso; simp_all; omega) | grind
         exact .finE [.r []] [] (fun z0 => (VI z0, [])) (0 : Int) ((opE o) : Int) e18

theorem fc_dcheck (l : List DOp) : FC Tryz.prog 90 [VL 8 dopT l] (app emp []) (VI (drawE l 0)) (app emp []) := by
 refine .go Tryz.f90 ?_
 refine .len 0 (fun hl0 => ?_)
 refine .loop (α := Nat) [.r [], .r [(1, X (Xl dopT l))]] 32 (fun i => ([(0, VL 8 dopT l), (6, VL 8 dopT l), (7, VI (l.length : Int)), (8, VI (i : Int))], [])) (fun i => i ≤ l.length ∧ drawE l 0 = drawE l i) (fun i => l.length - i) (0 : Nat) ?_ ?_
 ·
  exact ⟨by omega, rfl⟩
 rintro i I2 ih2
 try dsimp only at I2
 refine .br [.r []] (decide ((i : Int) < (l.length : Int))) (fun h2 => ?_) (fun h2 => ?_)
 ·
  (try simp only [decide_eq_true_eq, decide_eq_false_iff_not, Int.not_lt, Int.not_le] at h2)
  refine .br [.r [(1, X (Xi dopT l (i : Int)))], .r [(1, X (Xc0 (fc_op ((l.getD i default))) X0))], .r []] ((opE ((l.getD i default))) != 0) (fun h5 => ?_) (fun h5 => ?_)
  ·
   (try simp only [bne_iff_ne, bne_eq_false_iff_eq, ne_eq] at h5)
   have e1 : ((drawE l 0) : Int) = (opE ((l.getD i default))) := by
    rw [I2.2, drawE, if_pos (by omega), if_pos h5]
   exact .finE [.r []] [] (fun z0 => (VI z0, [])) ((opE ((l.getD i default))) : Int) ((drawE l 0) : Int) e1
  ·
   (try simp only [bne_iff_ne, bne_eq_false_iff_eq, ne_eq] at h5)
   refine .br [.r [(5, Xv 1 (decide ((i : Int) > 0)) (Xn ((i : Int) - 1))), (6, Xv 2 (decide ((i : Int) > 0)) (Xi' dopT l ((i : Int) - 1) (i - 1))), (7, Xv 1 (decide ((i : Int) > 0)) X0), (9, Xv 2 (decide ((i : Int) > 0)) (Xc0 (fc_stamps ((l.getD (i - 1) default)) ((l.getD i default))) X0)), (10, Xv 1 (decide ((i : Int) > 0)) X0), (11, X (Xk (decide ((i : Int) > 0))))]] (decide ((i : Int) > 0) && decide ((stampC ((l.getD (i - 1) default)) ((l.getD i default))) ≥ 0)) (fun h7 => ?_) (fun h7 => ?_)
   ·
    (try simp only [decide_eq_true_eq, decide_eq_false_iff_not, Int.not_lt, Int.not_le, gt_iff_lt, ge_iff_le, Bool.and_eq_true, Bool.and_eq_false_iff, Bool.not_eq_true', Bool.not_eq_false'] at h7)
    have e2 : ((drawE l 0) : Int) = 5 := by
     rw [I2.2, drawE, if_pos (by omega), if_neg (by rw [h5]; decide), if_pos ⟨by omega, by rw [← stampC_ge]; exact h7.2⟩]
    exact .finE [.r []] [] (fun z0 => (VI z0, [])) (5 : Int) ((drawE l 0) : Int) e2
   ·
    (try simp only [decide_eq_true_eq, decide_eq_false_iff_not, Int.not_lt, Int.not_le, gt_iff_lt, ge_iff_le, Bool.and_eq_true, Bool.and_eq_false_iff, Bool.not_eq_true', Bool.not_eq_false'] at h7)
    refine .back [.r [(0, X (Xn ((i : Int) + 1)))]] [] (ih2 ((i + 1) : Nat) ?_ ?_)
    ·
     refine ⟨by omega, ?_⟩; rw [I2.2, drawE, if_pos (by omega), if_neg (by rw [h5]; decide), if_neg (by rw [← stampC_ge]; clear ih2; rintro ⟨a, b⟩; rcases h7 with h | h <;> omega)]
    ·
     ((try dsimp only); omega)
 ·
  (try simp only [decide_eq_true_eq, decide_eq_false_iff_not, Int.not_lt, Int.not_le] at h2)
  have e3 : ((drawE l 0) : Int) = 0 := by
   rw [I2.2, drawE, if_neg (by omega)]
  exact .finE [.r []] [] (fun z0 => (VI z0, [])) (0 : Int) ((drawE l 0) : Int) e3
end Go.Ch
end
section
set_option linter.unusedVariables false
namespace Go.Ab
variable {α : Type}
/-- The entry with the key of x is x. -/
def putK (key : α → Int) : List α → α → List α
  | [], x => [x]
  | y :: l, x => if key x = key y then x :: l else y :: putK key l x
theorem putE_map {f : α → Int × MV} {key : α → Int} (hf : ∀ x, (f x).1 = key x) : ∀ {l : List α} {x : α}, putE (l.map f) (key x) (f x).2 = (putK key l x).map f
  | [], x => by simp [putE, putK, ← hf]
  | y :: l, x => by
    have e : f y = (key y, (f y).2) := by rw [← hf]
    simp only [List.map_cons, putK]
    rw [e, putE]
    by_cases h : key x = key y
    · rw [if_pos h, if_pos h, List.map_cons, ← h]
      congr 1
      rw [← hf]
    · rw [if_neg h, if_neg h, List.map_cons, putE_map hf, ← e]
theorem lookE_map {f : α → Int × MV} {key : α → Int} (hf : ∀ x, (f x).1 = key x) : ∀ {l : List α} {n : Int}, lookE (l.map f) n = (l.find? (fun x => key x == n)).map (fun x => (f x).2)
  | [], n => rfl
  | y :: l, n => by
    have e : f y = (key y, (f y).2) := by rw [← hf]
    rw [List.map_cons, e, lookE, List.find?_cons, lookE_map hf]
    by_cases h : n = key y
    · rw [if_pos h, h]; simp
    · rw [if_neg h]
      have : (key y == n) = false := by simpa using fun q => h q.symm
      rw [this]
/-- No key twice. -/
def Uniq (key : α → Int) (l : List α) : Prop := ∀ x ∈ l, ∀ y ∈ l, key x = key y → x = y
def UniqI (key : α → Int) (l : List α) : Prop := (l.map key).Nodup
theorem UniqI.uniq {key : α → Int} : ∀ {l : List α}, UniqI key l → Uniq key l
  | [], _, x, hx, _, _, _ => by simp at hx
  | a :: l, h, x, hx, y, hy, e => by
    simp only [UniqI, List.map_cons, List.nodup_cons] at h
    rcases List.mem_cons.1 hx with e1 | h1 <;> rcases List.mem_cons.1 hy with e2 | h2
    · rw [e1, e2]
    · exact absurd (List.mem_map.2 ⟨y, h2, by rw [← e, e1]⟩) h.1
    · exact absurd (List.mem_map.2 ⟨x, h1, by rw [e, e2]⟩) h.1
    · exact UniqI.uniq h.2 x h1 y h2 e
theorem putK_mem {key : α → Int} : ∀ {l : List α} {x y : α}, y ∈ putK key l x → y = x ∨ (y ∈ l)
  | [], x, y, h => by simp [putK] at h; exact .inl h
  | a :: l, x, y, h => by
    simp only [putK] at h
    split at h
    · rcases List.mem_cons.1 h with h | h
      · exact .inl h
      · exact .inr (List.mem_cons_of_mem _ h)
    · rcases List.mem_cons.1 h with rfl | h
      · exact .inr List.mem_cons_self
      · exact (putK_mem h).imp id (List.mem_cons_of_mem _)
theorem putK_self {key : α → Int} : ∀ {l : List α} {x : α}, x ∈ putK key l x
  | [], x => by simp [putK]
  | a :: l, x => by
    simp only [putK]
    split
    · exact List.mem_cons_self
    · exact List.mem_cons_of_mem _ putK_self
theorem putK_old {key : α → Int} : ∀ {l : List α} {x y : α}, y ∈ l → key y ≠ key x → y ∈ putK key l x
  | a :: l, x, y, h, hne => by
    simp only [putK]
    split
    · rename_i e
      rcases List.mem_cons.1 h with rfl | h
      · exact absurd e.symm hne
      · exact List.mem_cons_of_mem _ h
    · rcases List.mem_cons.1 h with rfl | h
      · exact List.mem_cons_self
      · exact List.mem_cons_of_mem _ (putK_old h hne)
theorem putK_keys {key : α → Int} : ∀ {l : List α} {x : α}, (putK key l x).map key = if key x ∈ l.map key then l.map key else l.map key ++ [key x]
  | [], x => by simp [putK]
  | a :: l, x => by
    simp only [putK]
    by_cases h : key x = key a
    · rw [if_pos h]; simp [h]
    · rw [if_neg h, List.map_cons, putK_keys]
      by_cases hm : key x ∈ l.map key
      · rw [if_pos hm, if_pos (by simp only [List.map_cons, List.mem_cons]; exact .inr hm)]; rfl
      · rw [if_neg hm, if_neg (by simp only [List.map_cons, List.mem_cons, not_or]; exact ⟨h, hm⟩)]; rfl
theorem UniqI.putK {key : α → Int} {l : List α} {x : α} (h : UniqI key l) : UniqI key (putK key l x) := by
  unfold UniqI at *
  rw [putK_keys]
  split
  · exact h
  · rename_i hm
    rw [List.nodup_append]
    exact ⟨h, by simp, fun a ha b hb => by simp at hb; subst hb; exact fun e => hm (e ▸ ha)⟩
theorem putK_other {key : α → Int} {l : List α} {x y : α} (h : UniqI key l) (hy : y ∈ Ab.putK key l x) (hne : y ≠ x) : y ∈ l ∧ key y ≠ key x := by
  have h1 := (putK_mem hy).resolve_left hne
  refine ⟨h1, fun e => hne ?_⟩
  exact h.putK.uniq y hy x putK_self e
theorem find_uniq {key : α → Int} {l : List α} {x : α} (h : UniqI key l) (hx : x ∈ l) : l.find? (fun y => key y == key x) = some x := by
  cases hf : l.find? (fun y => key y == key x) with
  | none => have := List.find?_eq_none.1 hf x hx; simp at this
  | some y =>
    have h1 := List.find?_some hf
    have h2 := List.mem_of_find?_eq_some hf
    rw [h.uniq y h2 x hx (by simpa using h1)]
theorem putK_same {key : α → Int} : ∀ {l : List α} {y : α}, UniqI key l → y ∈ l → putK key l y = l
  | a :: l, y, h, hy => by
    have hq := h.uniq
    simp only [putK]
    split
    · rename_i e; rw [hq y hy a List.mem_cons_self e]
    · rename_i e
      have h1 : y ∈ l := (List.mem_cons.1 hy).resolve_left (fun q => e (by rw [q]))
      simp only [UniqI, List.map_cons, List.nodup_cons] at h
      rw [putK_same h.2 h1]
theorem find_at {key : α → Int} {l : List α} {n : Int} {x : α} (h : l.find? (fun y => key y == n) = some x) : x ∈ l ∧ key x = n := ⟨List.mem_of_find?_eq_some h, by have := List.find?_some h; simpa using this⟩
theorem find_not {key : α → Int} {l : List α} {n : Int} (h : l.find? (fun y => key y == n) = none) : ∀ x ∈ l, key x ≠ n := fun x hx => by
  have := List.find?_eq_none.1 h x hx; simpa using this
end Go.Ab
end
section
set_option linter.unusedVariables false
set_option linter.unusedSimpArgs false
namespace Go.Ch
open Go Go.Ab

def itM (x : DItem) : Int × MV := (x.item, .bx [TI x.item, TI x.parent, TS x.place, TL 2 attrT x.attrs])
def atM (p : Int × List Attr) : Int × MV := (p.1, .im (TL 2 attrT p.2))
def findI (l : List DItem) (k : Int) : Option DItem := l.find? (fun x => x.item == k)
def findA (l : List (Int × List Attr)) (k : Int) : List Attr := ((l.find? (fun p => p.1 == k)).map (·.2)).getD []
theorem lookI {l : List DItem} {k : Int} : lookE (l.map itM) k = (findI l k).map fun x => .bx [TI x.item, TI x.parent, TS x.place, TL 2 attrT x.attrs] := lookE_map (key := DItem.item) (fun _ => rfl)
theorem lookA {l : List (Int × List Attr)} {k : Int} : lookQ (l.map atM) k 2 = some ((findA l k).map attrT) := by
  unfold lookQ findA
  rw [lookE_map (f := atM) (key := Prod.fst) (fun _ => rfl)]
  cases l.find? (fun p => p.1 == k) with
  | none => rfl
  | some p => simp [atM]
theorem putI {l : List DItem} {x : DItem} : putE (l.map itM) x.item (.bx [TI x.item, TI x.parent, TS x.place, TL 2 attrT x.attrs]) = (putK DItem.item l x).map itM := putE_map (f := itM) (key := DItem.item) (fun _ => rfl)
theorem putA {l : List (Int × List Attr)} {k : Int} {a : List Attr} : putE (l.map atM) k (.im (TL 2 attrT a)) = (putK Prod.fst l (k, a)).map atM := putE_map (f := atM) (key := Prod.fst) (x := (k, a)) (fun _ => rfl)

theorem put_same {l : List DItem} {k : Int} {y : DItem} (hu : UniqI DItem.item l) (h : findI l k = some y) : putE (l.map itM) k (.bx [TI y.item, TI y.parent, TS y.place, TL 2 attrT y.attrs]) = l.map itM := by
  obtain ⟨h1, h2⟩ := find_at h
  rw [← h2, putI, putK_same hu h1]
/-! ### Below -/
def dropI (its : List DItem) (k : Int) : List DItem := its.filter fun y => decide (y.item ≠ k)
def belowI (its : List DItem) (top k : Int) : Bool :=
  if 0 < k then
    if k = top then true
    else match h : findI its k with
      | none => false
      | some x => belowI (dropI its k) top x.parent
  else false
termination_by its.length
decreasing_by
  obtain ⟨h1, h2⟩ := find_at h
  have : (its.filter fun y => decide (y.item ≠ k)).length < its.length := List.length_filter_lt_length_iff_exists.2 ⟨x, h1, by simp [h2]⟩
  exact this
inductive BelowP (its : List DItem) (top : Int) : Int → Prop
  | here (h : 0 < top) : BelowP its top top
  | up (x : DItem) (hx : x ∈ its) (h0 : 0 < x.item) (h : BelowP its top x.parent) : BelowP its top x.item
/-- A rank that says that nobody is below himself. -/
def Rk (its : List DItem) (r : Int → Nat) : Prop := ∀ x ∈ its, 0 < x.parent → r x.parent < r x.item
theorem BelowP.pos {its : List DItem} {top k : Int} (h : BelowP its top k) : 0 < k := by
  cases h with
  | here h => exact h
  | up x hx h0 h => exact h0
theorem BelowP.inv {its : List DItem} (hu : UniqI DItem.item its) {top k : Int} (h : BelowP its top k) (hk : k ≠ top) {x : DItem} (hx : x ∈ its) (e : x.item = k) : BelowP its top x.parent := by
  cases h with
  | here => exact absurd rfl hk
  | up y hy _ hb => rw [hu.uniq x hx y hy e]; exact hb
theorem belowI_iff {its : List DItem} {r : Int → Nat} (hr : Rk its r) (hu : UniqI DItem.item its) {top : Int} : ∀ (n : Nat) (k : Int) (q : DItem → Bool), (if 0 < k then r k + 1 else 0) ≤ n → (0 < k → ∀ x ∈ its, r x.item ≤ r k → q x = true) → (belowI (its.filter q) top k = true ↔ BelowP its top k) := by
  intro n
  induction n with
  | zero =>
    intro k q hk hq
    have h0 : ¬ 0 < k := fun h => by rw [if_pos h] at hk; omega
    rw [belowI, if_neg h0]
    exact ⟨fun h => (by cases h), fun h => absurd h.pos h0⟩
  | succ n ih =>
    intro k q hk hq
    rw [belowI]
    by_cases h0 : 0 < k
    · rw [if_pos h0] at hk ⊢
      by_cases h1 : k = top
      · rw [if_pos h1]; subst h1; exact ⟨fun _ => .here h0, fun _ => rfl⟩
      · rw [if_neg h1]
        have hfind : findI (its.filter q) k = findI its k := by
          unfold findI
          rw [List.find?_filter]
          have key : ∀ l : List DItem, (∀ x ∈ l, x ∈ its) → l.find? (fun a => decide (q a = true ∧ (a.item == k) = true)) = l.find? (fun x => x.item == k) := by
            intro l
            induction l with
            | nil => intro _; rfl
            | cons a l ih2 =>
              intro hl
              rw [List.find?_cons, List.find?_cons, ih2 (fun x hx => hl x (List.mem_cons_of_mem _ hx))]
              by_cases e : a.item = k
              · have := hq h0 a (hl a List.mem_cons_self) (by rw [e]; exact Nat.le_refl _)
                simp [this, e]
              · have e2 : (a.item == k) = false := by simpa using e
                simp [e2]
          exact key its (fun x h => h)
        split
        · rename_i h; rw [hfind] at h
          refine ⟨fun h => (by cases h), fun hb => ?_⟩
          cases hb with
          | here => exact absurd rfl h1
          | up x hx _ _ => exact absurd rfl (find_not h x hx)
        · rename_i x h; rw [hfind] at h
          obtain ⟨hx, e⟩ := find_at h
          unfold dropI
          rw [List.filter_filter]
          have hlt : 0 < x.parent → r x.parent < r k := fun hp => by rw [← e]; exact hr x hx hp
          rw [ih x.parent _ (by split <;> omega) (fun hp y hy hle => ?_)]
          · exact ⟨fun hb => by rw [← e]; exact .up x hx (by omega) hb, fun hb => hb.inv hu h1 hx e⟩
          · have := hlt hp
            have hne : y.item ≠ k := fun e2 => by rw [e2] at hle; omega
            simp [hne, hq h0 y hy (by omega)]
    · rw [if_neg h0]
      exact ⟨fun h => (by cases h), fun h => absurd h.pos h0⟩
theorem filter_all {l : List DItem} : l.filter (fun _ => true) = l := by simp
theorem below_iff {its : List DItem} {r : Int → Nat} (hr : Rk its r) (hu : UniqI DItem.item its) {top k : Int} : belowI its top k = true ↔ BelowP its top k := by
  have := belowI_iff hr hu (top := top) _ k (fun _ => true) (Nat.le_refl _) (fun _ _ _ _ => rfl)
  rwa [filter_all] at this
/-- One step up. -/
theorem below_step {its : List DItem} {r : Int → Nat} (hr : Rk its r) (hu : UniqI DItem.item its) {top k : Int} (h0 : 0 < k) (hk : k ≠ top) {x : DItem} (hx : findI its k = some x) : belowI its top k = belowI its top x.parent := by
  obtain ⟨h1, h2⟩ := find_at hx
  rw [Bool.eq_iff_iff, below_iff hr hu, below_iff hr hu]
  exact ⟨fun h => h.inv hu hk h1 h2, fun h => by rw [← h2]; exact .up x h1 (by omega) h⟩

/-! ### Playing -/
def stepP (s : List DItem × List (Int × List Attr)) (o : DOp) : List DItem × List (Int × List Attr) :=
  if o.kind = 1 then (s.1, putK Prod.fst s.2 (o.itm, fm rawG (findA s.2 o.itm) [⟨o.nm, o.vl⟩]))
  else if belowI s.1 o.itm o.prt = true then s
  else (putK DItem.item s.1 ⟨o.itm, o.prt, o.plc, []⟩, s.2)
def playP (l : List DOp) : List DItem × List (Int × List Attr) := l.foldl stepP ([], [])
theorem playP_succ {l : List DOp} {i : Nat} (h : i < l.length) : playP (l.take (i + 1)) = stepP (playP (l.take i)) (l.getD i default) := by
  unfold playP
  rw [List.take_succ_eq_append_getElem h, List.foldl_append]
  simp [List.getD, List.getElem?_eq_getElem h]
structure PlayOk (s : List DItem × List (Int × List Attr)) (n : Nat) : Prop where
  rank : ∃ r, Rk s.1 r
  uniq : UniqI DItem.item s.1
  uniqA : UniqI Prod.fst s.2
  pos : ∀ x ∈ s.1, 0 < x.item
  nil : ∀ x ∈ s.1, x.attrs = []
  len : s.1.length ≤ n
  lenA : s.2.length ≤ n
  lenP : ∀ p ∈ s.2, p.2.length ≤ n
theorem putK_len {α : Type} {key : α → Int} : ∀ {l : List α} {x : α}, (putK key l x).length ≤ l.length + 1
  | [], x => by simp [putK]
  | a :: l, x => by
    simp only [putK]
    split
    · simp
    · have := putK_len (key := key) (l := l) (x := x)
      simp only [List.length_cons]; omega
theorem findA_len {l : List (Int × List Attr)} {k : Int} {n : Nat} (h : ∀ p ∈ l, p.2.length ≤ n) : (findA l k).length ≤ n := by
  unfold findA
  cases hf : l.find? (fun p => p.1 == k) with
  | none => simp
  | some p => exact h p (List.mem_of_find?_eq_some hf)
theorem PlayOk.start : PlayOk ([], []) 0 := ⟨⟨fun _ => 0, fun x hx => (by cases hx)⟩, List.nodup_nil, List.nodup_nil, fun x hx => (by cases hx), fun x hx => (by cases hx), Nat.le_refl _, Nat.le_refl _, fun x hx => (by cases hx)⟩
open Classical in
theorem PlayOk.step {s : List DItem × List (Int × List Attr)} {n : Nat} (h : PlayOk s n) {o : DOp} (ho : 0 < o.itm) : PlayOk (stepP s o) (n + 1) := by
  obtain ⟨⟨r, hr⟩, h2, h3, h4, h5, h6, h7, h8⟩ := h
  unfold stepP
  split
  · refine ⟨⟨r, hr⟩, h2, h3.putK, h4, h5, by simp only; omega, Nat.le_trans putK_len (by omega), fun p hp => ?_⟩
    rcases putK_mem hp with rfl | hp
    · have := fm_len rawG (findA s.2 o.itm) [⟨o.nm, o.vl⟩]
      have := findA_len (k := o.itm) h8
      simp only [List.length_cons, List.length_nil] at *
      omega
    · have := h8 p hp; omega
  · split
    · exact ⟨⟨r, hr⟩, h2, h3, h4, h5, by omega, by omega, fun p hp => by have := h8 p hp; omega⟩
    · rename_i hb
      have hb : ¬ BelowP s.1 o.itm o.prt := fun q => hb ((below_iff hr h2).2 q)
      refine ⟨⟨fun k => if BelowP s.1 o.itm k then r k + r o.prt + 1 else r k, fun x hx hp => ?_⟩, h2.putK, h3, fun x hx => ?_, fun x hx => ?_, Nat.le_trans putK_len (by omega), by simp only; omega, fun p hp => by have := h8 p hp; omega⟩
      · by_cases e : x = ⟨o.itm, o.prt, o.plc, []⟩
        · subst e
          show (if BelowP s.1 o.itm o.prt then r o.prt + r o.prt + 1 else r o.prt) < (if BelowP s.1 o.itm o.itm then r o.itm + r o.prt + 1 else r o.itm)
          rw [if_neg hb, if_pos (.here ho)]; omega
        · obtain ⟨h9, h10⟩ := putK_other h2 hx e
          have hlt := hr x h9 hp
          show (if BelowP s.1 o.itm x.parent then r x.parent + r o.prt + 1 else r x.parent) < (if BelowP s.1 o.itm x.item then r x.item + r o.prt + 1 else r x.item)
          by_cases hq : BelowP s.1 o.itm x.parent
          · rw [if_pos hq, if_pos (.up x h9 (h4 x h9) hq)]; omega
          · rw [if_neg hq]; split <;> omega
      · rcases putK_mem hx with rfl | hx
        · exact ho
        · exact h4 x hx
      · rcases putK_mem hx with rfl | hx
        · rfl
        · exact h5 x hx
theorem playP_ok {l : List DOp} (hl : ∀ o ∈ l, 0 < o.itm) : ∀ i, i ≤ l.length → PlayOk (playP (l.take i)) i
  | 0, _ => by simpa [playP] using PlayOk.start
  | i + 1, h => by
    rw [playP_succ (by omega)]
    exact (playP_ok hl i (by omega)).step (hl _ (getDO_mem (by omega)))
end Go.Ch
end
section
set_option linter.unusedVariables false
set_option linter.unusedSimpArgs false
set_option maxRecDepth 100000
set_option maxHeartbeats 4000000
open Go Go.Proofs Go.Ab
namespace Go.Ch
theorem fc_below (its : List DItem) (ats : List (Int × List Attr)) (k top : Int) (r : Int → Nat) (hr : Rk its r) (hu : UniqI DItem.item its) : FC Tryz.prog 171 [.ptr 0 0, VI k, VI top] (app emp [(0, .box [.hdl 1, .hdl 2]), (1, .mp (List.map itM its) none), (2, .mp (List.map atM ats) none)]) (VB (belowI its top k)) (app emp [(0, .box [.hdl 1, .hdl 2]), (1, .mp (List.map itM its) none), (2, .mp (List.map atM ats) none)]) := by
 refine .go Tryz.f171 ?_
 refine .loop (α := Int) [.r []] 11 (fun c => ([(0, .ptr 0 0), (1, VI c), (2, VI top)], [(0, .box [.hdl 1, .hdl 2]), (1, .mp (List.map itM its) none), (2, .mp (List.map atM ats) none)])) (fun c => belowI its top k = belowI its top c) (fun c => if 0 < c then r c + 1 else 0) (k : Int) ?_ ?_
 ·
  rfl
 rintro c I1 ih1
 try dsimp only at I1
 refine .br [.r []] (decide (c > 0)) (fun h1 => ?_) (fun h1 => ?_)
 ·
  (try simp only [decide_eq_true_eq, decide_eq_false_iff_not, Int.not_lt, Int.not_le, gt_iff_lt] at h1)
  refine .br [.r []] (c == top) (fun h2 => ?_) (fun h2 => ?_)
  ·
   (try simp only [beq_iff_eq, beq_eq_false_iff_ne, ne_eq] at h2)
   have e1 : ((belowI its top k) : Bool) = true := by
    rw [I1, belowI, if_pos h1, if_pos h2]
   exact .finE [.r []] [(0, 0), (1, 1), (2, 2)] (fun z0 => (VB z0, [(0, .box [.hdl 1, .hdl 2]), (1, .mp (List.map itM its) none), (2, .mp (List.map atM ats) none)])) (true : Bool) ((belowI its top k) : Bool) e1
  ·
   (try simp only [beq_iff_eq, beq_eq_false_iff_ne, ne_eq] at h2)
   rcases hf : findI its c with _ | y
   ·
    have e2 : ((belowI its top k) : Bool) = false := by
     rw [I1, belowI, if_pos h1, if_neg h2]; split
     · rfl
     · rename_i hq; rw [hf] at hq; cases hq
    exact .finE [.r [(5, X (Xm0 (List.map itM its) c) (by rw [lookI, hf]; rfl))], .r [], .t, .r []] [(0, 0), (1, 1), (2, 2)] (fun z0 => (VB z0, [(0, .box [.hdl 1, .hdl 2]), (1, .mp (List.map itM its) none), (2, .mp (List.map atM ats) none)])) (false : Bool) ((belowI its top k) : Bool) e2
   ·
    refine .back [.r [(5, X (Xm2 (List.map itM its) c [TI y.item, TI y.parent, TS y.place, TL 2 attrT y.attrs]) (by rw [lookI, hf]; rfl))], .r [], .f, .r [], .le (.mput 1 (List.map itM its) [(lookE (List.map itM its) c).isSome = true, putE (List.map itM its) c (.bx [TI y.item, TI y.parent, TS y.place, TL 2 attrT y.attrs]) = List.map itM its] ⟨(by rw [lookI, hf]; rfl), put_same hu hf, trivial⟩)] [(0, 0), (1, 1), (2, 2)] (ih1 (y.parent : Int) ?_ ?_)
    ·
     rw [I1]; exact below_step hr hu h1 h2 hf
    ·
     obtain ⟨q1, q2⟩ := find_at hf
     (try dsimp only)
     rw [if_pos h1]
     by_cases hp : 0 < y.parent
     · have := hr y q1 hp; rw [if_pos hp]; rw [q2] at this; omega
     · rw [if_neg hp]; omega
 ·
  (try simp only [decide_eq_true_eq, decide_eq_false_iff_not, Int.not_lt, Int.not_le, gt_iff_lt] at h1)
  have e3 : ((belowI its top k) : Bool) = false := by
   rw [I1, belowI, if_neg (by omega)]
  exact .finE [.r []] [(0, 0), (1, 1), (2, 2)] (fun z0 => (VB z0, [(0, .box [.hdl 1, .hdl 2]), (1, .mp (List.map itM its) none), (2, .mp (List.map atM ats) none)])) (false : Bool) ((belowI its top k) : Bool) e3

theorem fc_play (l : List DOp) (hn : l.length ≤ 1000000000) (ho : ∀ o ∈ l, 0 < o.itm) : FC Tryz.prog 144 [VL 8 dopT l] (app emp []) (.ptr 0 0) (app emp [(0, .box [.hdl 1, .hdl 2]), (1, .mp (List.map itM ((playP l).1)) none), (2, .mp (List.map atM ((playP l).2)) none)]) := by
 refine .go Tryz.f144 ?_
 refine .len 0 (fun hl0 => ?_)
 have hok := playP_ok ho
 refine .loop (α := Nat × List DItem × List (Int × List Attr)) [.r [], .r [], .r [(1, X (Xl dopT l))]] 72 (fun (i, its, ats) => ([(3, .ptr 32 0), (10, VL 8 dopT l), (11, VI (l.length : Int)), (12, VI (i : Int))], [(8, .mp (List.map itM its) none), (16, .mp (List.map atM ats) none), (32, .box [.hdl 8, .hdl 16])])) (fun (i, its, ats) => i ≤ l.length ∧ (its, ats) = playP (l.take i)) (fun (i, its, ats) => l.length - i) (0, [], []) ?_ ?_
 ·
  exact ⟨by omega, rfl⟩
 rintro ⟨i, its, ats⟩ I3 ih3
 try dsimp only at I3
 refine .br [.r []] (decide ((i : Int) < (l.length : Int))) (fun h3 => ?_) (fun h3 => ?_)
 ·
  (try simp only [decide_eq_true_eq, decide_eq_false_iff_not, Int.not_lt, Int.not_le] at h3)
  have hP := hok i (by omega)
  rw [← I3.2] at hP
  obtain ⟨r, hr⟩ := hP.rank
  have hu := hP.uniq
  have hfl : (findA ats (l.getD i default).itm).length ≤ i := findA_len hP.lenP
  refine .br [.r [(0, X (Xi dopT l (i : Int)))], .r []] ((((l.getD i default)).kind) == 1) (fun h5 => ?_) (fun h5 => ?_)
  ·
   (try simp only [beq_iff_eq, beq_eq_false_iff_ne, ne_eq] at h5)
   refine .back [.r [(12, X (Xmq (List.map atM ats) (((l.getD i default)).itm) 2 attrT (findA ats (l.getD i default).itm)) lookA), (19, X (Xc1 296 (fc_raw (findA ats (l.getD i default).itm) [({ name := ((l.getD i default)).nm, val := ((l.getD i default)).vl } : Attr)] (by simp only [List.length_cons, List.length_nil]; omega)) (rowC attrT [({ name := ((l.getD i default)).nm, val := ((l.getD i default)).vl } : Attr)] X0))), (20, X (Xmu atM ats (putK Prod.fst ats ((l.getD i default).itm, fm rawG (findA ats (l.getD i default).itm) [⟨(l.getD i default).nm, (l.getD i default).vl⟩])) (((l.getD i default)).itm) 16 (.im (TL 2 attrT (fm rawG (findA ats (l.getD i default).itm) [({ name := ((l.getD i default)).nm, val := ((l.getD i default)).vl } : Attr)])))) putA)], .r [(0, X (Xn ((i : Int) + 1)))]] [(8, 8), (16, 16), (32, 32)] (ih3 ((i + 1), its, (putK Prod.fst ats ((l.getD i default).itm, fm rawG (findA ats (l.getD i default).itm) [⟨(l.getD i default).nm, (l.getD i default).vl⟩]))) ?_ ?_)
   ·
    refine ⟨by omega, ?_⟩
    rw [playP_succ (by omega), ← I3.2, stepP, if_pos h5]
   ·
    ((try dsimp only); omega)
  ·
   (try simp only [beq_iff_eq, beq_eq_false_iff_ne, ne_eq] at h5)
   refine .br [.r [(5, X (Xc4 [(0, 32), (1, 8), (2, 16)] (fc_below its ats (((l.getD i default)).prt) (((l.getD i default)).itm) r hr hu) X0))]] (!(belowI its (((l.getD i default)).itm) (((l.getD i default)).prt))) (fun h7 => ?_) (fun h7 => ?_)
   ·
    (try simp only [Bool.not_eq_true', Bool.not_eq_false'] at h7)
    refine .back [.r [(12, X (Xf [(3, 2)])), (14, X (Xmb itM its (putK DItem.item its ⟨(l.getD i default).itm, (l.getD i default).prt, (l.getD i default).plc, []⟩) (((l.getD i default)).itm) 8 312 [TI (((l.getD i default)).itm), TI (((l.getD i default)).prt), TS (((l.getD i default)).plc), TL 2 attrT []]) (putI (x := ⟨(l.getD i default).itm, (l.getD i default).prt, (l.getD i default).plc, []⟩)))], .r [(0, X (Xn ((i : Int) + 1)))]] [(8, 8), (16, 16), (32, 32)] (ih3 ((i + 1), (putK DItem.item its ⟨(l.getD i default).itm, (l.getD i default).prt, (l.getD i default).plc, []⟩), ats) ?_ ?_)
    ·
     refine ⟨by omega, ?_⟩
     rw [playP_succ (by omega), ← I3.2, stepP, if_neg h5, if_neg (by rw [h7]; decide)]
    ·
     ((try dsimp only); omega)
   ·
    (try simp only [Bool.not_eq_true', Bool.not_eq_false'] at h7)
    refine .back [.r [(0, X (Xn ((i : Int) + 1)))]] [(8, 8), (16, 16), (32, 32)] (ih3 ((i + 1), its, ats) ?_ ?_)
    ·
     refine ⟨by omega, ?_⟩
     rw [playP_succ (by omega), ← I3.2, stepP, if_neg h5, if_pos h7]
    ·
     ((try dsimp only); omega)
 ·
  (try simp only [decide_eq_true_eq, decide_eq_false_iff_not, Int.not_lt, Int.not_le] at h3)
  have e1 : ((playP l).1 : List DItem) = its := by
   have hi : i = l.length := by omega
   rw [hi, List.take_length] at I3
   rw [← I3.2]
  have e2 : ((playP l).2 : List (Int × List Attr)) = ats := by
   have hi : i = l.length := by omega
   rw [hi, List.take_length] at I3
   rw [← I3.2]
  exact .finE [.r []] [(32, 0), (8, 1), (16, 2)] (fun (z0, z1) => (.ptr 0 0, [(0, .box [.hdl 1, .hdl 2]), (1, .mp (List.map itM z0) none), (2, .mp (List.map atM z1) none)])) ((its : List DItem), (ats : List (Int × List Attr))) (((playP l).1 : List DItem), ((playP l).2 : List (Int × List Attr))) (pr e1 e2)
end Go.Ch
end
section
namespace Go.Proofs
open Go.Shelf
def Tryz.laysM171_ren : Go.Shelf.Ren := ⟨fun | 171 => 103 | 243 => 140 | 246 => 168 | 283 => 186 | 284 => 187 | 285 => 188 | 286 => 189 | 129 => 201 | 317 => 211 | 318 => 212 | 319 => 213 | 320 => 214 | 337 => 224 | 338 => 225 | n => n, fun | 3 => 3 | 9 => 9 | 2 => 2 | 4 => 4 | 171 => 234 | 0 => 0 | 53 => 235 | 37 => 111 | 5 => 5 | 173 => 238 | 212 => 266 | 51 => 240 | 20 => 20 | 213 => 267 | 46 => 194 | 232 => 288 | 233 => 289 | n => n, fun | 17 => 4 | 18 => 7 | 19 => 8 | n => n⟩
theorem Tryz.laysM171 : Go.Proofs.LaysM.n171 Tryz.prog Tryz.laysM171_ren := {
  mixed := by kernel_rfl
  f129 := Tryz.func201.trans (congrArg some (by kernel_rfl))
  f171 := Tryz.func103.trans (congrArg some (by kernel_rfl))
  f243 := Tryz.func140.trans (congrArg some (by kernel_rfl))
  f246 := Tryz.func168.trans (congrArg some (by kernel_rfl))
  f283 := Tryz.func186.trans (congrArg some (by kernel_rfl))
  f284 := Tryz.func187.trans (congrArg some (by kernel_rfl))
  f285 := Tryz.func188.trans (congrArg some (by kernel_rfl))
  f286 := Tryz.func189.trans (congrArg some (by kernel_rfl))
  f317 := Tryz.func211.trans (congrArg some (by kernel_rfl))
  f318 := Tryz.func212.trans (congrArg some (by kernel_rfl))
  f319 := Tryz.func213.trans (congrArg some (by kernel_rfl))
  f320 := Tryz.func214.trans (congrArg some (by kernel_rfl))
  f337 := Tryz.func224.trans (congrArg some (by kernel_rfl))
  f338 := Tryz.func225.trans (congrArg some (by kernel_rfl))
  t0 := Tryz.underlying0
  a0 := Tryz.isAgg0
  z0 := Tryz.sizeOf0
  v0 := Tryz.zeroValue0
  t2 := Tryz.underlying2
  a2 := Tryz.isAgg2
  z2 := Tryz.sizeOf2
  v2 := Tryz.zeroValue2
  t3 := Tryz.underlying3
  a3 := Tryz.isAgg3
  z3 := Tryz.sizeOf3
  v3 := Tryz.zeroValue3
  t4 := Tryz.underlying4
  a4 := Tryz.isAgg4
  z4 := Tryz.sizeOf4
  v4 := Tryz.zeroValue4
  t5 := Tryz.underlying5
  a5 := Tryz.isAgg5
  z5 := Tryz.sizeOf5
  v5 := Tryz.zeroValue5
  t9 := Tryz.underlying9
  a9 := Tryz.isAgg9
  z9 := Tryz.sizeOf9
  v9 := Tryz.zeroValue9
  t20 := Tryz.underlying20
  a20 := Tryz.isAgg20
  z20 := Tryz.sizeOf20
  v20 := Tryz.zeroValue20
  t37 := Tryz.underlying111
  a37 := Tryz.isAgg111
  z37 := Tryz.sizeOf111
  v37 := Tryz.zeroValue111
  t46 := Tryz.underlying194
  a46 := Tryz.isAgg194
  z46 := Tryz.sizeOf194
  v46 := Tryz.zeroValue194
  t51 := Tryz.underlying240
  a51 := Tryz.isAgg240
  z51 := Tryz.sizeOf240
  v51 := Tryz.zeroValue240
  t53 := Tryz.underlying235
  a53 := Tryz.isAgg235
  z53 := Tryz.sizeOf235
  v53 := Tryz.zeroValue235
  t171 := Tryz.underlying234
  a171 := Tryz.isAgg234
  z171 := Tryz.sizeOf234
  v171 := Tryz.zeroValue234
  t173 := Tryz.underlying238
  a173 := Tryz.isAgg238
  z173 := Tryz.sizeOf238
  v173 := Tryz.zeroValue238
  t212 := Tryz.underlying266
  a212 := Tryz.isAgg266
  z212 := Tryz.sizeOf266
  v212 := Tryz.zeroValue266
  t213 := Tryz.underlying267
  a213 := Tryz.isAgg267
  z213 := Tryz.sizeOf267
  t232 := Tryz.underlying288
  a232 := Tryz.isAgg288
  z232 := Tryz.sizeOf288
  v232 := Tryz.zeroValue288
  t233 := Tryz.underlying289
  a233 := Tryz.isAgg289
  z233 := Tryz.sizeOf289
  v233 := Tryz.zeroValue289
  g17 := by kernel_rfl
  g18 := by kernel_rfl
  g19 := by kernel_rfl
  i0 := by kernel_rfl
  i2 := by kernel_rfl
  i3 := by kernel_rfl
  i4 := by kernel_rfl
  i5 := by kernel_rfl
  i9 := by kernel_rfl
  i20 := by kernel_rfl
  i37 := by kernel_rfl
  i46 := by kernel_rfl
  i51 := by kernel_rfl
  i53 := by kernel_rfl
  i171 := by kernel_rfl
  i173 := by kernel_rfl
  i212 := by kernel_rfl
  i232 := by kernel_rfl
  i233 := by kernel_rfl
  m17 := by kernel_rfl
  m18 := by kernel_rfl
  m19 := by kernel_rfl }
open Go.RowKit Go.Sort Go.Lib in
/-- strconv.Itoa: "Itoa is equivalent to FormatInt(int64(i), 10).": i's DECIMAL NUMERAL ('Lib.itoa': a '-' where i is negative, then the digits), FOR EVERY int. The world behind the call: the world before it, new blocks behind the heap (the library's 'var a [24]byte'), draws. (LAID: no walk: one application.) -/
theorem Tryz.strconv_Itoa (n : Int) (h0 : -9223372036854775808 ≤ n) (h1 : n ≤ 9223372036854775807) (w : World) (htab : Lib.TabIs Tryz.prog w "internal/strconv.uint64pow10" .u64 Lib.pow10Tab) :
    Calls Tryz.prog 103 #[.int .i64 n] w fun e w' => e = .returned (.string ⟨(Lib.itoa n).toArray⟩) ∧ ∃ k os, w' = grow (w.drewN k) os := Any.strconv_Itoa Tryz.laysM171 n h0 h1 w htab
def Tryz.laysC172_ren : Go.Shelf.Ren := ⟨fun | 172 => 116 | 244 => 152 | 245 => 153 | 247 => 176 | 279 => 177 | 280 => 178 | 281 => 179 | 282 => 180 | 287 => 202 | 316 => 203 | 171 => 103 | 205 => 204 | 321 => 220 | 322 => 221 | 243 => 140 | 246 => 168 | 283 => 186 | 284 => 187 | 285 => 188 | 286 => 189 | 129 => 201 | 317 => 211 | 318 => 212 | 319 => 213 | 320 => 214 | 337 => 224 | 338 => 225 | n => n, fun | 9 => 9 | 3 => 3 | 75 => 168 | 76 => 169 | 4 => 4 | 5 => 5 | 167 => 222 | 37 => 111 | 0 => 0 | 85 => 223 | 2 => 2 | 168 => 225 | 53 => 235 | 175 => 255 | 46 => 194 | 210 => 258 | 127 => 217 | 145 => 277 | 143 => 275 | 21 => 21 | 171 => 234 | 173 => 238 | 212 => 266 | 51 => 240 | 20 => 20 | 213 => 267 | 232 => 288 | 233 => 289 | 80 => 189 | n => n, fun | 15 => 2 | 16 => 3 | 17 => 4 | 18 => 7 | 19 => 8 | n => n⟩
theorem Tryz.laysC172 : Go.Proofs.LaysC.n172 Tryz.prog Tryz.laysC172_ren := {
  mixed := by kernel_rfl
  f129 := Tryz.func201.trans (congrArg some (by kernel_rfl))
  f171 := Tryz.func103.trans (congrArg some (by kernel_rfl))
  f172 := Tryz.func116.trans (congrArg some (by kernel_rfl))
  f205 := Tryz.func204.trans (congrArg some (by kernel_rfl))
  f243 := Tryz.func140.trans (congrArg some (by kernel_rfl))
  f244 := Tryz.func152.trans (congrArg some (by kernel_rfl))
  f245 := Tryz.func153.trans (congrArg some (by kernel_rfl))
  f246 := Tryz.func168.trans (congrArg some (by kernel_rfl))
  f247 := Tryz.func176.trans (congrArg some (by kernel_rfl))
  f279 := Tryz.func177.trans (congrArg some (by kernel_rfl))
  f280 := Tryz.func178.trans (congrArg some (by kernel_rfl))
  f281 := Tryz.func179.trans (congrArg some (by kernel_rfl))
  f282 := Tryz.func180.trans (congrArg some (by kernel_rfl))
  f283 := Tryz.func186.trans (congrArg some (by kernel_rfl))
  f284 := Tryz.func187.trans (congrArg some (by kernel_rfl))
  f285 := Tryz.func188.trans (congrArg some (by kernel_rfl))
  f286 := Tryz.func189.trans (congrArg some (by kernel_rfl))
  f287 := Tryz.func202.trans (congrArg some (by kernel_rfl))
  f316 := Tryz.func203.trans (congrArg some (by kernel_rfl))
  f317 := Tryz.func211.trans (congrArg some (by kernel_rfl))
  f318 := Tryz.func212.trans (congrArg some (by kernel_rfl))
  f319 := Tryz.func213.trans (congrArg some (by kernel_rfl))
  f320 := Tryz.func214.trans (congrArg some (by kernel_rfl))
  f321 := Tryz.func220.trans (congrArg some (by kernel_rfl))
  f322 := Tryz.func221.trans (congrArg some (by kernel_rfl))
  f337 := Tryz.func224.trans (congrArg some (by kernel_rfl))
  f338 := Tryz.func225.trans (congrArg some (by kernel_rfl))
  t0 := Tryz.underlying0
  a0 := Tryz.isAgg0
  z0 := Tryz.sizeOf0
  v0 := Tryz.zeroValue0
  t2 := Tryz.underlying2
  a2 := Tryz.isAgg2
  z2 := Tryz.sizeOf2
  v2 := Tryz.zeroValue2
  t3 := Tryz.underlying3
  a3 := Tryz.isAgg3
  z3 := Tryz.sizeOf3
  v3 := Tryz.zeroValue3
  t4 := Tryz.underlying4
  a4 := Tryz.isAgg4
  z4 := Tryz.sizeOf4
  v4 := Tryz.zeroValue4
  t5 := Tryz.underlying5
  a5 := Tryz.isAgg5
  z5 := Tryz.sizeOf5
  v5 := Tryz.zeroValue5
  t9 := Tryz.underlying9
  a9 := Tryz.isAgg9
  z9 := Tryz.sizeOf9
  v9 := Tryz.zeroValue9
  t20 := Tryz.underlying20
  a20 := Tryz.isAgg20
  z20 := Tryz.sizeOf20
  v20 := Tryz.zeroValue20
  t21 := Tryz.underlying21
  a21 := Tryz.isAgg21
  z21 := Tryz.sizeOf21
  v21 := Tryz.zeroValue21
  t37 := Tryz.underlying111
  a37 := Tryz.isAgg111
  z37 := Tryz.sizeOf111
  v37 := Tryz.zeroValue111
  t46 := Tryz.underlying194
  a46 := Tryz.isAgg194
  z46 := Tryz.sizeOf194
  v46 := Tryz.zeroValue194
  t51 := Tryz.underlying240
  a51 := Tryz.isAgg240
  z51 := Tryz.sizeOf240
  v51 := Tryz.zeroValue240
  t53 := Tryz.underlying235
  a53 := Tryz.isAgg235
  z53 := Tryz.sizeOf235
  v53 := Tryz.zeroValue235
  t75 := Tryz.underlying168
  a75 := Tryz.isAgg168
  z75 := Tryz.sizeOf168
  v75 := Tryz.zeroValue168
  t76 := Tryz.underlying169
  a76 := Tryz.isAgg169
  z76 := Tryz.sizeOf169
  v76 := Tryz.zeroValue169
  t85 := Tryz.underlying223
  a85 := Tryz.isAgg223
  z85 := Tryz.sizeOf223
  v85 := Tryz.zeroValue223
  t127 := Tryz.underlying217
  a127 := Tryz.isAgg217
  z127 := Tryz.sizeOf217
  v127 := Tryz.zeroValue217
  t143 := Tryz.underlying275
  a143 := Tryz.isAgg275
  z143 := Tryz.sizeOf275
  v143 := Tryz.zeroValue275
  t145 := Tryz.underlying277
  a145 := Tryz.isAgg277
  z145 := Tryz.sizeOf277
  v145 := Tryz.zeroValue277
  t167 := Tryz.underlying222
  a167 := Tryz.isAgg222
  z167 := Tryz.sizeOf222
  v167 := Tryz.zeroValue222
  t168 := Tryz.underlying225
  a168 := Tryz.isAgg225
  z168 := Tryz.sizeOf225
  v168 := Tryz.zeroValue225
  t171 := Tryz.underlying234
  a171 := Tryz.isAgg234
  z171 := Tryz.sizeOf234
  v171 := Tryz.zeroValue234
  t173 := Tryz.underlying238
  a173 := Tryz.isAgg238
  z173 := Tryz.sizeOf238
  v173 := Tryz.zeroValue238
  t175 := Tryz.underlying255
  a175 := Tryz.isAgg255
  z175 := Tryz.sizeOf255
  v175 := Tryz.zeroValue255
  t210 := Tryz.underlying258
  a210 := Tryz.isAgg258
  z210 := Tryz.sizeOf258
  v210 := Tryz.zeroValue258
  t212 := Tryz.underlying266
  a212 := Tryz.isAgg266
  z212 := Tryz.sizeOf266
  v212 := Tryz.zeroValue266
  t213 := Tryz.underlying267
  a213 := Tryz.isAgg267
  z213 := Tryz.sizeOf267
  t232 := Tryz.underlying288
  a232 := Tryz.isAgg288
  z232 := Tryz.sizeOf288
  v232 := Tryz.zeroValue288
  t233 := Tryz.underlying289
  a233 := Tryz.isAgg289
  z233 := Tryz.sizeOf289
  v233 := Tryz.zeroValue289
  g15 := by kernel_rfl
  g16 := by kernel_rfl
  g17 := by kernel_rfl
  g18 := by kernel_rfl
  g19 := by kernel_rfl
  t80 := Tryz.underlying189
  a80 := Tryz.isAgg189
  z80 := Tryz.sizeOf189
  v80 := Tryz.zeroValue189
  i0 := by kernel_rfl
  i2 := by kernel_rfl
  i3 := by kernel_rfl
  i4 := by kernel_rfl
  i5 := by kernel_rfl
  i9 := by kernel_rfl
  i20 := by kernel_rfl
  i21 := by kernel_rfl
  i37 := by kernel_rfl
  i46 := by kernel_rfl
  i51 := by kernel_rfl
  i53 := by kernel_rfl
  i75 := by kernel_rfl
  i76 := by kernel_rfl
  i80 := by kernel_rfl
  i85 := by kernel_rfl
  i127 := by kernel_rfl
  i143 := by kernel_rfl
  i145 := by kernel_rfl
  i167 := by kernel_rfl
  i168 := by kernel_rfl
  i171 := by kernel_rfl
  i173 := by kernel_rfl
  i175 := by kernel_rfl
  i210 := by kernel_rfl
  i212 := by kernel_rfl
  i232 := by kernel_rfl
  i233 := by kernel_rfl
  m15 := by kernel_rfl
  m16 := by kernel_rfl
  m17 := by kernel_rfl
  m18 := by kernel_rfl
  m19 := by kernel_rfl
  c0 := by kernel_rfl
  c2 := by kernel_rfl
  c3 := by kernel_rfl
  c4 := by kernel_rfl
  c5 := by kernel_rfl
  c9 := by kernel_rfl
  c20 := by kernel_rfl
  c21 := by kernel_rfl
  c37 := by kernel_rfl
  c46 := by kernel_rfl
  c51 := by kernel_rfl
  c53 := by kernel_rfl
  c75 := by kernel_rfl
  c76 := by kernel_rfl
  c80 := by kernel_rfl
  c85 := by kernel_rfl
  c127 := by kernel_rfl
  c143 := by kernel_rfl
  c145 := by kernel_rfl
  c167 := by kernel_rfl
  c168 := by kernel_rfl
  c171 := by kernel_rfl
  c173 := by kernel_rfl
  c175 := by kernel_rfl
  c210 := by kernel_rfl
  c212 := by kernel_rfl
  c213 := by kernel_rfl
  c232 := by kernel_rfl
  c233 := by kernel_rfl }
open Go.RowKit in
/-- strconv.Atoi, AT EVERY STRING THAT SPELLS AN int ('Lib.atoiAll .. = .ok v'; of whatever length: leading zeros count): v, AND NO ERROR. The world: as it was, or with the one new row that '[]byte(..)' lays. (LAID: no walk: one application.) -/
theorem Tryz.strconv_Atoi_ok (s : ByteArray) (hmax : s.size ≤ 9223372036854775806) (v : Int) (h : Lib.atoiAll s.data.toList = .ok v) (w : World) :
    Calls Tryz.prog 116 #[.string s] w fun e w' => e = .returned (.tuple #[.int .i64 v, .nilIface]) ∧ (w' = w ∨ ∃ t, w' = Lib.bytesWorld w 5 t) := Any.strconv_Atoi_ok Tryz.laysC172 s hmax v h w
open Go.RowKit in
/-- strconv.Atoi, AT EVERY STRING THAT IS NO DECIMAL NUMERAL: 0, AND AN ERROR THAT IS NOT nil: a *NumError in a new block N: {Func: "Atoi", Num: s's bytes, Err: what the variable ErrSyntax holds}. Of what was there nothing has turned. (LAID: no walk: one application.) -/
theorem Tryz.strconv_Atoi_syntax (s : ByteArray) (hlim : s.size ≤ 281474976710656) (h : Lib.atoiAll s.data.toList = Lib.NumEnd.syntax) (ev : Value) (w : World) (hv : w.cell? ⟨2, 0, none⟩ = some ev) (hev : ev = .nilIface ∨ ∃ te pe, ev = .iface te pe) :
    Calls Tryz.prog 116 #[.string s] w fun e w' => ∃ N, e = .returned (.tuple #[.int .i64 (0), .iface 225 (.pointer (some ⟨N, 0, none⟩))]) ∧ w.heap.size ≤ N ∧ w'.heap[N]? = some (.cells #[.string ⟨#[65, 116, 111, 105]⟩, .string s, ev] 258 (0, 0)) ∧ Below w.heap.size w w' := Any.strconv_Atoi_syntax Tryz.laysC172 s hlim h ev w hv hev
open Go.RowKit in
/-- strconv.Atoi, AT EVERY NUMERAL THAT NO int HOLDS ('.range'): THE GREATEST OR THE LEAST int, BY THE SIGN ('Lib.atoiSat'), AND AN ERROR THAT IS NOT nil: a *NumError in a new block N: {Func: "Atoi", Num: s's bytes, Err: what the variable ErrRange holds}. Of what was there nothing has turned. (LAID: no walk: one application.) -/
theorem Tryz.strconv_Atoi_range (s : ByteArray) (hlim : s.size ≤ 281474976710656) (h : Lib.atoiAll s.data.toList = .range) (ev : Value) (w : World) (hv : w.cell? ⟨3, 0, none⟩ = some ev) (hev : ev = .nilIface ∨ ∃ te pe, ev = .iface te pe) :
    Calls Tryz.prog 116 #[.string s] w fun e w' => ∃ N, e = .returned (.tuple #[.int .i64 (Lib.atoiSat s.data.toList), .iface 225 (.pointer (some ⟨N, 0, none⟩))]) ∧ w.heap.size ≤ N ∧ w'.heap[N]? = some (.cells #[.string ⟨#[65, 116, 111, 105]⟩, .string s, ev] 258 (0, 0)) ∧ Below w.heap.size w w' := Any.strconv_Atoi_range Tryz.laysC172 s hlim h ev w hv hev
def Tryz.lays197_ren : Go.Shelf.Ren := ⟨fun | 197 => 181 | 260 => 205 | n => n, fun | 9 => 9 | 21 => 21 | 3 => 3 | 4 => 4 | 5 => 5 | 105 => 228 | 119 => 242 | 0 => 0 | 46 => 194 | 139 => 245 | 138 => 244 | n => n, fun | 3 => 0 | 4 => 1 | n => n⟩
theorem Tryz.lays197 : Go.Proofs.Lays.n197 Tryz.prog Tryz.lays197_ren := {
  mixed := by kernel_rfl
  f197 := Tryz.func181.trans (congrArg some (by kernel_rfl))
  f260 := Tryz.func205.trans (congrArg some (by kernel_rfl))
  t0 := Tryz.underlying0
  a0 := Tryz.isAgg0
  z0 := Tryz.sizeOf0
  v0 := Tryz.zeroValue0
  t3 := Tryz.underlying3
  a3 := Tryz.isAgg3
  z3 := Tryz.sizeOf3
  v3 := Tryz.zeroValue3
  t4 := Tryz.underlying4
  a4 := Tryz.isAgg4
  z4 := Tryz.sizeOf4
  v4 := Tryz.zeroValue4
  t5 := Tryz.underlying5
  a5 := Tryz.isAgg5
  z5 := Tryz.sizeOf5
  v5 := Tryz.zeroValue5
  t9 := Tryz.underlying9
  a9 := Tryz.isAgg9
  z9 := Tryz.sizeOf9
  v9 := Tryz.zeroValue9
  t21 := Tryz.underlying21
  a21 := Tryz.isAgg21
  z21 := Tryz.sizeOf21
  v21 := Tryz.zeroValue21
  t46 := Tryz.underlying194
  a46 := Tryz.isAgg194
  z46 := Tryz.sizeOf194
  v46 := Tryz.zeroValue194
  t105 := Tryz.underlying228
  a105 := Tryz.isAgg228
  z105 := Tryz.sizeOf228
  v105 := Tryz.zeroValue228
  t119 := Tryz.underlying242
  a119 := Tryz.isAgg242
  z119 := Tryz.sizeOf242
  t138 := Tryz.underlying244
  a138 := Tryz.isAgg244
  z138 := Tryz.sizeOf244
  v138 := Tryz.zeroValue244
  t139 := Tryz.underlying245
  a139 := Tryz.isAgg245
  z139 := Tryz.sizeOf245
  v139 := Tryz.zeroValue245
  g3 := by kernel_rfl
  g4 := by kernel_rfl }
open Go.RowKit Go.Lib in
/-- **unicode/utf8.DecodeRuneInString AT EVERY STRING.** (LAID: no walk: one application.) -/
theorem Tryz.utf8_DecodeRuneInString (s : ByteArray) (w : World) (hT : Lib.Utf8Tabs 0 1 w) :
    Calls Tryz.prog 181 #[.string s] w fun e w' => e = .returned (.tuple #[.int .i32 (Lib.decodeGo s).1, .int .i64 (Lib.decodeGo s).2]) ∧ Below w.heap.size w w' := Any.utf8_DecodeRuneInString Tryz.lays197 s w hT
def Tryz.laysNm237_ren : Go.Shelf.Ren := ⟨fun | 37 => 175 | n => n, fun | 3 => 3 | 4 => 4 | n => n, fun | n => n⟩
theorem Tryz.laysNm237 : Go.Proofs.Lays2.n37 Tryz.prog Tryz.laysNm237_ren := {
  mixed := by kernel_rfl
  f37 := Tryz.func175.trans (congrArg some (by kernel_rfl))
  t3 := Tryz.underlying3
  a3 := Tryz.isAgg3
  z3 := Tryz.sizeOf3
  v3 := Tryz.zeroValue3
  t4 := Tryz.underlying4
  a4 := Tryz.isAgg4
  z4 := Tryz.sizeOf4
  v4 := Tryz.zeroValue4 }
open Go.RowKit Go.Lib in
/-- cmp.isNaN[int]: 'x != x': false. (LAID: no walk: one application.) -/
theorem Tryz.cmp_isNaN_int2 (x : Int) (w : World) :
    Calls Tryz.prog 175 #[.int .i64 x] w fun e w' => e = .returned (.bool false) ∧ w' = w := Any.cmp_isNaN_int2 Tryz.laysNm237 x w
def Tryz.laysValid_ren : Go.Shelf.Ren := ⟨fun | 196 => 170 | 259 => 191 | n => n, fun | 9 => 9 | 4 => 4 | 3 => 3 | 5 => 5 | 12 => 12 | 119 => 242 | 0 => 0 | 46 => 194 | 139 => 245 | 138 => 244 | 53 => 235 | n => n, fun | 3 => 0 | 4 => 1 | n => n⟩
theorem Tryz.laysValid : Go.Proofs.Lays.n196 Tryz.prog Tryz.laysValid_ren := {
  mixed := by kernel_rfl
  f196 := Tryz.func170.trans (congrArg some (by kernel_rfl))
  f259 := Tryz.func191.trans (congrArg some (by kernel_rfl))
  t0 := Tryz.underlying0
  a0 := Tryz.isAgg0
  z0 := Tryz.sizeOf0
  v0 := Tryz.zeroValue0
  t3 := Tryz.underlying3
  a3 := Tryz.isAgg3
  z3 := Tryz.sizeOf3
  v3 := Tryz.zeroValue3
  t4 := Tryz.underlying4
  a4 := Tryz.isAgg4
  z4 := Tryz.sizeOf4
  v4 := Tryz.zeroValue4
  t5 := Tryz.underlying5
  a5 := Tryz.isAgg5
  z5 := Tryz.sizeOf5
  v5 := Tryz.zeroValue5
  t9 := Tryz.underlying9
  a9 := Tryz.isAgg9
  z9 := Tryz.sizeOf9
  v9 := Tryz.zeroValue9
  t12 := Tryz.underlying12
  a12 := Tryz.isAgg12
  z12 := Tryz.sizeOf12
  v12 := Tryz.zeroValue12
  t46 := Tryz.underlying194
  a46 := Tryz.isAgg194
  z46 := Tryz.sizeOf194
  v46 := Tryz.zeroValue194
  t53 := Tryz.underlying235
  a53 := Tryz.isAgg235
  z53 := Tryz.sizeOf235
  v53 := Tryz.zeroValue235
  t119 := Tryz.underlying242
  a119 := Tryz.isAgg242
  z119 := Tryz.sizeOf242
  t138 := Tryz.underlying244
  a138 := Tryz.isAgg244
  z138 := Tryz.sizeOf244
  v138 := Tryz.zeroValue244
  t139 := Tryz.underlying245
  a139 := Tryz.isAgg245
  z139 := Tryz.sizeOf245
  v139 := Tryz.zeroValue245
  g3 := by kernel_rfl
  g4 := by kernel_rfl }
def Tryz.sortP_ren : Go.Shelf.Ren := ⟨fun | 6 => 146 | 15 => 173 | 14 => 172 | 28 => 200 | 29 => 201 | 20 => 192 | 21 => 193 | 22 => 194 | 23 => 195 | 24 => 196 | 25 => 197 | 26 => 198 | 27 => 199 | 46 => 215 | 47 => 216 | 48 => 217 | 49 => 218 | 50 => 219 | 57 => 226 | n => n, fun | 22 => 162 | 24 => 166 | 25 => 208 | 3 => 3 | 39 => 194 | 0 => 0 | 53 => 240 | 55 => 235 | 4 => 4 | 46 => 249 | 45 => 248 | 50 => 130 | 5 => 5 | 9 => 9 | 66 => 268 | 70 => 272 | 76 => 282 | 77 => 283 | n => n, fun | n => n⟩
theorem Tryz.sortP : Go.Proofs.SlLaysF0.n6 Tryz.prog Tryz.sortP_ren := {
  mixed := by kernel_rfl
  f6 := ⟨Tryz.f146.name, by decide, Tryz.func146.trans (congrArg some (by kernel_rfl))⟩
  f14 := ⟨Tryz.f172.name, by decide, Tryz.func172.trans (congrArg some (by kernel_rfl))⟩
  f15 := Tryz.func173.trans (congrArg some (by kernel_rfl))
  f20 := ⟨Tryz.f192.name, by decide, Tryz.func192.trans (congrArg some (by kernel_rfl))⟩
  f21 := ⟨Tryz.f193.name, by decide, Tryz.func193.trans (congrArg some (by kernel_rfl))⟩
  f22 := ⟨Tryz.f194.name, by decide, Tryz.func194.trans (congrArg some (by kernel_rfl))⟩
  f23 := ⟨Tryz.f195.name, by decide, Tryz.func195.trans (congrArg some (by kernel_rfl))⟩
  f24 := ⟨Tryz.f196.name, by decide, Tryz.func196.trans (congrArg some (by kernel_rfl))⟩
  f25 := ⟨Tryz.f197.name, by decide, Tryz.func197.trans (congrArg some (by kernel_rfl))⟩
  f26 := ⟨Tryz.f198.name, by decide, Tryz.func198.trans (congrArg some (by kernel_rfl))⟩
  f27 := ⟨Tryz.f199.name, by decide, Tryz.func199.trans (congrArg some (by kernel_rfl))⟩
  f28 := Tryz.func200.trans (congrArg some (by kernel_rfl))
  f29 := Tryz.func201.trans (congrArg some (by kernel_rfl))
  f46 := ⟨Tryz.f215.name, by decide, Tryz.func215.trans (congrArg some (by kernel_rfl))⟩
  f47 := Tryz.func216.trans (congrArg some (by kernel_rfl))
  f48 := Tryz.func217.trans (congrArg some (by kernel_rfl))
  f49 := ⟨Tryz.f218.name, by decide, Tryz.func218.trans (congrArg some (by kernel_rfl))⟩
  f50 := ⟨Tryz.f219.name, by decide, Tryz.func219.trans (congrArg some (by kernel_rfl))⟩
  f57 := ⟨Tryz.f226.name, by decide, Tryz.func226.trans (congrArg some (by kernel_rfl))⟩
  t0 := Tryz.underlying0
  a0 := Tryz.isAgg0
  z0 := Tryz.sizeOf0
  v0 := Tryz.zeroValue0
  t3 := Tryz.underlying3
  a3 := Tryz.isAgg3
  z3 := Tryz.sizeOf3
  v3 := Tryz.zeroValue3
  t4 := Tryz.underlying4
  a4 := Tryz.isAgg4
  z4 := Tryz.sizeOf4
  v4 := Tryz.zeroValue4
  t5 := Tryz.underlying5
  a5 := Tryz.isAgg5
  z5 := Tryz.sizeOf5
  v5 := Tryz.zeroValue5
  t9 := Tryz.underlying9
  a9 := Tryz.isAgg9
  z9 := Tryz.sizeOf9
  v9 := Tryz.zeroValue9
  t22 := Tryz.underlying162
  a22 := Tryz.isAgg162
  z22 := Tryz.sizeOf162
  v22 := Tryz.zeroValue162
  t25 := Tryz.underlying208
  a25 := Tryz.isAgg208
  z25 := Tryz.sizeOf208
  v25 := Tryz.zeroValue208
  t39 := Tryz.underlying194
  a39 := Tryz.isAgg194
  z39 := Tryz.sizeOf194
  v39 := Tryz.zeroValue194
  t45 := Tryz.underlying248
  a45 := Tryz.isAgg248
  z45 := Tryz.sizeOf248
  v45 := Tryz.zeroValue248
  t46 := Tryz.underlying249
  a46 := Tryz.isAgg249
  z46 := Tryz.sizeOf249
  v46 := Tryz.zeroValue249
  t50 := Tryz.underlying130
  a50 := Tryz.isAgg130
  z50 := Tryz.sizeOf130
  v50 := Tryz.zeroValue130
  t53 := Tryz.underlying240
  a53 := Tryz.isAgg240
  z53 := Tryz.sizeOf240
  v53 := Tryz.zeroValue240
  t55 := Tryz.underlying235
  a55 := Tryz.isAgg235
  z55 := Tryz.sizeOf235
  v55 := Tryz.zeroValue235
  t66 := Tryz.underlying268
  a66 := Tryz.isAgg268
  z66 := Tryz.sizeOf268
  v66 := Tryz.zeroValue268
  t70 := Tryz.underlying272
  a70 := Tryz.isAgg272
  z70 := Tryz.sizeOf272
  v70 := Tryz.zeroValue272
  t76 := Tryz.underlying282
  a76 := Tryz.isAgg282
  z76 := Tryz.sizeOf282
  v76 := Tryz.zeroValue282
  t77 := Tryz.underlying283
  a77 := Tryz.isAgg283
  z77 := Tryz.sizeOf283
  v77 := Tryz.zeroValue283 }
end Go.Proofs
end
section
namespace Go.Ab
open Go Go.Proofs Go.RowKit Go.Shelf Go.Lib Go.Sort
open Go.Ch
set_option linter.unusedVariables false
set_option linter.unusedSimpArgs false

set_option maxHeartbeats 4000000 in
theorem compare_w (x y : Int) (W : World) : Calls Tryz.prog 150 #[.int .i64 x, .int .i64 y] W fun e w' => e = .returned (.int .i64 (cmpI x y)) ∧ w' = W := by
  have hcon := fun z W' => Tryz.cmp_isNaN_int2 z W'
  unfold cmpI
  by_cases h1 : x < y
  · rw [if_pos h1]
    go_enter Tryz.func150, Tryz.ntmps150
    go_wp2_with (go_at_call 175; refine (hcon _ _).mono ?_; rintro e w' ⟨rfl, rfl⟩)
    go_ret
    exact ⟨rfl, rfl⟩
  · rw [if_neg h1]
    by_cases h2 : x > y
    · rw [if_pos h2]
      go_enter Tryz.func150, Tryz.ntmps150
      go_wp2_with (go_at_call 175; refine (hcon _ _).mono ?_; rintro e w' ⟨rfl, rfl⟩)
      go_ret
      exact ⟨rfl, rfl⟩
    · rw [if_neg h2]
      go_enter Tryz.func150, Tryz.ntmps150
      go_wp2_with (go_at_call 175; refine (hcon _ _).mono ?_; rintro e w' ⟨rfl, rfl⟩)
      go_ret
      exact ⟨rfl, rfl⟩

set_option maxHeartbeats 8000000 in
theorem or_w (u v : Int) (B cap : Nat) (W : World) (h0 : W.cell? ⟨B, 0, none⟩ = some (.int .i64 u)) (h1 : W.cell? ⟨B, 1, none⟩ = some (.int .i64 v)) :
    Calls Tryz.prog 148 #[.slice (some ⟨B, 0, none⟩) 2 cap] W fun e w' => e = .returned (.int .i64 (Go.Ch.orL [u, v])) ∧ w' = W := by
  by_cases hu : u = 0
  · by_cases hv : v = 0
    · subst hu hv
      go_enter Tryz.func148, Tryz.ntmps148
      go_wp2
      go_rounds 3
      go_ret
      exact ⟨rfl, rfl⟩
    · subst hu
      have e : Go.Ch.orL [0, v] = v := by simp [Go.Ch.orL, hv]
      rw [e]
      clear e
      go_enter Tryz.func148, Tryz.ntmps148
      go_wp2
      go_rounds 3
      go_ret
      exact ⟨rfl, rfl⟩
  · have e : Go.Ch.orL [u, v] = u := by simp [Go.Ch.orL, hu]
    rw [e]
    clear e
    go_enter Tryz.func148, Tryz.ntmps148
    go_wp2
    go_rounds 3
    go_ret
    exact ⟨rfl, rfl⟩

theorem alloc_cell (W : World) (c : Array Value) (t : TypeId) (o : Nat) : (W.alloc (.cells c t)).cell? ⟨W.heap.size, o, none⟩ = c[o]? := by
  have h : (W.alloc (.cells c t)).heap[W.heap.size]? = some (.cells c t) := by (rw [alloc_eq_grow]; show (W.heap ++ #[.cells c t])[W.heap.size]? = _; simp)
  unfold World.cell?
  simp only [h]
  rfl
def cmpS (x y : ByteArray) : Int := if Op.bytesLess x.toList y.toList = true then -1 else if (x.toList == y.toList) = true then 0 else 1
theorem isNaN_w (x : ByteArray) (W : World) : Calls Tryz.prog 174 #[.string x] W fun e w' => e = .returned (.bool false) ∧ w' = W := by
  go_enter Tryz.func174, Tryz.ntmps174
  go_wp2
  go_ret
  exact ⟨by simp, rfl⟩
set_option maxHeartbeats 4000000 in
theorem compareS_w (x y : ByteArray) (W : World) : Calls Tryz.prog 149 #[.string x, .string y] W fun e w' => e = .returned (.int .i64 (cmpS x y)) ∧ w' = W := by
  have hcon := fun z W' => isNaN_w z W'
  unfold cmpS
  cases h1 : Op.bytesLess x.toList y.toList with
  | true =>
    rw [if_pos rfl]
    go_enter Tryz.func149, Tryz.ntmps149
    go_wp2_with (go_at_call 174; refine (hcon _ _).mono ?_; rintro e w' ⟨rfl, rfl⟩)
    go_ret
    exact ⟨rfl, rfl⟩
  | false =>
    rw [if_neg (by decide)]
    cases h2 : (x.toList == y.toList) with
    | true =>
      rw [if_pos rfl]
      go_enter Tryz.func149, Tryz.ntmps149
      go_wp2_with (go_at_call 174; refine (hcon _ _).mono ?_; rintro e w' ⟨rfl, rfl⟩)
      go_ret
      exact ⟨rfl, rfl⟩
    | false =>
      rw [if_neg (by decide)]
      go_enter Tryz.func149, Tryz.ntmps149
      go_wp2_with (go_at_call 174; refine (hcon _ _).mono ?_; rintro e w' ⟨rfl, rfl⟩)
      go_ret
      exact ⟨rfl, rfl⟩
/-- An item, its attributes as the value that stands for them. -/
abbrev CIt := DItem × {v : Value // v.oneCell' = true}
def encD (p : CIt) : List Value := [.int .i64 p.1.item, .int .i64 p.1.parent, .string p.1.place, p.2.1]
def cmpP (a b : DItem) : Int := Go.Ch.orL [cmpS a.place b.place, cmpI a.item b.item]
def cmpN (a b : DItem) : Int := cmpI a.item b.item
set_option maxRecDepth 1000000 in
set_option maxHeartbeats 8000000 in
theorem raw1_w (x y : CIt) (W : World) : Calls Tryz.prog 147 #[.agg (encD x).toArray, .agg (encD y).toArray] W fun e w' => e = .returned (.int .i64 (cmpP x.1 y.1)) ∧ ∃ q os', w' = grow (W.drewN q) os' := by
  have hcmp := fun a b W' => compare_w a b W'
  have hcms := fun a b W' => compareS_w a b W'
  obtain ⟨x, vx, hvx⟩ := x
  obtain ⟨y, vy, hvy⟩ := y
  unfold encD cmpP
  simp only
  generalize x.item = x1
  generalize x.parent = x2
  generalize x.place = x3
  generalize y.item = y1
  generalize y.parent = y2
  generalize y.place = y3
  go_enter Tryz.func147, Tryz.ntmps147
  go_wp2
  obtain ⟨OA, hA⟩ : ∃ o, Obj.cells #[Value.int .i64 x1, .int .i64 x2, .string x3, vx] 166 = o := ⟨_, rfl⟩
  obtain ⟨OB, hB⟩ : ∃ o, Obj.cells #[Value.int .i64 y1, .int .i64 y2, .string y3, vy] 166 = o := ⟨_, rfl⟩
  rw [hA, hB]
  refine wp_region_still_tail 10 (by kernel_rfl) (by kernel_rfl) ?_
  obtain ⟨W3, hW3⟩ : ∃ V, ((W.alloc OA).alloc OB).drew = V := ⟨_, rfl⟩
  have hg : W3 = grow (W.drewN 1) #[OA, OB] := by rw [← hW3, alloc_eq_grow, alloc_eq_grow, grow_grow]; rfl
  have p1 : W3.heap[W.heap.size]? = some OA := by rw [hg]; show (W.heap ++ #[OA, OB])[W.heap.size]? = _; simp
  have p2 : W3.heap[W.heap.size + 1]? = some OB := by rw [hg]; show (W.heap ++ #[OA, OB])[W.heap.size + 1]? = _; simp
  have c1 : W3.cell? ⟨W.heap.size, 0, none⟩ = some (.int .i64 x1) := by unfold World.cell?; simp only [p1]; rw [← hA]; rfl
  have c2 : W3.cell? ⟨W.heap.size, 2, none⟩ = some (.string x3) := by unfold World.cell?; simp only [p1]; rw [← hA]; rfl
  have c3 : W3.cell? ⟨W.heap.size + 1, 0, none⟩ = some (.int .i64 y1) := by unfold World.cell?; simp only [p2]; rw [← hB]; rfl
  have c4 : W3.cell? ⟨W.heap.size + 1, 2, none⟩ = some (.string y3) := by unfold World.cell?; simp only [p2]; rw [← hB]; rfl
  clear p1 p2
  have hx : ∃ q os, W3 = grow (W.drewN q) os := ⟨1, _, hg⟩
  clear hg
  change wpStill _ _ ((W.alloc OA).alloc OB).drew (fun a' => wpList _ _ _ _ a' ((W.alloc OA).alloc OB).drew) _ _
  rw [hW3]
  clear hW3 hA hB
  simp only [List.take_succ_cons, List.take_zero, List.drop_succ_cons, List.drop_zero]
  repeat still_step
  still_call (hcms _ _ _)
  repeat still_step
  still_call (hcmp _ _ _)
  refine wpStill_nil ?_
  have hor : ∀ u v : Int, Calls Tryz.prog 148 #[.slice (some ⟨W3.heap.size, 0, none⟩) 2 2] (W3.alloc (.cells #[.int .i64 u, .int .i64 v] 3)) fun e w' => e = .returned (.int .i64 (Go.Ch.orL [u, v])) ∧ w' = W3.alloc (.cells #[.int .i64 u, .int .i64 v] 3) := fun u v =>
    or_w u v _ _ _ (alloc_cell _ _ _ 0) (alloc_cell _ _ _ 1)
  clear hcmp hcms c1 c2 c3 c4
  go_wp2_with (go_at_call 148; refine (hor _ _).mono ?_; rintro e w' ⟨rfl, rfl⟩)
  clear hor
  go_ret
  obtain ⟨q, os, rfl⟩ := hx
  exact ⟨rfl, q, _, by rw [alloc_eq_grow, grow_grow]⟩
set_option maxRecDepth 1000000 in
set_option maxHeartbeats 8000000 in
theorem raw3_w (x y : CIt) (W : World) : Calls Tryz.prog 151 #[.agg (encD x).toArray, .agg (encD y).toArray] W fun e w' => e = .returned (.int .i64 (cmpN x.1 y.1)) ∧ ∃ q os', w' = grow (W.drewN q) os' := by
  have hcmp := fun a b W' => compare_w a b W'
  obtain ⟨x, vx, hvx⟩ := x
  obtain ⟨y, vy, hvy⟩ := y
  unfold encD cmpN
  simp only
  generalize x.item = x1
  generalize x.parent = x2
  generalize x.place = x3
  generalize y.item = y1
  generalize y.parent = y2
  generalize y.place = y3
  go_enter Tryz.func151, Tryz.ntmps151
  go_wp2_with (go_at_call 150; refine (hcmp _ _ _).mono ?_; rintro e w' ⟨rfl, rfl⟩)
  go_ret
  exact ⟨rfl, 0, #[_, _], by rw [alloc_eq_grow, alloc_eq_grow, grow_grow]; rfl⟩
end Go.Ab
end
section
set_option linter.unusedVariables false
set_option linter.unusedSimpArgs false
namespace Go.Ch
open Go Go.Proofs Go.Ab Go.RowKit Go.Shelf Go.Sort

theorem grow_obj {P : Program} {F : Fen P} {S : Store} {m : Ab.Place} {w : World} (hS : SRel F S m w) (os : Array Obj) : SRel F S m (grow w os) ∧ FrameExt F S m w S m (grow w os) := by
  have hg : ∀ b, b < w.heap.size → (grow w os).heap[b]? = w.heap[b]? := fun b hb => by
    show (w.heap ++ os)[b]? = _
    rw [Array.getElem?_append_left hb]
  have hF : FrameExt F S m w S m (grow w os) := ⟨rfl, rfl, rfl, by show w.heap.size ≤ (w.heap ++ os).size; simp, fun b hb _ => hg b hb, fun id o h => ⟨o, h, Nat.le_refl _, fun _ => rfl, fun h => h, fun _ q => .inl q, o.same_refl⟩, fun id o h hn => by rw [h] at hn; cases hn⟩
  exact ⟨⟨fun id o h => (hS.objs id o h).persist hF (fun b hb => hg b (hS.lt id o b h hb)), hS.inj, hS.avoid, fun id o b h hb => Nat.lt_of_lt_of_le (hS.lt id o b h hb) hF.size, fun b hb => Nat.lt_of_lt_of_le (hS.low b hb) hF.size, hS.held hF⟩, hF⟩
theorem upd_app (o o' : Ob) : upd (app emp [(0, o)]) 0 o' = app emp [(0, o')] := by
  funext i
  by_cases e : i = 0
  · subst e; rfl
  · rw [upd_ne e]
    show upd emp 0 o i = upd emp 0 o' i
    rw [upd_ne e, upd_ne e]
theorem mapB_at {w : World} {b : Nat} {c : Array Value} {e : TypeId} {fr : Nat × Nat} (f : Array Value → Array Value) (h : w.heap[b]? = some (.cells c e fr)) : (mapBlock w b f).heap[b]? = some (.cells (f c) e fr) := by
  unfold mapBlock
  simp only [Array.getElem?_modify, if_true, h]
  rfl
theorem mapB_ne {w : World} {b x : Nat} (f : Array Value → Array Value) (h : x ≠ b) : (mapBlock w b f).heap[x]? = w.heap[x]? := by
  unfold mapBlock
  simp only [Array.getElem?_modify]
  rw [if_neg (fun e => h e.symm)]
/-- Two lists in strict order with the same elements are one. -/
theorem perm_strict {α : Type} {R : α → α → Prop} (asym : ∀ a b, R a b → ¬ R b a) : ∀ {l l' : List α}, l.Perm l' → l.Pairwise R → l'.Pairwise R → l = l'
  | [], l', h, _, _ => (List.nil_perm.1 h).symm
  | a :: l, [], h, _, _ => by simp at h
  | a :: l, b :: l', h, h1, h2 => by
    have e : a = b := by
      have ha : a ∈ b :: l' := h.subset List.mem_cons_self
      have hb : b ∈ a :: l := h.symm.subset List.mem_cons_self
      rcases List.mem_cons.1 ha with e | ha
      · exact e
      · rcases List.mem_cons.1 hb with e | hb
        · exact e.symm
        · exact absurd ((List.pairwise_cons.1 h1).1 b hb) (asym _ _ ((List.pairwise_cons.1 h2).1 a ha))
    subst e
    rw [perm_strict asym (List.Perm.cons_inv h) (List.pairwise_cons.1 h1).2 (List.pairwise_cons.1 h2).2]
end Go.Ch
end
section
set_option linter.unusedVariables false
set_option linter.unusedSimpArgs false
set_option maxRecDepth 100000
namespace Go.Ch
open Go Go.Proofs Go.Ab Go.RowKit Go.Shelf Go.Sort

instance : Inhabited CIt := ⟨(default, ⟨.bool false, rfl⟩)⟩
theorem dit_elt {l : List DItem} : ∀ x ∈ l.map ditT, Elt 4 x := fun x hx => by
  obtain ⟨r, _, rfl⟩ := List.mem_map.1 hx
  exact ⟨rfl, fun T hT => by simp only [ditT, Tree.cells, List.mem_cons, List.not_mem_nil, or_false] at hT; rcases hT with rfl | rfl | rfl | rfl <;> rfl⟩
theorem flat_dit (l : List DItem) (t : Nat) (ht : t < l.length * 4) : (flat (l.map ditT))[t]? = (ditT (l[t / 4]'(by omega))).cells[t % 4]? := by
  have hi : t / 4 < l.length := by omega
  have h1 := flat_get (k := 4) (xs := l.map ditT) (i := t / 4) (X := ditT l[t / 4]) dit_elt (by rw [List.getElem?_map, List.getElem?_eq_getElem hi]; rfl) (j := t % 4) (by omega)
  rwa [show t / 4 * 4 + t % 4 = t by omega] at h1
theorem fc_sortD (g : Nat) (cm : DItem → DItem → Int) (hg : ∀ args w, (callFunc g args).run Tryz.prog w = .ok (.enter g args) w)
    (hw : ∀ (x y : CIt) (W : World), Calls Tryz.prog g #[.agg (encD x).toArray, .agg (encD y).toArray] W fun e w' => e = .returned (.int .i64 (cm x.1 y.1)) ∧ ∃ q os', w' = grow (W.drewN q) os')
    (hO : SWO (ltOf fun x y : CIt => cm x.1 y.1)) (asym : ∀ a b, cm a b < 0 → ¬ cm b a < 0) (tot : ∀ a b, a.item ≠ b.item → ¬ cm b a < 0 → cm a b < 0)
    (l l' : List DItem) (hn : l.length ≤ 100000000000) (hu : UniqI DItem.item l) (hp : l'.Perm l) (hs : l'.Pairwise fun a b => cm a b < 0) :
    FC Tryz.prog 146 [.row 0 l.length, .fn g []] (app emp [(0, .row 4 false (l.map ditT))]) (.tup []) (app emp [(0, .row 4 false (l'.map ditT))]) := by
  intro F m w xs hS hl hv
  match xs, hl with
  | [x0, x1], _ =>
  have v0 := hv 0 _ _ rfl rfl
  have v1 := hv 1 _ _ rfl rfl
  have hs0 : app emp [(0, Ob.row 4 false (l.map ditT))] 0 = some (.row 4 false (l.map ditT)) := rfl
  obtain ⟨a1, a2, a3, a4, a5⟩ := hS.objs 0 _ hs0
  have hlen := hp.length_eq
  cases v1 with
  | fn _ _ us hlu _ =>
  obtain rfl : us = [] := List.length_eq_zero_iff.1 hlu
  cases v0 with
  | rowG _ _ L hs' => rw [hs0] at hs'; cases hs'
  | row _ _ k' fz' xs' L hs' hn' hu' =>
  rw [hs0] at hs'; cases hs'
  have hL := hu' (by simp)
  rw [hL] at a3 a4 a5
  rcases a5 with ⟨q1, q2⟩ | ⟨b, us, e, h1, h2, h3, h4, h5⟩
  · obtain ⟨L1, L2⟩ := L
    simp only at q1 q2
    subst q1 q2
    obtain rfl : l = [] := List.length_eq_zero_iff.1 (by have a3' : (List.map ditT l).length ≤ 0 := a3; rw [List.length_map] at a3'; omega)
    obtain rfl : l' = [] := List.length_eq_zero_iff.1 hlen
    have key := AnyF.slices_SortFunc_none Tryz.sortP none 0 (.func (.func g) #[] #[]) w
    change Calls Tryz.prog 146 _ _ _ at key
    refine key.mono ?_
    rintro e' w' ⟨rfl, rfl⟩
    exact ⟨_, m, rfl, hS, FrameExt.refl F _ m _, .tup [] [] rfl (fun i v u hv => by simp at hv)⟩
  · have hb : b < w.heap.size := (Array.getElem?_eq_some_iff.1 h2).1
    have hsz : l.length * 4 ≤ us.size := by rw [h3]; simp at a3; omega
    have hcell : ∀ (W : World) (c : Array Value) (o : Nat), W.heap[b]? = some (.cells c e (0, 0)) → W.cell? ⟨b, o, none⟩ = c[o]? := fun W c o h => by
      unfold World.cell?; simp only [h]; rfl
    -- the elements with what stands for their attributes
    let cl : List CIt := List.ofFn (n := l.length) fun i => (l[i.1], ⟨us[i.1 * 4 + 3]'(by have := i.2; omega), h4 _ _ (Array.getElem?_eq_getElem (by have := i.2; omega))⟩)
    have hcl : cl.length = l.length := by simp [cl]
    have hci : ∀ (i : Nat) (hi : i < cl.length), cl[i] = (l[i]'(by omega), ⟨us[i * 4 + 3]'(by omega), h4 _ _ (Array.getElem?_eq_getElem (by omega))⟩) := fun i hi => by simp [cl]
    have hmap : cl.map (·.1) = l := by
      apply List.ext_getElem (by simp [hcl])
      intro i h1 h2
      rw [List.getElem_map, hci i (by omega)]
    have hcu : ∀ (j : Nat), (hj : j < l.length * 4) → us[j]? = some ((encD (cl[j / 4]'(by omega)))[j % 4]!) := fun j hj => by
      have hT := flat_dit l j hj
      have hu : us[j]? = some us[j] := Array.getElem?_eq_getElem (by omega)
      rw [hu, hci (j / 4) (by omega)]
      have h4 : j % 4 = 0 ∨ j % 4 = 1 ∨ j % 4 = 2 ∨ j % 4 = 3 := by omega
      rcases h4 with h | h | h | h
      · rw [h] at hT ⊢; have := h5 j _ _ hT hu
        generalize us[j] = u at *
        cases this; rfl
      · rw [h] at hT ⊢; have := h5 j _ _ hT hu
        generalize us[j] = u at *
        cases this; rfl
      · rw [h] at hT ⊢; have := h5 j _ _ hT hu
        generalize us[j] = u at *
        cases this; rfl
      · rw [h]
        have e : j / 4 * 4 + 3 = j := by omega
        simp only [encD, e]; rfl
    have hat : ∀ p ∈ cl, TRep w (okB F (app emp [(0, Ob.row 4 false (l.map ditT))]) m w) (TL 2 attrT p.1.attrs) p.2.1 := fun p hp => by
      obtain ⟨i, hi, rfl⟩ := List.mem_iff_getElem.1 hp
      rw [hci i hi]
      have hT := flat_dit l (i * 4 + 3) (by omega)
      have e1 : (i * 4 + 3) / 4 = i := by omega
      have e2 : (i * 4 + 3) % 4 = 3 := by omega
      simp only [e1, e2] at hT
      exact h5 (i * 4 + 3) _ _ hT (Array.getElem?_eq_getElem (by omega))
    have hH : HoldsK encD 4 w b 0 cl.toArray := fun j hj => by
      rw [size_flatK] at hj
      have hj' : j < l.length * 4 := by simpa [hcl] using hj
      refine ⟨?_, ?_⟩
      · rw [hcell w us _ h2, Nat.zero_add, hcu j hj', get_flatK encD 4 cl.toArray j hj]
        rw [getElem!_pos cl.toArray (j / 4) (by simp [hcl]; omega)]
        simp
      · unfold World.frozen?; simp only [h2]; simp
    have key := AnyQ.slices_SortFunc (α := CIt) Tryz.sortP 4 Tryz.isAgg166 Tryz.sizeOf166 encD (fun _ => rfl) (fun x v hv => by
        simp only [encD, List.mem_cons, List.not_mem_nil, or_false] at hv; rcases hv with rfl | rfl | rfl | rfl; rfl; rfl; rfl; exact x.2.2) (fun x y => cm x.1 y.1) hO g #[] b 0 L.2 cl.toArray w hg
      (fun m' os' dk _ x y => hw x y _) hH hb (by simp [hcl]; omega)
    change Calls Tryz.prog 146 _ _ _ at key
    obtain ⟨L1, L2⟩ := L
    simp only at h1
    subst h1
    have ea : (#[Value.slice (some ⟨b, 0, none⟩) cl.toArray.size L2, .func (.func g) #[] #[]] : Array Value) = [rowVal (some b, L2) l.length, .func (.func g) #[] [].toArray].toArray := by simp [rowVal, hcl]
    rw [ea] at key
    refine key.mono ?_
    rintro e' w' ⟨rfl, D, n, os, hpi, hso, rfl⟩
    unfold sortWorldK
    obtain ⟨p1, p2, p3⟩ := hpi
    have hDp : D.toList.Perm cl := by
      have e1 : D.extract 0 cl.toArray.size = D := by rw [← p1]; exact Array.extract_size
      rw [e1, show cl.toArray.extract 0 cl.toArray.size = cl.toArray from Array.extract_size] at p3
      simpa using p3
    have hDl : D.toList.map (·.1) = l' := by
      refine perm_strict (R := fun a b => cm a b < 0) asym ((hDp.map _).trans (by rw [hmap]; exact hp.symm)) ?_ hs
      rw [List.pairwise_map, List.pairwise_iff_getElem]
      intro i j hi hj hij
      have hDs : D.size = cl.length := by simpa using p1
      have := hso i j (Nat.zero_le _) hij (by rw [← p1]; simpa using hj)
      unfold ltOf at this
      rw [getElem!_pos D i (by simpa using hi), getElem!_pos D j (by simpa using hj)] at this
      simp only [decide_eq_false_iff_not] at this
      have hne : (D.toList[i]).1.item ≠ (D.toList[j]).1.item := by
        have hnd : (D.toList.map fun p => p.1.item).Nodup := by
          have := (hDp.map fun p : CIt => p.1.item).nodup_iff.2 (by have h : cl.map (fun p => p.1.item) = l.map DItem.item := by rw [← hmap, List.map_map]; rfl
                                                                    rw [h]; exact hu)
          exact this
        intro he
        have := (List.getElem_inj (i := i) (j := j) (h₀ := by simpa using hi) (h₁ := by simpa using hj) hnd).1 (by simpa using he)
        omega
      exact tot _ _ hne (by simpa using this)
    have hDn : D.size = l'.length := by rw [← hDl]; simp
    have hblk : (putRowK encD 4 (Sort.ahead w n) b 0 D).heap[b]? = some (.cells (putCells id 0 (flatK encD 4 D) us) e (0, 0)) := mapB_at _ h2
    have hDi : ∀ (i : Nat) (hi : i < D.size), D[i].1 = l'[i]'(by omega) := fun i hi => by
      have : (D.toList.map (·.1))[i]'(by simpa using hi) = l'[i]'(by omega) := by simp only [hDl]
      simpa using this
    have hone : ∀ j, j < D.size * 4 → ((flatK encD 4 D)[j]!).oneCell' = true := fun j hj => by
      rw [get_flatK encD 4 D j hj]
      have h4 : j % 4 = 0 ∨ j % 4 = 1 ∨ j % 4 = 2 ∨ j % 4 = 3 := by omega
      rcases h4 with h | h | h | h <;> rw [h]
      · rfl
      · rfl
      · rfl
      · exact (D[j / 4]!).2.2
    have hcu2 : ∀ (j : Nat) (u : Value), (putCells id 0 (flatK encD 4 D) us)[j]? = some u → (j < D.size * 4 ∧ u = (flatK encD 4 D)[j]!) ∨ (¬ j < D.size * 4 ∧ us[j]? = some u) := fun j u hu => by
      unfold putCells at hu
      rw [Array.getElem?_mapIdx, Option.map_eq_some_iff] at hu
      obtain ⟨x, hx, hxu⟩ := hu
      rw [size_flatK] at hxu
      split at hxu
      · rename_i hc
        exact .inl ⟨by omega, by rw [← hxu]; rfl⟩
      · rename_i hc
        exact .inr ⟨fun hj => hc ⟨Nat.zero_le _, by omega⟩, by rw [hx, hxu]⟩
    have r := rewrite_obj (o' := .row 4 false (l'.map ditT)) hS hs0 rfl (by rw [hL]) (w' := putRowK encD 4 (Sort.ahead w n) b 0 D) rfl rfl rfl
      (by show (w.heap.modify b _).size = _; simp) (fun c hc => mapB_ne (w := Sort.ahead w n) _ hc) (by simp only [Ob.len, List.length_map]; omega) (by simp [Ob.same]) (fun hF => by
        rw [hL]
        refine ⟨a1, dit_elt, by simp only [List.length_map] at a3 ⊢; omega, a4, .inr ⟨b, _, e, rfl, hblk, ?_, fun j u hu => ?_, fun j T u hT hu => ?_⟩⟩
        · unfold putCells; rw [Array.size_mapIdx]; exact h3
        · rcases hcu2 j u hu with ⟨hj, rfl⟩ | ⟨_, hu⟩
          · exact hone j hj
          · exact h4 j u hu
        · have hj : j < l'.length * 4 := by
            have := (List.getElem?_eq_some_iff.1 hT).1
            rw [flat_len dit_elt, List.length_map] at this; exact this
          rcases hcu2 j u hu with ⟨hj2, rfl⟩ | ⟨hno, _⟩
          · rw [flat_dit l' j hj] at hT
            rw [get_flatK encD 4 D j hj2, getElem!_pos D (j / 4) (by omega)]
            have hi := hDi (j / 4) (by omega)
            rw [← hi] at hT
            have h4 : j % 4 = 0 ∨ j % 4 = 1 ∨ j % 4 = 2 ∨ j % 4 = 3 := by omega
            rcases h4 with h | h | h | h <;> rw [h] at hT ⊢
            · cases hT; exact .sc _ rfl
            · cases hT; exact .sc _ rfl
            · cases hT; exact .sc _ rfl
            · cases hT
              exact hF.tree (hat _ (hDp.subset (by simp)))
          · exact absurd (by omega) hno)
    rw [upd_app] at r
    obtain ⟨g1, g2⟩ := grow_obj r.1 os
    exact ⟨_, m, rfl, g1, FrameExt.trans hS r.2 g2, .tup [] [] rfl (fun i v u hv => by simp at hv)⟩
end Go.Ch
end
section
set_option linter.unusedVariables false
set_option linter.unusedSimpArgs false
set_option maxRecDepth 100000
namespace Go.Ch
open Go Go.Ab
variable {α : Type}

def insO (lt : α → α → Bool) (x : α) : List α → List α
  | [] => [x]
  | y :: l => if lt x y then x :: y :: l else y :: insO lt x l
def srtO (lt : α → α → Bool) (l : List α) : List α := l.foldr (insO lt) []
theorem insO_perm (lt : α → α → Bool) (x : α) : ∀ l, (insO lt x l).Perm (x :: l)
  | [] => .refl _
  | y :: l => by
    simp only [insO]
    split
    · exact .refl _
    · exact ((insO_perm lt x l).cons y).trans (List.Perm.swap x y l)
theorem srtO_perm (lt : α → α → Bool) : ∀ l, (srtO lt l).Perm l
  | [] => .refl _
  | x :: l => (insO_perm lt x _).trans ((srtO_perm lt l).cons x)
theorem insO_sorted {lt : α → α → Bool} (tr : ∀ a b c, lt a b = true → lt b c = true → lt a c = true) {x : α} : ∀ {l : List α}, l.Pairwise (fun a b => lt a b = true) → (∀ y ∈ l, lt x y = true ∨ lt y x = true) → (insO lt x l).Pairwise fun a b => lt a b = true
  | [], _, _ => by simp [insO]
  | y :: l, h, ht => by
    simp only [insO]
    obtain ⟨h1, h2⟩ := List.pairwise_cons.1 h
    split
    · rename_i hx
      refine List.pairwise_cons.2 ⟨fun z hz => ?_, h⟩
      rcases List.mem_cons.1 hz with rfl | hz
      · exact hx
      · exact tr _ _ _ hx (h1 z hz)
    · rename_i hx
      refine List.pairwise_cons.2 ⟨fun z hz => ?_, insO_sorted tr h2 (fun z hz => ht z (List.mem_cons_of_mem _ hz))⟩
      rcases List.mem_cons.1 ((insO_perm lt x l).subset hz) with rfl | hz
      · exact (ht y List.mem_cons_self).resolve_left hx
      · exact h1 z hz
theorem srtO_sorted {lt : α → α → Bool} (tr : ∀ a b c, lt a b = true → lt b c = true → lt a c = true) : ∀ {l : List α}, l.Pairwise (fun a b => lt a b = true ∨ lt b a = true) → (srtO lt l).Pairwise fun a b => lt a b = true
  | [], _ => List.Pairwise.nil
  | x :: l, h => by
    obtain ⟨h1, h2⟩ := List.pairwise_cons.1 h
    exact insO_sorted tr (srtO_sorted tr h2) (fun y hy => h1 y ((srtO_perm lt l).subset hy))

/-! ### The two orders -/
def ltP (a b : DItem) : Bool := slt a.place b.place || (decide (a.place = b.place) && decide (a.item < b.item))
def ltN (a b : DItem) : Bool := decide (a.item < b.item)
theorem ltP_iff {a b : DItem} : ltP a b = true ↔ slt a.place b.place = true ∨ (a.place = b.place ∧ a.item < b.item) := by unfold ltP; simp
theorem ltP_trans (a b c : DItem) (h : ltP a b = true) (k : ltP b c = true) : ltP a c = true := by
  rw [ltP_iff] at *
  rcases h with h | ⟨h1, h2⟩ <;> rcases k with k | ⟨k1, k2⟩
  · exact .inl (slt_trans h k)
  · exact .inl (by rw [← k1]; exact h)
  · exact .inl (by rw [h1]; exact k)
  · exact .inr ⟨h1.trans k1, by omega⟩
theorem ltP_tot {a b : DItem} (h : a.item ≠ b.item) : ltP a b = true ∨ ltP b a = true := by
  rw [ltP_iff, ltP_iff]
  cases h1 : slt a.place b.place with
  | true => exact .inl (.inl rfl)
  | false =>
    cases h2 : slt b.place a.place with
    | true => exact .inr (.inl rfl)
    | false =>
      have := slt_tri h1 h2
      by_cases hlt : a.item < b.item
      · exact .inl (.inr ⟨this, hlt⟩)
      · exact .inr (.inr ⟨this.symm, by omega⟩)
theorem ltP_asym {a b : DItem} (h : ltP a b = true) : ¬ ltP b a = true := fun k => by
  have := ltP_trans a b a h k
  rw [ltP_iff] at this
  rcases this with h | ⟨_, h⟩
  · rw [slt_irr] at h; cases h
  · omega
theorem cmpS_def (x y : ByteArray) : cmpS x y = if slt x y = true then -1 else if seq x y = true then 0 else 1 := rfl
theorem cmpP_lt {a b : DItem} : cmpP a b < 0 ↔ ltP a b = true := by
  unfold cmpP
  rw [orL_two, cmpS_def, ltP_iff]
  unfold cmpI
  cases h1 : slt a.place b.place with
  | true => simp
  | false =>
    cases h2 : seq a.place b.place with
    | true =>
      rw [seq_iff] at h2
      simp only [h2, true_and]
      constructor
      · intro h; right; simp at h; split at h <;> (try split at h) <;> omega
      · rintro (h | h)
        · cases h
        · simp [h]
    | false =>
      have hne := seq_no.1 h2
      simp [hne]
theorem uniq_pair {l : List DItem} (hu : UniqI DItem.item l) {R : DItem → DItem → Prop} (h : ∀ a b, a.item ≠ b.item → R a b) : l.Pairwise R := by
  unfold UniqI at hu
  rw [List.nodup_iff_pairwise_ne, List.pairwise_map] at hu
  exact hu.imp (fun {a b} hab => h a b hab)
def srtP (l : List DItem) : List DItem := srtO ltP l
def srtN (l : List DItem) : List DItem := srtO ltN l
theorem srtP_sorted {l : List DItem} (hu : UniqI DItem.item l) : (srtP l).Pairwise fun a b => ltP a b = true := srtO_sorted ltP_trans (uniq_pair hu fun a b h => ltP_tot h)
theorem ltN_trans (a b c : DItem) (h : ltN a b = true) (k : ltN b c = true) : ltN a c = true := by unfold ltN at *; simp at *; omega
theorem srtN_sorted {l : List DItem} (hu : UniqI DItem.item l) : (srtN l).Pairwise fun a b => ltN a b = true := srtO_sorted ltN_trans (uniq_pair hu fun a b h => by unfold ltN; simp; omega)
theorem srtP_eq {l l' : List DItem} (h : l.Perm l') (hu : UniqI DItem.item l) : srtP l = srtP l' := by
  have hu' : UniqI DItem.item l' := by unfold UniqI at *; exact (h.map _).nodup_iff.1 hu
  exact perm_strict (R := fun a b => ltP a b = true) (fun a b => ltP_asym) (((srtO_perm ltP l).trans h).trans (srtO_perm ltP l').symm) (srtP_sorted hu) (srtP_sorted hu')
theorem srtN_eq {l l' : List DItem} (h : l.Perm l') (hu : UniqI DItem.item l) : srtN l = srtN l' := by
  have hu' : UniqI DItem.item l' := by unfold UniqI at *; exact (h.map _).nodup_iff.1 hu
  exact perm_strict (R := fun a b => ltN a b = true) (fun a b h k => by unfold ltN at h k; simp at h k; omega) (((srtO_perm ltN l).trans h).trans (srtO_perm ltN l').symm) (srtN_sorted hu) (srtN_sorted hu')
open Go.Sort in
theorem fc_sortP (l : List DItem) (hn : l.length ≤ 100000000000) (hu : UniqI DItem.item l) : FC Go.Proofs.Tryz.prog 146 [.row 0 l.length, .fn 147 []] (app emp [(0, .row 4 false (l.map ditT))]) (.tup []) (app emp [(0, .row 4 false ((srtP l).map ditT))]) := by
  refine fc_sortD 147 cmpP (Go.Proofs.enters_of Go.Proofs.Tryz.func147 (by kernel_rfl) rfl) raw1_w ⟨fun x => ?_, fun x y z h k => ?_, fun x y z h k => ?_⟩ (fun a b h k => ?_) (fun a b h k => ?_) l (srtP l) hn hu (srtO_perm ltP l) ((srtP_sorted hu).imp (fun {a b} h => cmpP_lt.2 h))
  · unfold Go.Proofs.ltOf; simp only [decide_eq_false_iff_not]; rw [cmpP_lt]; exact fun h => ltP_asym h h
  · unfold Go.Proofs.ltOf at *; simp only [decide_eq_true_eq] at *; rw [cmpP_lt] at *; exact ltP_trans _ _ _ h k
  · unfold Go.Proofs.ltOf at *; simp only [decide_eq_false_iff_not] at *; rw [cmpP_lt] at *
    intro q
    rw [ltP_iff] at h k q
    simp only [not_or, not_and, Bool.not_eq_true, Int.not_lt] at h k
    rcases q with q | ⟨q1, q2⟩
    · cases h1 : slt y.1.place x.1.place with
      | true => have := slt_trans h1 q; rw [k.1] at this; cases this
      | false => have e := slt_tri h1 h.1; rw [← e, k.1] at q; cases q
    · cases h1 : slt y.1.place x.1.place with
      | true => rw [q1, k.1] at h1; cases h1
      | false =>
        have e := slt_tri h1 h.1
        have := h.2 e.symm
        have := k.2 (e.trans q1)
        omega
  · rw [cmpP_lt] at *; exact ltP_asym h k
  · rw [cmpP_lt] at *; exact (ltP_tot h).resolve_right k
theorem cmpN_lt {a b : DItem} : cmpN a b < 0 ↔ ltN a b = true := by
  unfold cmpN cmpI ltN
  simp only [decide_eq_true_eq]
  split <;> (try split) <;> omega
open Go.Sort in
theorem fc_sortN (l : List DItem) (hn : l.length ≤ 100000000000) (hu : UniqI DItem.item l) : FC Go.Proofs.Tryz.prog 146 [.row 0 l.length, .fn 151 []] (app emp [(0, .row 4 false (l.map ditT))]) (.tup []) (app emp [(0, .row 4 false ((srtN l).map ditT))]) := by
  refine fc_sortD 151 cmpN (Go.Proofs.enters_of Go.Proofs.Tryz.func151 (by kernel_rfl) rfl) raw3_w ⟨fun x => ?_, fun x y z h k => ?_, fun x y z h k => ?_⟩ (fun a b h k => ?_) (fun a b h k => ?_) l (srtN l) hn hu (srtO_perm ltN l) ((srtN_sorted hu).imp (fun {a b} h => cmpN_lt.2 h))
  · unfold Go.Proofs.ltOf; simp only [decide_eq_false_iff_not]; rw [cmpN_lt]; unfold ltN; simp
  · unfold Go.Proofs.ltOf at *; simp only [decide_eq_true_eq] at *; rw [cmpN_lt] at *; exact ltN_trans _ _ _ h k
  · unfold Go.Proofs.ltOf at *; simp only [decide_eq_false_iff_not] at *; rw [cmpN_lt] at *; unfold ltN at *; simp at *; omega
  · rw [cmpN_lt] at *; unfold ltN at *; simp at *; omega
  · rw [cmpN_lt] at *; unfold ltN at *; simp at *; omega
end Go.Ch
end
