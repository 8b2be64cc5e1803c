/- A place between two others. -/
import Derived.Test.YthpcjddcgdlilaaM1
import Derived.Test.YthpcjddcgdlilaaM2
import Derived.Test.YthpcjddcgdlilaaM3
import Derived.Test.YthpcjddcgdlilaaM4
import Derived.Test.YthpcjddcgdlilaaM5
import Derived.Test.YthpcjddcgdlilaaM6
section
set_option linter.unusedVariables false
set_option linter.unusedSimpArgs false
set_option maxRecDepth 100000
namespace Go.Ch
open Go Go.Ab

def lexI : List Int → List Int → Bool
  | _, [] => false
  | [], _ :: _ => true
  | a :: x, b :: y => decide (a < b) || (decide (a = b) && lexI x y)
theorem slt_lex (a b : ByteArray) : slt a b = lexI (intsB a) (intsB b) := by
  unfold slt intsB
  rw [ByteArray.toList_eq, ByteArray.toList_eq]
  generalize a.data.toList = x
  generalize b.data.toList = y
  induction x generalizing y with
  | nil => cases y <;> rfl
  | cons c x ih =>
    cases y with
    | nil => rfl
    | cons d y =>
      simp only [Op.bytesLess, List.map_cons, lexI, ih y]
      congr 1
      · exact decide_eq_decide.2 (by rw [UInt8.lt_iff_toNat_lt]; omega)
      · congr 1
        rw [show (c == d) = decide (c = d) from rfl]
        exact decide_eq_decide.2 (by rw [← UInt8.toNat_inj]; omega)
theorem ints_len (s : ByteArray) : (intsB s).length = s.size := by simp [intsB]
theorem ints_get {s : ByteArray} {i : Nat} (h : i < s.size) : (intsB s).getD i default = (byt s i : Int) := by
  have h1 : i < (intsB s).length := by rw [ints_len]; exact h
  simp only [List.getD, List.getElem?_eq_getElem h1, Option.getD_some]
  simp only [intsB, List.getElem_map]
  unfold byt
  rw [getElem?_pos s i h]
  rfl
theorem ints_all {s : ByteArray} {q : Int → Prop} : (∀ c ∈ intsB s, q c) ↔ ∀ i, i < s.size → q (byt s i) := by
  constructor
  · intro h i hi
    rw [← ints_get hi]
    have h1 : i < (intsB s).length := by rw [ints_len]; exact hi
    rw [show (intsB s).getD i default = (intsB s)[i] by simp [List.getD, List.getElem?_eq_getElem h1]]
    exact h _ (List.getElem_mem h1)
  · intro h c hc
    obtain ⟨i, hi, rfl⟩ := List.mem_iff_getElem.1 hc
    have hi' : i < s.size := by rwa [ints_len] at hi
    rw [show (intsB s)[i] = (intsB s).getD i default by simp [List.getD, List.getElem?_eq_getElem hi], ints_get hi']
    exact h i hi'
theorem plS_iff {s : ByteArray} : plS s 0 = true ↔ ∀ i, i < s.size → 97 ≤ byt s i ∧ byt s i ≤ 122 := by
  have key : ∀ (d i : Nat), s.size - i = d → (plS s i = true ↔ ∀ j, i ≤ j → j < s.size → 97 ≤ byt s j ∧ byt s j ≤ 122) := by
    intro d
    induction d with
    | zero => intro i h; rw [plS, if_neg (by omega)]; exact ⟨fun _ j _ _ => by omega, fun _ => rfl⟩
    | succ d ih =>
      intro i h
      rw [plS, if_pos (by omega)]
      by_cases hb : byt s i < 97 ∨ 122 < byt s i
      · rw [if_pos hb]
        exact ⟨(fun h => by cases h), (fun h => by have := h i (Nat.le_refl _) (by omega); omega)⟩
      · rw [if_neg hb, ih (i + 1) (by omega)]
        constructor
        · intro h j h1 h2
          by_cases e : j = i
          · subst e; omega
          · exact h j (by omega) h2
        · exact fun h j h1 h2 => h j (by omega) h2
  rw [key _ 0 rfl]
  exact ⟨fun h i hi => h i (Nat.zero_le _) hi, fun h i _ hi => h i hi⟩
theorem ints_last (s : ByteArray) (h : 0 < s.size) : (intsB s).getLast? = some (byt s (s.size - 1) : Int) := by
  rw [List.getLast?_eq_getElem?, ints_len, ← ints_get (i := s.size - 1) (by omega)]
  have h1 : s.size - 1 < (intsB s).length := by rw [ints_len]; omega
  simp [List.getD, List.getElem?_eq_getElem h1]
/-- A place, by its bytes. -/
def PlL (l : List Int) : Prop := l ≠ [] ∧ (∀ c ∈ l, 97 ≤ c ∧ c ≤ 122) ∧ l.getLast? ≠ some 97
theorem placeB_iff {s : ByteArray} : placeB s = true ↔ PlL (intsB s) ∧ s.size ≤ 200 := by
  unfold placeB PlL
  rw [Bool.and_eq_true, decide_eq_true_eq, plS_iff, ints_all (q := fun c => 97 ≤ c ∧ c ≤ 122)]
  constructor
  · rintro ⟨⟨h1, h2, h3⟩, h4⟩
    refine ⟨⟨fun e => ?_, fun i hi => by have := h4 i hi; omega, ?_⟩, h2⟩
    · have := ints_len s; rw [e] at this; simp at this; omega
    · rw [ints_last s (by omega)]; intro e; have := Option.some.inj e; omega
  · rintro ⟨⟨h1, h2, h3⟩, h4⟩
    have h0 : 0 < s.size := by
      rcases Nat.eq_zero_or_pos s.size with h | h
      · exact absurd (List.eq_nil_of_length_eq_zero (by rw [ints_len]; exact h)) h1
      · exact h
    refine ⟨⟨h0, h4, fun e => h3 ?_⟩, fun i hi => by have := h2 i hi; omega⟩
    rw [ints_last s h0, e]; rfl

def btX (A : List Int) : Int := A.headD 97 - 97
def btY (B : List Int) (op : Bool) : Int := if op = true then 26 else B.headD 97 - 97
def btL : Nat → List Int → List Int → Bool → List Int
  | 0, _, _, _ => []
  | n + 1, A, B, op => if 2 ≤ btY B op - btX A then [97 + btX A + (btY B op - btX A) / 2] else (97 + btX A) :: btL n A.tail B.tail (op || decide (btX A < btY B op))
structure BV (A B : List Int) (op : Bool) : Prop where
  ch : ∀ c ∈ A, 97 ≤ c ∧ c ≤ 122
  nop : op = false → PlL B ∧ (A = [] ∨ lexI A B = true)
def bmax (A B : List Int) (op : Bool) : Nat := max A.length (if op = true then 0 else B.length)
theorem btX_bd {A B : List Int} {op : Bool} (h : BV A B op) : 0 ≤ btX A ∧ btX A ≤ 25 := by
  unfold btX
  cases A with
  | nil => decide
  | cons c A => have := h.ch c List.mem_cons_self; simp; omega
theorem btY_bd {A B : List Int} {op : Bool} (h : BV A B op) : btX A ≤ btY B op ∧ btY B op ≤ 26 ∧ (op = false → btY B op ≤ 25) := by
  have hx := btX_bd h
  unfold btY
  cases op with
  | true => simp; omega
  | false =>
    obtain ⟨⟨h1, h2, h3⟩, h4⟩ := h.nop rfl
    cases B with
    | nil => exact absurd rfl h1
    | cons d B =>
      have hd := h2 d List.mem_cons_self
      refine ⟨?_, by simp; omega, fun _ => by simp; omega⟩
      cases A with
      | nil => simp [btX]; omega
      | cons c A =>
        rcases h4 with h4 | h4
        · cases h4
        · simp only [lexI, Bool.or_eq_true, decide_eq_true_eq, Bool.and_eq_true] at h4
          simp [btX]; omega
theorem BV.step {A B : List Int} {op : Bool} (h : BV A B op) (hs : ¬ 2 ≤ btY B op - btX A) : BV A.tail B.tail (op || decide (btX A < btY B op)) ∧ bmax A.tail B.tail (op || decide (btX A < btY B op)) < bmax A B op := by
  have hx := btX_bd h
  have hy := btY_bd h
  have hch : ∀ c ∈ A.tail, 97 ≤ c ∧ c ≤ 122 := fun c hc => h.ch c (List.mem_of_mem_tail hc)
  cases op with
  | true =>
    refine ⟨⟨hch, fun hh => by simp at hh⟩, ?_⟩
    have hA : A ≠ [] := fun e => by subst e; simp [btX, btY] at hs
    have : 0 < A.length := List.length_pos_iff.2 hA
    unfold bmax; simp; omega
  | false =>
    obtain ⟨⟨h1, h2, h3⟩, h4⟩ := h.nop rfl
    cases B with
    | nil => exact absurd rfl h1
    | cons d B =>
      refine ⟨⟨hch, fun hh => ?_⟩, ?_⟩
      · simp only [Bool.false_or, decide_eq_false_iff_not] at hh
        have e : btX A = btY (d :: B) false := by omega
        have hl : PlL B := by
          have hB : B ≠ [] := fun hB => by
            subst hB
            cases A with
            | nil => simp [btX, btY] at e; exact h3 (by simp; omega)
            | cons c A =>
              rcases h4 with h4 | h4
              · cases h4
              · simp [btX, btY] at e
                simp [lexI] at h4
                omega
          refine ⟨hB, fun c hc => h2 c (List.mem_cons_of_mem _ hc), fun hh => h3 ?_⟩
          cases B with
          | nil => exact absurd rfl hB
          | cons b B => rw [List.getLast?_cons_cons]; exact hh
        refine ⟨hl, ?_⟩
        cases A with
        | nil => exact .inl rfl
        | cons c A =>
          right
          rcases h4 with h4 | h4
          · cases h4
          · simp [btX, btY] at e
            simp only [lexI, Bool.or_eq_true, decide_eq_true_eq, Bool.and_eq_true] at h4
            rcases h4 with h4 | h4
            · omega
            · exact h4.2
      · unfold bmax
        cases A <;> simp <;> split <;> simp <;> omega
structure BtOk (A B : List Int) (op : Bool) (o : List Int) : Prop where
  len : o.length ≤ bmax A B op + 1
  pl : PlL o
  lo : lexI A o = true
  hi : op = false → lexI o B = true
theorem btL_ok : ∀ (n : Nat) {A B : List Int} {op : Bool}, BV A B op → bmax A B op < n → BtOk A B op (btL n A B op)
  | 0, A, B, op, h, hn => by omega
  | n + 1, A, B, op, h, hn => by
    have hx := btX_bd h
    have hy := btY_bd h
    rw [btL]
    split
    · rename_i hs
      refine ⟨by simp, ⟨by simp, fun c hc => by simp at hc; omega, by simp; omega⟩, ?_, fun ho => ?_⟩
      · cases A with
        | nil => rfl
        | cons c A => simp only [lexI]; simp [btX] at hs hx ⊢; first | omega | (left; omega)
      · subst ho
        obtain ⟨⟨h1, -, -⟩, -⟩ := h.nop rfl
        cases B with
        | nil => exact absurd rfl h1
        | cons d B => simp only [lexI]; simp [btY] at hs hy ⊢; first | omega | (left; omega)
    · rename_i hs
      obtain ⟨k1, k2⟩ := h.step hs
      have ih := btL_ok n k1 (by omega)
      obtain ⟨p1, p2, p3⟩ := ih.pl
      refine ⟨by have := ih.len; simp only [List.length_cons]; omega, ⟨by simp, fun c hc => ?_, ?_⟩, ?_, fun ho => ?_⟩
      · rcases List.mem_cons.1 hc with rfl | hc
        · omega
        · exact p2 c hc
      · generalize btL n A.tail B.tail (op || decide (btX A < btY B op)) = o at *
        cases o with
        | nil => exact absurd rfl p1
        | cons b o => rw [List.getLast?_cons_cons]; exact p3
      · cases A with
        | nil => rfl
        | cons c A => 
          have := ih.lo
          simp only [List.tail_cons] at this ⊢
          simp only [lexI]
          rw [this]
          simp [btX]
          first | done | omega | (right; omega)
      · subst ho
        obtain ⟨⟨h1, -, -⟩, -⟩ := h.nop rfl
        cases B with
        | nil => exact absurd rfl h1
        | cons d B =>
          simp only [lexI]
          by_cases hlt : btX A < btY (d :: B) false
          · simp [btY] at hlt hs ⊢; first | omega | (left; omega)
          · have := ih.hi (by simp [hlt])
            simp only [List.tail_cons] at this ⊢
            rw [this]
            simp [btY] at hlt hs hy ⊢
            first | done | omega | (right; omega)
/-- A string of its bytes. -/
def strI (l : List Int) : ByteArray := ⟨(l.map fun z => UInt8.ofNat z.toNat).toArray⟩
theorem ints_strI {l : List Int} (h : ∀ c ∈ l, 97 ≤ c ∧ c ≤ 122) : intsB (strI l) = l := by
  unfold intsB strI
  simp only [List.map_map]
  refine (List.map_congr_left fun c hc => ?_).trans (List.map_id _)
  have := h c hc
  simp only [Function.comp, id]
  rw [UInt8.toNat_ofNat_of_lt' (by unfold UInt8.size; omega)]
  omega
def betS (a b : ByteArray) : ByteArray := strI (btL (a.size + b.size + 1) (intsB a) (intsB b) (seq b mt))
structure BetOk (a b : ByteArray) : Prop where
  pa : a = mt ∨ placeB a = true
  pb : b = mt ∨ placeB b = true
  ab : a = mt ∨ b = mt ∨ slt a b = true
  sa : a.size ≤ 100
  sb : b.size ≤ 100
theorem ints_mt : intsB mt = [] := rfl
theorem BetOk.bv {a b : ByteArray} (h : BetOk a b) : BV (intsB a) (intsB b) (seq b mt) := by
  refine ⟨?_, fun hb => ?_⟩
  · rcases h.pa with rfl | ha
    · intro c hc; rw [ints_mt] at hc; cases hc
    · exact (placeB_iff.1 ha).1.2.1
  · rw [seq_no] at hb
    refine ⟨(placeB_iff.1 (h.pb.resolve_left hb)).1, ?_⟩
    rcases h.ab with rfl | rfl | h
    · exact .inl ints_mt
    · exact absurd rfl hb
    · right; rw [← slt_lex]; exact h
theorem BetOk.bm {a b : ByteArray} (h : BetOk a b) : bmax (intsB a) (intsB b) (seq b mt) < a.size + b.size + 1 := by
  unfold bmax
  rw [ints_len, ints_len]
  split <;> omega
theorem BetOk.ok {a b : ByteArray} (h : BetOk a b) : placeB (betS a b) = true ∧ slt a (betS a b) = true ∧ (b = mt ∨ slt (betS a b) b = true) ∧ (betS a b).size ≤ max a.size b.size + 1 := by
  have k := btL_ok _ h.bv h.bm
  have e : intsB (betS a b) = btL (a.size + b.size + 1) (intsB a) (intsB b) (seq b mt) := ints_strI k.pl.2.1
  have hsz : (betS a b).size ≤ max a.size b.size + 1 := by
    rw [← ints_len, e]
    refine Nat.le_trans k.len ?_
    unfold bmax
    rw [ints_len, ints_len]
    split <;> omega
  refine ⟨?_, ?_, ?_, hsz⟩
  · rw [placeB_iff, e]
    exact ⟨k.pl, by have := h.sa; have := h.sb; omega⟩
  · rw [slt_lex, e]; exact k.lo
  · cases hb : seq b mt with
    | true => left; exact seq_iff.1 hb
    | false => right; rw [slt_lex, e]; exact k.hi hb

/-! ### On the way -/
theorem BV.lt {A : List Int} {b : ByteArray} {i : Nat} (h : BV A ((intsB b).drop i) false) : i < b.size := by
  rcases Nat.lt_or_ge i b.size with k | k
  · exact k
  · exact absurd (List.drop_eq_nil_of_le (by rw [ints_len]; exact k)) (h.nop rfl).1.1
structure BI (a b : ByteArray) (i : Nat) (op : Bool) (o : List Int) : Prop where
  v : BV ((intsB a).drop i) ((intsB b).drop i) op
  m : bmax ((intsB a).drop i) ((intsB b).drop i) op < a.size + b.size + 1 - i
  l : o.length = i
  e : btL (a.size + b.size + 1) (intsB a) (intsB b) (seq b mt) = o ++ btL (a.size + b.size + 1 - i) ((intsB a).drop i) ((intsB b).drop i) op
theorem BI.start {a b : ByteArray} (h : BetOk a b) : BI a b 0 (seq b mt) [] := ⟨h.bv, h.bm, rfl, rfl⟩
theorem BI.fin {a b : ByteArray} {i : Nat} {op : Bool} {o : List Int} (hI : BI a b i op o) (h : BetOk a b) {x y : Int} (hx : btX ((intsB a).drop i) = x) (hy : btY ((intsB b).drop i) op = y) (h2 : 2 ≤ y - x) :
    o ++ [97 + x + (y - x) / 2] = intsB (betS a b) := by
  have k := btL_ok _ h.bv h.bm
  rw [show intsB (betS a b) = btL (a.size + b.size + 1) (intsB a) (intsB b) (seq b mt) from ints_strI k.pl.2.1, hI.e]
  have hm := hI.m
  obtain ⟨n, hn⟩ : ∃ n, a.size + b.size + 1 - i = n + 1 := ⟨a.size + b.size - i, by omega⟩
  rw [hn, btL, hx, hy, if_pos h2]
theorem BI.next {a b : ByteArray} {i : Nat} {op : Bool} {o : List Int} (hI : BI a b i op o) {x y : Int} (hx : btX ((intsB a).drop i) = x) (hy : btY ((intsB b).drop i) op = y) (h2 : ¬ 2 ≤ y - x) :
    BI a b (i + 1) (op || decide (y > x)) (o ++ [97 + x]) := by
  have hm := hI.m
  obtain ⟨k1, k2⟩ := hI.v.step (by rw [hx, hy]; exact h2)
  rw [hx, hy, List.tail_drop, List.tail_drop] at k1 k2
  refine ⟨k1, Nat.lt_of_lt_of_le k2 (by omega), by simp [hI.l], ?_⟩
  rw [hI.e]
  obtain ⟨n, hn⟩ : ∃ n, a.size + b.size + 1 - i = n + 1 := ⟨a.size + b.size - i, by omega⟩
  rw [hn, btL, hx, hy, if_neg h2, List.tail_drop, List.tail_drop, show a.size + b.size + 1 - (i + 1) = n by omega]
  simp
end Go.Ch
end
section
set_option linter.unusedVariables false
set_option linter.unusedSimpArgs false
set_option maxRecDepth 100000
set_option maxHeartbeats 4000000
open Go Go.Proofs Go.Ab
namespace Go.Ch
end Go.Ch
end
section
set_option linter.unusedVariables false
set_option linter.unusedSimpArgs false
set_option maxRecDepth 100000
namespace Go.Ch
open Go Go.Ab

def drO : List DOp := [⟨1, 1, 0, 5, 0, chS 98, mt, mt⟩, ⟨2, 1, 0, 6, 5, chS 98, mt, mt⟩]
theorem place_one {c : UInt8} (h1 : 97 < c.toNat) (h2 : c.toNat ≤ 122) : placeB (chS c) = true := by
  rw [placeB_iff]
  have e : intsB (chS c) = [(c.toNat : Int)] := rfl
  rw [e]
  exact ⟨⟨by simp, fun x hx => by simp at hx; omega, by simp; omega⟩, by show (1 : Nat) ≤ 200; omega⟩
theorem dr_ok : drawE drO 0 = 0 := by
  rw [drawE_iff]
  have hp : placeB (chS 98) = true := place_one (by decide) (by decide)
  have hm : seq mt mt = true := seq_refl mt
  constructor
  · intro i hi
    have : i = 0 ∨ i = 1 := by simp [drO] at hi; omega
    rcases this with rfl | rfl <;> simp [drO, opE, hp, hm]
  · intro i hi
    have : i = 0 := by simp [drO] at hi; omega
    subst this
    simp [drO, ltO]
theorem dr_raw : rawI drO = [⟨5, 0, chS 98, []⟩, ⟨6, 5, chS 98, []⟩] := by
  have h : playP drO = ([⟨5, 0, chS 98, []⟩, ⟨6, 5, chS 98, []⟩], []) := by
    have b1 : belowI [] 5 0 = false := by (rw [belowI, if_neg (by decide)])
    have b2 : belowI [⟨5, 0, chS 98, []⟩] 6 5 = false := by
      rw [belowI, if_pos (by decide), if_neg (by decide)]
      split
      · rfl
      · rename_i x h
        have h' : findI [⟨5, 0, chS 98, []⟩] 5 = some ⟨5, 0, chS 98, []⟩ := rfl
        rw [h'] at h
        obtain rfl := Option.some.inj h
        rw [belowI, if_neg (by decide)]
    have s1 : stepP ([], []) ⟨1, 1, 0, 5, 0, chS 98, mt, mt⟩ = ([⟨5, 0, chS 98, []⟩], []) := by
      unfold stepP
      rw [if_neg (by decide), if_neg (by show ¬ belowI [] 5 0 = true; rw [b1]; decide)]
      rfl
    have s2 : stepP ([⟨5, 0, chS 98, []⟩], []) ⟨2, 1, 0, 6, 5, chS 98, mt, mt⟩ = ([⟨5, 0, chS 98, []⟩, ⟨6, 5, chS 98, []⟩], []) := by
      unfold stepP
      rw [if_neg (by decide), if_neg (by show ¬ belowI [⟨5, 0, chS 98, []⟩] 6 5 = true; rw [b2]; decide)]
      rfl
    unfold playP drO
    rw [List.foldl_cons, s1, List.foldl_cons, s2, List.foldl_nil]
  have hi : itsF drO = [⟨5, 0, chS 98, []⟩, ⟨6, 5, chS 98, []⟩] := by
    unfold itsF; rw [h]; simp [fullI, findA]
  have hw : walkF drO = [⟨5, 0, chS 98, []⟩, ⟨6, 5, chS 98, []⟩] := by
    unfold walkF; rw [hi]; rfl
  unfold rawI
  rw [hw, hi]
  rfl
end Go.Ch
end
section
set_option linter.unusedVariables false
set_option linter.unusedSimpArgs false
set_option maxRecDepth 100000
set_option maxHeartbeats 4000000
open Go Go.Proofs Go.Ab
namespace Go.Ch
theorem fc_itemsDr : FC Try.prog 11 [VL 8 dopT [({ clock := 1, site := 1, kind := 0, itm := 5, prt := 0, plc := { data := #[98] }, nm := { data := #[] }, vl := { data := #[] } } : DOp), ({ clock := 2, site := 1, kind := 0, itm := 6, prt := 5, plc := { data := #[98] }, nm := { data := #[] }, vl := { data := #[] } } : DOp)]] (app emp []) (.tup [VL 4 ditT [({ item := 5, parent := 0, place := { data := #[98] }, attrs := [] } : DItem), ({ item := 6, parent := 5, place := { data := #[98] }, attrs := [] } : DItem)], VI 0]) (app emp []) := by
  have h := fc_items drO (by decide)
  rw [dr_ok, if_pos rfl, dr_raw] at h
  exact h

theorem fc_draws  : FC Try.prog 7 [] (app emp []) (VB true) (app emp []) := by
 refine .go Try.f7 ?_
 have e1 : ((((true && (([({ item := 5, parent := 0, place := { data := #[98] }, attrs := [] } : DItem), ({ item := 6, parent := 5, place := { data := #[98] }, attrs := [] } : DItem)].length : Int) == 2)) && (((([({ item := 5, parent := 0, place := { data := #[98] }, attrs := [] } : DItem), ({ item := 6, parent := 5, place := { data := #[98] }, attrs := [] } : DItem)].getD 0 default)).item) == 5)) && (((([({ item := 5, parent := 0, place := { data := #[98] }, attrs := [] } : DItem), ({ item := 6, parent := 5, place := { data := #[98] }, attrs := [] } : DItem)].getD 1 default)).item) == 6)) : Bool) = true := by
  rfl
 exact .finE [.r [], .r [(3, X (Xc1 32 fc_itemsDr (rowC dopT [({ clock := 1, site := 1, kind := 0, itm := 5, prt := 0, plc := { data := #[98] }, nm := { data := #[] }, vl := { data := #[] } } : DOp), ({ clock := 2, site := 1, kind := 0, itm := 6, prt := 5, plc := { data := #[98] }, nm := { data := #[] }, vl := { data := #[] } } : DOp)] X0)))], .r [(4, Xv 1 true (Xl ditT [({ item := 5, parent := 0, place := { data := #[98] }, attrs := [] } : DItem), ({ item := 6, parent := 5, place := { data := #[98] }, attrs := [] } : DItem)])), (5, Xv 1 true X0), (6, X (Xk true)), (9, Xv 1 (true && (([({ item := 5, parent := 0, place := { data := #[98] }, attrs := [] } : DItem), ({ item := 6, parent := 5, place := { data := #[98] }, attrs := [] } : DItem)].length : Int) == 2)) (Xi ditT [({ item := 5, parent := 0, place := { data := #[98] }, attrs := [] } : DItem), ({ item := 6, parent := 5, place := { data := #[98] }, attrs := [] } : DItem)] 0)), (10, Xv 1 (true && (([({ item := 5, parent := 0, place := { data := #[98] }, attrs := [] } : DItem), ({ item := 6, parent := 5, place := { data := #[98] }, attrs := [] } : DItem)].length : Int) == 2)) X0), (11, Xv 1 (true && (([({ item := 5, parent := 0, place := { data := #[98] }, attrs := [] } : DItem), ({ item := 6, parent := 5, place := { data := #[98] }, attrs := [] } : DItem)].length : Int) == 2)) X0), (12, Xv 1 (true && (([({ item := 5, parent := 0, place := { data := #[98] }, attrs := [] } : DItem), ({ item := 6, parent := 5, place := { data := #[98] }, attrs := [] } : DItem)].length : Int) == 2)) X0), (13, X (Xk (true && (([({ item := 5, parent := 0, place := { data := #[98] }, attrs := [] } : DItem), ({ item := 6, parent := 5, place := { data := #[98] }, attrs := [] } : DItem)].length : Int) == 2)))), (16, Xv 1 ((true && (([({ item := 5, parent := 0, place := { data := #[98] }, attrs := [] } : DItem), ({ item := 6, parent := 5, place := { data := #[98] }, attrs := [] } : DItem)].length : Int) == 2)) && (((([({ item := 5, parent := 0, place := { data := #[98] }, attrs := [] } : DItem), ({ item := 6, parent := 5, place := { data := #[98] }, attrs := [] } : DItem)].getD 0 default)).item) == 5)) (Xi ditT [({ item := 5, parent := 0, place := { data := #[98] }, attrs := [] } : DItem), ({ item := 6, parent := 5, place := { data := #[98] }, attrs := [] } : DItem)] 1)), (17, Xv 1 ((true && (([({ item := 5, parent := 0, place := { data := #[98] }, attrs := [] } : DItem), ({ item := 6, parent := 5, place := { data := #[98] }, attrs := [] } : DItem)].length : Int) == 2)) && (((([({ item := 5, parent := 0, place := { data := #[98] }, attrs := [] } : DItem), ({ item := 6, parent := 5, place := { data := #[98] }, attrs := [] } : DItem)].getD 0 default)).item) == 5)) X0), (18, Xv 1 ((true && (([({ item := 5, parent := 0, place := { data := #[98] }, attrs := [] } : DItem), ({ item := 6, parent := 5, place := { data := #[98] }, attrs := [] } : DItem)].length : Int) == 2)) && (((([({ item := 5, parent := 0, place := { data := #[98] }, attrs := [] } : DItem), ({ item := 6, parent := 5, place := { data := #[98] }, attrs := [] } : DItem)].getD 0 default)).item) == 5)) X0), (19, Xv 1 ((true && (([({ item := 5, parent := 0, place := { data := #[98] }, attrs := [] } : DItem), ({ item := 6, parent := 5, place := { data := #[98] }, attrs := [] } : DItem)].length : Int) == 2)) && (((([({ item := 5, parent := 0, place := { data := #[98] }, attrs := [] } : DItem), ({ item := 6, parent := 5, place := { data := #[98] }, attrs := [] } : DItem)].getD 0 default)).item) == 5)) X0), (20, X (Xk ((true && (([({ item := 5, parent := 0, place := { data := #[98] }, attrs := [] } : DItem), ({ item := 6, parent := 5, place := { data := #[98] }, attrs := [] } : DItem)].length : Int) == 2)) && (((([({ item := 5, parent := 0, place := { data := #[98] }, attrs := [] } : DItem), ({ item := 6, parent := 5, place := { data := #[98] }, attrs := [] } : DItem)].getD 0 default)).item) == 5))))]] [] (fun z0 => (VB z0, [])) ((((true && (([({ item := 5, parent := 0, place := { data := #[98] }, attrs := [] } : DItem), ({ item := 6, parent := 5, place := { data := #[98] }, attrs := [] } : DItem)].length : Int) == 2)) && (((([({ item := 5, parent := 0, place := { data := #[98] }, attrs := [] } : DItem), ({ item := 6, parent := 5, place := { data := #[98] }, attrs := [] } : DItem)].getD 0 default)).item) == 5)) && (((([({ item := 5, parent := 0, place := { data := #[98] }, attrs := [] } : DItem), ({ item := 6, parent := 5, place := { data := #[98] }, attrs := [] } : DItem)].getD 1 default)).item) == 6)) : Bool) (true : Bool) e1.symm
end Go.Ch
end
section
set_option linter.unusedVariables false
set_option linter.unusedSimpArgs false
set_option maxRecDepth 100000
set_option maxHeartbeats 4000000
open Go Go.Proofs Go.Ab
namespace Go.Ch
theorem fc_paints (raw : List Int) (site : Int) : FC Try.prog 8 [VL 1 intT raw, VI site] (app emp []) (VL 8 dopT (paintI raw site)) (app emp []) := by
 refine .go Try.f8 ?_
 refine .len 0 (fun hl0 => ?_)
 refine .loop (α := Nat × Int × (List DOp)) [.r [], .r [], .r [], .r [(1, X (Xl intT raw)), (2, X (Xmin (raw.length : Int) 12))], .le (.nR 5 8)] 81 (fun (i, o32c1, o) => ([(1, VI site), (5, .row 80 o.length), (6, .ptr 32 0), (14, VI (min (raw.length : Int) 12)), (15, VI (i : Int))], [(32, .box [VL 1 intT raw, VI o32c1]), (80, OR 8 dopT o)])) (fun (i, o32c1, o) => i ≤ min raw.length 12 ∧ o32c1 = 5 * (i : Int) ∧ o = paintL raw site i) (fun (i, o32c1, o) => 12 - i) (0, 0, []) ?_ ?_
 ·
  exact ⟨by omega, by omega, rfl⟩
 rintro ⟨i, o32c1, o⟩ I4 ih4
 try dsimp only at I4
 refine .br [.r []] (decide ((i : Int) < (min (raw.length : Int) 12))) (fun h4 => ?_) (fun h4 => ?_)
 ·
  (try simp only [decide_eq_true_eq, decide_eq_false_iff_not, Int.not_lt, Int.not_le] at h4)
  have hr : 0 < raw.length := by omega
  have u1 : rollU raw o32c1 = o32c1 + 1 := by (simp only [rollU_one hr]; try omega)
  have u2 : rollU raw (rollU raw o32c1) = o32c1 + 2 := by (simp only [rollU_one hr]; try omega)
  have u3 : rollU raw (rollU raw (rollU raw o32c1)) = o32c1 + 3 := by (simp only [rollU_one hr]; try omega)
  have u4 : rollU raw (rollU raw (rollU raw (rollU raw o32c1))) = o32c1 + 4 := by (simp only [rollU_one hr]; try omega)
  have u5 : rollU raw (rollU raw (rollU raw (rollU raw (rollU raw o32c1)))) = o32c1 + 5 := by (simp only [rollU_one hr]; try omega)
  have v0 := rollV_bd raw o32c1 (n := 2) (by decide)
  have v1 := rollV_bd raw (rollU raw o32c1) (n := 6) (by decide)
  have v2 := rollV_bd raw (rollU raw (rollU raw o32c1)) (n := 3) (by decide)
  have v3 := rollV_bd raw (rollU raw (rollU raw (rollU raw o32c1))) (n := 2) (by decide)
  have v4 := rollV_bd raw (rollU raw (rollU raw (rollU raw o32c1))) (n := 8) (by decide)
  have v5 := rollV_bd raw (rollU raw (rollU raw (rollU raw (rollU raw o32c1)))) (n := 3) (by decide)
  have hol : o.length = i := by rw [I4.2.2, paintL_len]
  refine .br [.r [], .r [(1, X (Xn ((i : Int) * 2))), (2, X (Xn (1 + ((i : Int) * 2)))), (4, X (Xc3 137 [(0, 32)] (fc_roll raw o32c1 2 (by omega) (by omega) (by omega)) X0)), (5, X (Xn ((1 + ((i : Int) * 2)) + (rollV raw o32c1 2)))), (8, X (Xc3 169 [(0, 32)] (fc_roll raw (rollU raw o32c1) 6 (by omega) (by omega) (by omega)) X0)), (9, X (Xn (1 + (rollV raw (rollU raw o32c1) 6))))], .r [(1, X (Xc3 217 [(0, 32)] (fc_roll raw (rollU raw (rollU raw o32c1)) 3 (by omega) (by omega) (by omega)) X0))]] ((rollV raw (rollU raw (rollU raw o32c1)) 3) == 0) (fun h7 => ?_) (fun h7 => ?_)
  ·
   (try simp only [beq_iff_eq, beq_eq_false_iff_ne, ne_eq] at h7)
   refine .back [.r [(2, X (Xc3 249 [(0, 32)] (fc_roll raw (rollU raw (rollU raw (rollU raw o32c1))) 2 (by omega) (by omega) (by omega)) X0)), (3, X (Xp strT [{ data := #[120] }, { data := #[121] }] (rollV raw (rollU raw (rollU raw (rollU raw o32c1))) 2))), (4, X (Xe strT [{ data := #[120] }, { data := #[121] }] (Int.toNat (rollV raw (rollU raw (rollU raw (rollU raw o32c1))) 2)))), (7, X (Xc3 289 [(0, 32)] (fc_roll raw (rollU raw (rollU raw (rollU raw (rollU raw o32c1)))) 3 (by omega) (by omega) (by omega)) X0)), (8, X (Xp strT [{ data := #[] }, { data := #[49] }, { data := #[50] }] (rollV raw (rollU raw (rollU raw (rollU raw (rollU raw o32c1)))) 3))), (9, X (Xe strT [{ data := #[] }, { data := #[49] }, { data := #[50] }] (Int.toNat (rollV raw (rollU raw (rollU raw (rollU raw (rollU raw o32c1)))) 3))))], .r [(3, X (rowC dopT [({ clock := ((1 + ((i : Int) * 2)) + (rollV raw o32c1 2)), site := site, kind := 1, itm := (1 + (rollV raw (rollU raw o32c1) 6)), prt := 0, plc := { data := #[] }, nm := ([{ data := #[120] }, { data := #[121] }].getD (Int.toNat (rollV raw (rollU raw (rollU raw (rollU raw o32c1))) 2)) default), vl := ([{ data := #[] }, { data := #[49] }, { data := #[50] }].getD (Int.toNat (rollV raw (rollU raw (rollU raw (rollU raw (rollU raw o32c1)))) 3)) default) } : DOp)] (Xap 8 dopT 80 o [({ clock := ((1 + ((i : Int) * 2)) + (rollV raw o32c1 2)), site := site, kind := 1, itm := (1 + (rollV raw (rollU raw o32c1) 6)), prt := 0, plc := { data := #[] }, nm := ([{ data := #[120] }, { data := #[121] }].getD (Int.toNat (rollV raw (rollU raw (rollU raw (rollU raw o32c1))) 2)) default), vl := ([{ data := #[] }, { data := #[49] }, { data := #[50] }].getD (Int.toNat (rollV raw (rollU raw (rollU raw (rollU raw (rollU raw o32c1)))) 3)) default) } : DOp)])))], .r [(0, X (Xn ((i : Int) + 1)))]] [(32, 32), (80, 80)] (ih4 ((i + 1), (rollU raw (rollU raw (rollU raw (rollU raw (rollU raw o32c1))))), (o ++ [({ clock := ((1 + ((i : Int) * 2)) + (rollV raw o32c1 2)), site := site, kind := 1, itm := (1 + (rollV raw (rollU raw o32c1) 6)), prt := 0, plc := { data := #[] }, nm := ([{ data := #[120] }, { data := #[121] }].getD (Int.toNat (rollV raw (rollU raw (rollU raw (rollU raw o32c1))) 2)) default), vl := ([{ data := #[] }, { data := #[49] }, { data := #[50] }].getD (Int.toNat (rollV raw (rollU raw (rollU raw (rollU raw (rollU raw o32c1)))) 3)) default) } : DOp)])) ?_ ?_)
   ·
    refine ⟨by omega, by omega, ?_⟩
    rw [paintL_succ, ← I4.2.2]; congr 1
    unfold paintO
    have e : 5 * (i : Int) = o32c1 := I4.2.1.symm
    rw [e]
    simp only [rollU_one hr, Int.add_assoc, Int.reduceAdd] at h7 ⊢
    first | (rw [if_pos h7]; rfl) | (rw [if_neg h7]; rfl)
   ·
    ((try dsimp only); omega)
  ·
   (try simp only [beq_iff_eq, beq_eq_false_iff_ne, ne_eq] at h7)
   refine .back [.r [(1, X (Xc3 241 [(0, 32)] (fc_roll raw (rollU raw (rollU raw (rollU raw o32c1))) 8 (by omega) (by omega) (by omega)) X0)), (2, X (Xn ((rollV raw (rollU raw (rollU raw (rollU raw o32c1))) 8) - 1))), (5, X (Xc3 273 [(0, 32)] (fc_roll raw (rollU raw (rollU raw (rollU raw (rollU raw o32c1)))) 3 (by omega) (by omega) (by omega)) X0)), (6, X (Xp strT [{ data := #[98] }, { data := #[99] }, { data := #[100] }] (rollV raw (rollU raw (rollU raw (rollU raw (rollU raw o32c1)))) 3))), (7, X (Xe strT [{ data := #[98] }, { data := #[99] }, { data := #[100] }] (Int.toNat (rollV raw (rollU raw (rollU raw (rollU raw (rollU raw o32c1)))) 3))))], .r [(3, X (rowC dopT [({ clock := ((1 + ((i : Int) * 2)) + (rollV raw o32c1 2)), site := site, kind := 0, itm := (1 + (rollV raw (rollU raw o32c1) 6)), prt := ((rollV raw (rollU raw (rollU raw (rollU raw o32c1))) 8) - 1), plc := ([{ data := #[98] }, { data := #[99] }, { data := #[100] }].getD (Int.toNat (rollV raw (rollU raw (rollU raw (rollU raw (rollU raw o32c1)))) 3)) default), nm := { data := #[] }, vl := { data := #[] } } : DOp)] (Xap 8 dopT 80 o [({ clock := ((1 + ((i : Int) * 2)) + (rollV raw o32c1 2)), site := site, kind := 0, itm := (1 + (rollV raw (rollU raw o32c1) 6)), prt := ((rollV raw (rollU raw (rollU raw (rollU raw o32c1))) 8) - 1), plc := ([{ data := #[98] }, { data := #[99] }, { data := #[100] }].getD (Int.toNat (rollV raw (rollU raw (rollU raw (rollU raw (rollU raw o32c1)))) 3)) default), nm := { data := #[] }, vl := { data := #[] } } : DOp)])))], .r [(0, X (Xn ((i : Int) + 1)))]] [(32, 32), (80, 80)] (ih4 ((i + 1), (rollU raw (rollU raw (rollU raw (rollU raw (rollU raw o32c1))))), (o ++ [({ clock := ((1 + ((i : Int) * 2)) + (rollV raw o32c1 2)), site := site, kind := 0, itm := (1 + (rollV raw (rollU raw o32c1) 6)), prt := ((rollV raw (rollU raw (rollU raw (rollU raw o32c1))) 8) - 1), plc := ([{ data := #[98] }, { data := #[99] }, { data := #[100] }].getD (Int.toNat (rollV raw (rollU raw (rollU raw (rollU raw (rollU raw o32c1)))) 3)) default), nm := { data := #[] }, vl := { data := #[] } } : DOp)])) ?_ ?_)
   ·
    refine ⟨by omega, by omega, ?_⟩
    rw [paintL_succ, ← I4.2.2]; congr 1
    unfold paintO
    have e : 5 * (i : Int) = o32c1 := I4.2.1.symm
    rw [e]
    simp only [rollU_one hr, Int.add_assoc, Int.reduceAdd] at h7 ⊢
    first | (rw [if_pos h7]; rfl) | (rw [if_neg h7]; rfl)
   ·
    ((try dsimp only); omega)
 ·
  (try simp only [decide_eq_true_eq, decide_eq_false_iff_not, Int.not_lt, Int.not_le] at h4)
  have e1 : ((paintI raw site) : List DOp) = o := by
   have hi : i = min raw.length 12 := by omega
   rw [I4.2.2, hi]; rfl
  exact .finE [.r [], .le (.fr 4 [(o.length : Nat) = (List.map dopT o).length] ⟨lm, trivial⟩)] [] (fun z0 => (VL 8 dopT z0, [])) (o : List DOp) ((paintI raw site) : List DOp) e1
end Go.Ch
end
section
set_option linter.unusedVariables false
set_option linter.unusedSimpArgs false
set_option maxRecDepth 100000
namespace Go.Ch
open Go Go.Ab

theorem ltO_asym {a b : DOp} (h : ltO a b) : ¬ ltO b a := by unfold ltO at *; omega
theorem getDO {l : List DOp} {i : Nat} (h : i < l.length) : l.getD i default = l[i] := by simp [List.getD, List.getElem?_eq_getElem h]
theorem srt_iff {l : List DOp} : l.Pairwise ltO ↔ ∀ i, i + 1 < l.length → ltO (l.getD i default) (l.getD (i + 1) default) := by
  rw [List.pairwise_iff_getElem]
  constructor
  · intro h i hi
    rw [getDO (by omega), getDO hi]
    exact h i (i + 1) _ _ (by omega)
  · intro h i j hi hj hij
    obtain ⟨d, rfl⟩ : ∃ d, j = i + 1 + d := ⟨j - i - 1, by omega⟩
    clear hij
    induction d with
    | zero => have := h i (by omega); rwa [getDO (by omega), getDO (by omega)] at this
    | succ d ih =>
      have h1 := ih (by omega)
      have h2 := h (i + 1 + d) (by omega)
      rw [getDO (by omega), getDO (by omega)] at h2
      exact ltO_trans h1 h2
theorem draw_iff {l : List DOp} : drawE l 0 = 0 ↔ (∀ o ∈ l, opE o = 0) ∧ l.Pairwise ltO := by
  rw [drawE_iff, srt_iff]
  constructor
  · rintro ⟨h1, h2⟩
    refine ⟨fun o ho => ?_, h2⟩
    obtain ⟨i, hi, rfl⟩ := List.mem_iff_getElem.1 ho
    rw [← getDO hi]; exact h1 i hi
  · rintro ⟨h1, h2⟩
    exact ⟨fun i hi => by rw [getDO hi]; exact h1 _ (List.getElem_mem hi), h2⟩
/-- Operations of which no two have one stamp. -/
structure UOk (U : List DOp) : Prop where
  op : ∀ o ∈ U, opE o = 0
  uq : ∀ a ∈ U, ∀ b ∈ U, ¬ ltO a b → ¬ ltO b a → a = b
structure VU (U z : List DOp) : Prop where
  srt : z.Pairwise ltO
  sub : ∀ o ∈ z, o ∈ U
theorem VU.ok {U z : List DOp} (hU : UOk U) (h : VU U z) : drawE z 0 = 0 := draw_iff.2 ⟨fun o ho => hU.op o (h.sub o ho), h.srt⟩
theorem VU.nil (U : List DOp) : VU U [] := ⟨.nil, fun o ho => by cases ho⟩
theorem VU.drop {U z : List DOp} (h : VU U z) (n : Nat) : VU U (z.drop n) := ⟨h.srt.sublist (List.drop_sublist _ _), fun o ho => h.sub o (List.mem_of_mem_drop ho)⟩
theorem union_mem {U : List DOp} (hU : UOk U) (x y : List DOp) : VU U x → VU U y → ∃ z, unionO x y = some z ∧ VU U z ∧ ∀ o, o ∈ z ↔ o ∈ x ∨ o ∈ y := by
  have tl : ∀ {a : DOp} {l : List DOp}, VU U (a :: l) → VU U l := fun h => ⟨(List.pairwise_cons.1 h.srt).2, fun o ho => h.sub o (List.mem_cons_of_mem _ ho)⟩
  have hd : ∀ {a : DOp} {l : List DOp}, VU U (a :: l) → ∀ o ∈ l, ltO a o := fun h => (List.pairwise_cons.1 h.srt).1
  have mk : ∀ {a : DOp} {z : List DOp}, a ∈ U → VU U z → (∀ o ∈ z, ltO a o) → VU U (a :: z) := fun h1 h2 h3 => ⟨List.pairwise_cons.2 ⟨h3, h2.srt⟩, fun o ho => by
    rcases List.mem_cons.1 ho with rfl | ho
    · exact h1
    · exact h2.sub o ho⟩
  induction x, y using unionO.induct with
  | case1 => intro h1 h2; exact ⟨[], by rw [unionO], h1, fun o => by simp⟩
  | case2 a l ih =>
    intro h1 h2
    obtain ⟨z, e, hz, hm⟩ := ih (tl h1) h2
    refine ⟨a :: z, by rw [unionO, e]; rfl, mk (h1.sub a List.mem_cons_self) hz (fun o ho => ?_), fun o => ?_⟩
    · rcases (hm o).1 ho with h | h
      · exact hd h1 o h
      · cases h
    · rw [List.mem_cons, List.mem_cons, hm]; simp
  | case3 b r ih =>
    intro h1 h2
    obtain ⟨z, e, hz, hm⟩ := ih h1 (tl h2)
    refine ⟨b :: z, by rw [unionO, e]; rfl, mk (h2.sub b List.mem_cons_self) hz (fun o ho => ?_), fun o => ?_⟩
    · rcases (hm o).1 ho with h | h
      · cases h
      · exact hd h2 o h
    · rw [List.mem_cons, List.mem_cons, hm]; simp
  | case4 a l b r hab ih =>
    intro h1 h2
    obtain ⟨z, e, hz, hm⟩ := ih (tl h1) h2
    refine ⟨a :: z, by rw [unionO, if_pos hab, e]; rfl, mk (h1.sub a List.mem_cons_self) hz (fun o ho => ?_), fun o => ?_⟩
    · rcases (hm o).1 ho with h | h
      · exact hd h1 o h
      · rcases List.mem_cons.1 h with rfl | h
        · exact hab
        · exact ltO_trans hab (hd h2 o h)
    · rw [List.mem_cons, hm, List.mem_cons (b := a), or_assoc]
  | case5 a l b r hab hba ih =>
    intro h1 h2
    obtain ⟨z, e, hz, hm⟩ := ih h1 (tl h2)
    refine ⟨b :: z, by rw [unionO, if_neg hab, if_pos hba, e]; rfl, mk (h2.sub b List.mem_cons_self) hz (fun o ho => ?_), fun o => ?_⟩
    · rcases (hm o).1 ho with h | h
      · rcases List.mem_cons.1 h with rfl | h
        · exact hba
        · exact ltO_trans hba (hd h1 o h)
      · exact hd h2 o h
    · rw [List.mem_cons, hm, List.mem_cons (b := b)]
      constructor
      · rintro (h | h | h)
        · exact .inr (.inl h)
        · exact .inl h
        · exact .inr (.inr h)
      · rintro (h | h | h)
        · exact .inr (.inl h)
        · exact .inl h
        · exact .inr (.inr h)
  | case6 l a r hab hba ih =>
    intro h1 h2
    obtain ⟨z, e, hz, hm⟩ := ih (tl h1) (tl h2)
    refine ⟨a :: z, by rw [unionO, if_neg hab, if_neg hba, if_pos rfl, e]; rfl, mk (h1.sub a List.mem_cons_self) hz (fun o ho => ?_), fun o => ?_⟩
    · rcases (hm o).1 ho with h | h
      · exact hd h1 o h
      · exact hd h2 o h
    · rw [List.mem_cons, hm, List.mem_cons, List.mem_cons]
      constructor
      · rintro (h | h | h)
        · exact .inl (.inl h)
        · exact .inl (.inr h)
        · exact .inr (.inr h)
      · rintro ((h | h) | (h | h))
        · exact .inl h
        · exact .inr (.inl h)
        · exact .inl h
        · exact .inr (.inr h)
  | case7 a l b r hab hba hne =>
    intro h1 h2
    exact absurd (hU.uq a (h1.sub a List.mem_cons_self) b (h2.sub b List.mem_cons_self) hab hba) hne
def uni (x y : List DOp) : List DOp := (unionO x y).getD []
theorem VU.uni {U x y : List DOp} (hU : UOk U) (hx : VU U x) (hy : VU U y) : VU U (uni x y) := by
  obtain ⟨z, e, hz, -⟩ := union_mem hU x y hx hy
  unfold Ch.uni; rw [e]; exact hz
theorem srt_nodup {z : List DOp} (h : z.Pairwise ltO) : z.Nodup := h.imp (fun h e => by subst e; exact absurd h (by unfold ltO; omega))
theorem nodup_sub {α : Type} : ∀ (w its : List α), w.Nodup → (∀ x ∈ w, x ∈ its) → w.length ≤ its.length
  | [], its, _, _ => Nat.zero_le _
  | a :: w, its, hn, hs => by
    rw [List.nodup_cons] at hn
    obtain ⟨s, t, rfl⟩ := List.append_of_mem (hs a List.mem_cons_self)
    have := nodup_sub w (s ++ t) hn.2 (fun x hx => by
      have := hs x (List.mem_cons_of_mem _ hx)
      simp only [List.mem_append, List.mem_cons] at this ⊢
      rcases this with h | h | h
      · exact .inl h
      · subst h; exact absurd hx hn.1
      · exact .inr h)
    simp only [List.length_append, List.length_cons] at *; omega
theorem VU.len {U z : List DOp} (h : VU U z) : z.length ≤ U.length := nodup_sub z U (srt_nodup h.srt) h.sub
theorem VU.eq {U x y : List DOp} (hx : VU U x) (hy : VU U y) (h : ∀ o, o ∈ x ↔ o ∈ y) : x = y :=
  perm_strict (R := ltO) (fun a b => ltO_asym) ((List.perm_ext_iff_of_nodup (srt_nodup hx.srt) (srt_nodup hy.srt)).2 h) hx.srt hy.srt

/-! ### What is painted is valid -/
theorem byt_one (c : UInt8) : byt (chS c) 0 = c.toNat := rfl
theorem name_one {c : UInt8} (h : 97 ≤ c.toNat ∧ c.toNat ≤ 122) : nameGo (chS c) = true := by
  unfold nameGo
  have hs : (chS c).size = 1 := rfl
  rw [nmS, hs, byt_one, if_pos (by omega), if_neg (by unfold badC; omega), nmS, hs, if_neg (by omega)]
  simp; omega
theorem val_one {c : UInt8} (h : 32 ≤ c.toNat ∧ c.toNat ≤ 126) : valGo (chS c) = true := by
  unfold valGo
  have hs : (chS c).size = 1 := rfl
  rw [vlS, hs, byt_one, if_pos (by omega), if_neg (by omega), vlS, hs, if_neg (by omega)]
  simp
theorem paintO_ok (raw : List Int) {site : Int} (hs : 0 ≤ site ∧ site ≤ 1000) {i : Nat} (hi : i < 12) : opE (paintO raw site i) = 0 ∧ (paintO raw site i).site = site ∧ 1 + i * 2 ≤ (paintO raw site i).clock ∧ (paintO raw site i).clock ≤ 2 + i * 2 ∧ 1 ≤ (paintO raw site i).itm ∧ (paintO raw site i).itm ≤ 6 ∧ (paintO raw site i).prt ≤ 6 := by
  have v0 := rollV_bd raw (5 * i) (n := 2) (by decide)
  have v1 := rollV_bd raw (5 * i + 1) (n := 6) (by decide)
  have v3 := rollV_bd raw (5 * i + 3) (n := 2) (by decide)
  have v4 := rollV_bd raw (5 * i + 3) (n := 8) (by decide)
  have v5 := rollV_bd raw (5 * i + 4) (n := 3) (by decide)
  have hm : seq mt mt = true := seq_refl mt
  unfold paintO
  generalize rollV raw (5 * i + 3) 2 = r3 at *
  generalize rollV raw (5 * i + 3) 8 = r8 at *
  generalize rollV raw (5 * i + 4) 3 = r4 at *
  generalize rollV raw (5 * i + 1) 6 = r1 at *
  generalize rollV raw (5 * i) 2 = r0 at *
  split
  · have hn : nameGo (pkN r3) = true := by
      have : r3 = 0 ∨ r3 = 1 := by omega
      rcases this with rfl | rfl
      · exact name_one (c := 120) (by decide)
      · exact name_one (c := 121) (by decide)
    have hv : seq (pkV r4) mt = true ∨ valGo (pkV r4) = true := by
      have : r4 = 0 ∨ r4 = 1 ∨ r4 = 2 := by omega
      rcases this with rfl | rfl | rfl
      · exact .inl hm
      · exact .inr (val_one (c := 49) (by decide))
      · exact .inr (val_one (c := 50) (by decide))
    refine ⟨?_, rfl, by simp; omega, by simp; omega, by simp; omega, by simp; omega, by simp⟩
    unfold opE
    simp only []
    rw [if_neg (by omega), if_neg (by omega), if_neg (by rw [hm]; simp), if_neg (by omega), if_neg (by rw [hn]; simp), if_neg]
    rintro ⟨-, h1, h2⟩
    rcases hv with h | h
    · rw [h] at h1; cases h1
    · rw [h] at h2; cases h2
  · have hp : placeB (pkP r4) = true := by
      have : r4 = 0 ∨ r4 = 1 ∨ r4 = 2 := by omega
      rcases this with rfl | rfl | rfl
      · exact place_one (c := 98) (by decide) (by decide)
      · exact place_one (c := 99) (by decide) (by decide)
      · exact place_one (c := 100) (by decide) (by decide)
    refine ⟨?_, rfl, by simp; omega, by simp; omega, by simp; omega, by simp; omega, by simp; omega⟩
    unfold opE
    simp only []
    rw [if_neg (by omega), if_neg (by omega), if_neg (by rw [hm]; simp), if_neg (by omega), if_neg (by rw [hp]; simp), if_neg (by omega)]
theorem paint_mem {raw : List Int} {site : Int} {o : DOp} (h : o ∈ paintI raw site) : ∃ i, i < 12 ∧ o = paintO raw site i := by
  unfold paintI paintL at h
  obtain ⟨i, hi, rfl⟩ := List.mem_map.1 h
  rw [List.mem_range] at hi
  exact ⟨i, by omega, rfl⟩
theorem paint_site {raw : List Int} {site : Int} (hs : 0 ≤ site ∧ site ≤ 1000) {o : DOp} (h : o ∈ paintI raw site) : opE o = 0 ∧ o.site = site ∧ o.clock ≤ 24 ∧ 1 ≤ o.itm ∧ o.itm ≤ 6 ∧ o.prt ≤ 6 := by
  obtain ⟨i, hi, rfl⟩ := paint_mem h
  obtain ⟨h1, h2, h3, h4, h5, h6, h7⟩ := paintO_ok raw hs hi
  exact ⟨h1, h2, by omega, h5, h6, h7⟩
theorem paint_srt (raw : List Int) {site : Int} (hs : 0 ≤ site ∧ site ≤ 1000) : (paintI raw site).Pairwise ltO := by
  unfold paintI paintL
  rw [List.pairwise_map, List.pairwise_iff_getElem]
  intro i j hi hj hij
  simp only [List.length_range] at hi hj
  simp only [List.getElem_range]
  have h1 := paintO_ok raw hs (i := i) (by omega)
  have h2 := paintO_ok raw hs (i := j) (by omega)
  unfold ltO
  omega
theorem paint_uq {U : List DOp} (h : ∀ o ∈ U, ∃ raw site, (0 ≤ site ∧ site ≤ 1000) ∧ o ∈ paintI raw site ∧ ∀ b ∈ U, b.site = site → b ∈ paintI raw site) : UOk U := by
  refine ⟨fun o ho => ?_, fun a ha b hb h1 h2 => ?_⟩
  · obtain ⟨raw, site, hs, hm, -⟩ := h o ho
    exact (paint_site hs hm).1
  · obtain ⟨raw, site, hs, hm, hall⟩ := h a ha
    have ea := (paint_site hs hm).2.1
    have eb : b.site = site := by unfold ltO at h1 h2; omega
    have hb' := hall b hb eb
    have hp := paint_srt raw hs
    have := List.pairwise_iff_getElem.1 hp
    obtain ⟨i, hi, e1⟩ := List.mem_iff_getElem.1 hm
    obtain ⟨j, hj, e2⟩ := List.mem_iff_getElem.1 hb'
    rcases Nat.lt_trichotomy i j with k | k | k
    · have := this i j hi hj k; rw [e1, e2] at this; exact absurd this h1
    · subst k; rw [← e1, ← e2]
    · have := this j i hj hi k; rw [e1, e2] at this; exact absurd this h2
def U3 (p q r : List Int) : List DOp := paintI p 1 ++ (paintI q 2 ++ paintI r 3)
theorem U3_ok (p q r : List Int) : UOk (U3 p q r) := by
  have s1 : ∀ o ∈ paintI p 1, o.site = 1 := fun o ho => (paint_site (by decide) ho).2.1
  have s2 : ∀ o ∈ paintI q 2, o.site = 2 := fun o ho => (paint_site (by decide) ho).2.1
  have s3 : ∀ o ∈ paintI r 3, o.site = 3 := fun o ho => (paint_site (by decide) ho).2.1
  have key : ∀ b ∈ U3 p q r, (b.site = 1 → b ∈ paintI p 1) ∧ (b.site = 2 → b ∈ paintI q 2) ∧ (b.site = 3 → b ∈ paintI r 3) := fun b hb => by
    unfold U3 at hb
    simp only [List.mem_append] at hb
    rcases hb with h | h | h
    · have := s1 b h; exact ⟨fun _ => h, fun _ => by omega, fun _ => by omega⟩
    · have := s2 b h; exact ⟨fun _ => by omega, fun _ => h, fun _ => by omega⟩
    · have := s3 b h; exact ⟨fun _ => by omega, fun _ => by omega, fun _ => h⟩
  refine paint_uq fun o ho => ?_
  have ho' := ho
  unfold U3 at ho'
  simp only [List.mem_append] at ho'
  rcases ho' with h | h | h
  · exact ⟨p, 1, by decide, h, fun b hb e => (key b hb).1 e⟩
  · exact ⟨q, 2, by decide, h, fun b hb e => (key b hb).2.1 e⟩
  · exact ⟨r, 3, by decide, h, fun b hb e => (key b hb).2.2 e⟩
theorem U3_1 (p q r : List Int) : VU (U3 p q r) (paintI p 1) := ⟨paint_srt p (by decide), fun o ho => by unfold U3; simp [ho]⟩
theorem U3_2 (p q r : List Int) : VU (U3 p q r) (paintI q 2) := ⟨paint_srt q (by decide), fun o ho => by unfold U3; simp [ho]⟩
theorem U3_3 (p q r : List Int) : VU (U3 p q r) (paintI r 3) := ⟨paint_srt r (by decide), fun o ho => by unfold U3; simp [ho]⟩
macro "vu" : tactic => `(tactic| repeat' (first | assumption | exact U3_ok _ _ _ | exact U3_1 _ _ _ | exact U3_2 _ _ _ | exact U3_3 _ _ _ | exact VU.nil _ | apply VU.drop | apply VU.uni))
abbrev noO : List DOp := []
end Go.Ch
end
section
set_option linter.unusedVariables false
set_option linter.unusedSimpArgs false
set_option maxRecDepth 100000
set_option maxHeartbeats 4000000
open Go Go.Proofs Go.Ab
namespace Go.Ch
end Go.Ch
end
section
set_option linter.unusedVariables false
set_option linter.unusedSimpArgs false
set_option maxRecDepth 100000
namespace Go.Ch
open Go Go.Ab

variable {its : List DItem} {r : Int → Nat}
theorem kidsI_sorted (h : Its its r) (p : Int) : (kidsI its p).Pairwise fun a b => ltP a b = true := srtP_sorted (filter_uniq h.uq _)
theorem walk_kid {n : Nat} {p : Int} {x : DItem} (hn : 0 < n) (hx : x ∈ its) (hp : x.parent = p) : x ∈ walkI its n p := by
  cases n with
  | zero => omega
  | succ n =>
    simp only [walkI, List.mem_flatMap]
    exact ⟨x, kidsI_mem.2 ⟨hx, hp⟩, List.mem_cons_self⟩
/-- Whoever is below one that is shown is shown. -/
theorem walk_closed (h : Its its r) : ∀ (n : Nat) {p : Int} {x y : DItem}, 0 ≤ p → mu its r p ≤ n → y ∈ walkI its n p → x ∈ its → x.parent = y.item → x ∈ walkI its n p
  | 0, p, x, y, _, _, hy, _, _ => by simp [walkI] at hy
  | n + 1, p, x, y, hp, hn, hy, hx, e => by
    simp only [walkI, List.mem_flatMap, List.mem_cons] at hy ⊢
    obtain ⟨k, hk, hy⟩ := hy
    obtain ⟨k1, k2⟩ := kidsI_mem.1 hk
    have hm := mu_kid h k1 (by omega)
    rw [k2] at hm
    refine ⟨k, hk, .inr ?_⟩
    rcases hy with rfl | hy
    · exact walk_kid (by have := mu_pos its r y.item; omega) hx e
    · exact walk_closed h n (Int.le_of_lt (h.pos k k1)) (by omega) hy hx e
/-- Children of one parent stand in the order of their places. -/
theorem walk_order (h : Its its r) : ∀ (n : Nat) {p : Int}, 0 ≤ p → (walkI its n p).Pairwise fun a b => a.parent = b.parent → ltP a b = true
  | 0, p, _ => by simp [walkI]
  | n + 1, p, hp => by
    simp only [walkI]
    have hu := kidsI_uniq h p
    have hs := kidsI_sorted h p
    have hk : ∀ x ∈ kidsI its p, x ∈ its ∧ x.parent = p := fun x hx => kidsI_mem.1 hx
    generalize kidsI its p = l at *
    induction l with
    | nil => simp
    | cons x l ih =>
      obtain ⟨h1, h2⟩ := hk x List.mem_cons_self
      simp only [UniqI, List.map_cons, List.nodup_cons] at hu
      rw [List.pairwise_cons] at hs
      simp only [List.flatMap_cons]
      rw [List.pairwise_append]
      refine ⟨List.pairwise_cons.2 ⟨fun y hy e => ?_, walk_order h n (Int.le_of_lt (h.pos x h1))⟩, ih hu.2 hs.2 (fun y hy => hk y (List.mem_cons_of_mem _ hy)), fun a ha b hb e => ?_⟩
      · obtain ⟨q1, q2⟩ := walkI_below n hy
        rw [← e] at q2
        exact absurd q2 (fun q => Dn.noback h h1 (by omega) q)
      · simp only [List.mem_flatMap, List.mem_cons] at hb
        obtain ⟨z, hz, hb⟩ := hb
        obtain ⟨k1, k2⟩ := hk z (List.mem_cons_of_mem _ hz)
        have hne : x.item ≠ z.item := fun e => hu.1 (List.mem_map.2 ⟨z, hz, e.symm⟩)
        rcases List.mem_cons.1 ha with rfl | ha <;> rcases hb with rfl | hb
        · exact hs.1 _ hz
        · obtain ⟨q1, q2⟩ := walkI_below n hb
          rw [← e, h2, ← k2] at q2
          exact absurd q2 (fun q => Dn.noback h k1 (by omega) q)
        · obtain ⟨q1, q2⟩ := walkI_below n ha
          rw [e, k2, ← h2] at q2
          exact absurd q2 (fun q => Dn.noback h h1 (by omega) q)
        · have d1 := (walkI_below n ha).2
          have d2 := (walkI_below n hb).2
          rw [e] at d1
          rcases d1.comp h d2 with d | d
          · have := d.inv h k1 rfl hne
            rw [k2, ← h2] at this
            exact absurd this (fun q => Dn.noback h h1 (by omega) q)
          · have := d.inv h h1 rfl hne.symm
            rw [h2, ← k2] at this
            exact absurd this (fun q => Dn.noback h k1 (by omega) q)
/-- A parent stands ahead of its children. -/
theorem walk_before (h : Its its r) : ∀ (n : Nat) {p : Int} {s t : List DItem} {x : DItem}, walkI its n p = s ++ x :: t → x.parent = p ∨ ∃ y ∈ s, y.item = x.parent
  | 0, p, s, t, x, e => by simp [walkI] at e
  | n + 1, p, s, t, x, e => by
    simp only [walkI] at e
    have hk : ∀ x ∈ kidsI its p, x.parent = p := fun x hx => (kidsI_mem.1 hx).2
    generalize kidsI its p = l at *
    induction l generalizing s with
    | nil => simp at e
    | cons k l ih =>
      simp only [List.flatMap_cons, List.cons_append] at e
      cases s with
      | nil =>
        simp only [List.nil_append, List.cons.injEq] at e
        rw [← e.1]; exact .inl (hk k List.mem_cons_self)
      | cons a s =>
        simp only [List.cons_append, List.cons.injEq] at e
        obtain ⟨rfl, e⟩ := e
        rcases List.append_eq_append_iff.1 e with ⟨b, e1, e2⟩ | ⟨b, e1, e2⟩
        · -- beyond this block
          rcases ih (s := b) e2 (fun x hx => hk x (List.mem_cons_of_mem _ hx)) with h' | ⟨y, hy, e'⟩
          · exact .inl h'
          · exact .inr ⟨y, by rw [e1]; simp [hy], e'⟩
        · cases b with
          | nil =>
            simp only [List.nil_append] at e2
            rcases ih (s := []) (by simpa using e2.symm) (fun x hx => hk x (List.mem_cons_of_mem _ hx)) with h' | ⟨y, hy, e'⟩
            · exact .inl h'
            · cases hy
          | cons c b =>
            simp only [List.cons_append, List.cons.injEq] at e2
            obtain ⟨rfl, e2⟩ := e2
            rcases walk_before h n e1 with h' | ⟨y, hy, e'⟩
            · exact .inr ⟨k, List.mem_cons_self, h'.symm⟩
            · exact .inr ⟨y, List.mem_cons_of_mem _ hy, e'⟩
/-- What the statement asks of the items. -/
structure RT (R : List DItem) (n : Nat) (r : Int → Nat) : Prop where
  uq : UniqI DItem.item R
  le : n ≤ R.length
  sh : shownF R 0 = n
  par : ∀ i, i < n → (R.getD i default).parent ∈ 0 :: (R.take i).map DItem.item
  ord : ∀ k i, k < i → i < n → (R.getD k default).parent = (R.getD i default).parent → ltP (R.getD k default) (R.getD i default) = true
  rk : ∀ x ∈ R, 0 < x.parent → r x.parent < r x.item
theorem getDI {l : List DItem} {i : Nat} (h : i < l.length) : l.getD i default = l[i] := by simp [List.getD, List.getElem?_eq_getElem h]
theorem shownF_at {R : List DItem} {n : Nat} (hn : n ≤ R.length) (h1 : ∀ i, i < n → (R.getD i default).parent ∈ 0 :: (R.take i).map DItem.item) (h2 : n < R.length → (R.getD n default).parent ∉ 0 :: (R.take n).map DItem.item) : shownF R 0 = n := by
  have : ∀ (d i : Nat), n - i = d → i ≤ n → shownF R i = n := by
    intro d
    induction d with
    | zero =>
      intro i h hi
      have : i = n := by omega
      subst this
      rw [shownF]
      split
      · rw [if_neg (h2 (by omega))]
      · omega
    | succ d ih =>
      intro i h hi
      rw [shownF, if_pos (by omega), if_pos (h1 i (by omega))]
      exact ih (i + 1) (by omega) (by omega)
  exact this n 0 (by omega) (Nat.zero_le _)
theorem rawI_tree {l : List DOp} (hl : ∀ o ∈ l, 0 < o.itm) : ∃ r, RT (rawI l) (walkF l).length r := by
  obtain ⟨r, hr⟩ := itsF_ok hl
  refine ⟨r, ?_⟩
  have hW : ∀ x ∈ walkF l, x ∈ itsF l := fun x hx => (walkI_below _ hx).1
  have hmu : mu (itsF l) r 0 ≤ (itsF l).length + 1 := by unfold mu; rw [if_pos rfl]; exact Nat.le_refl _
  have hS : ∀ x, x ∈ srtN (itsF l) ↔ x ∈ itsF l := fun x => (srtO_perm ltN _).mem_iff
  have hR : ∀ x ∈ rawI l, x ∈ itsF l := fun x hx => by
    unfold rawI at hx
    rcases List.mem_append.1 hx with h | h
    · exact hW x h
    · exact (hS x).1 (List.mem_filter.1 h).1
  have hpar : ∀ i, i < (walkF l).length → ((rawI l).getD i default).parent ∈ 0 :: ((rawI l).take i).map DItem.item := fun i hi => by
    have e0 : (rawI l).getD i default = (walkF l)[i] := by
      have : i < (rawI l).length := by unfold rawI; simp; omega
      rw [getDI this]; simp [rawI, List.getElem_append_left hi]
    have e1 : (rawI l).take i = (walkF l).take i := by unfold rawI; rw [List.take_append_of_le_length (by omega)]
    rw [e0, e1]
    have hsp : walkI (itsF l) ((itsF l).length + 1) 0 = (walkF l).take i ++ (walkF l)[i] :: (walkF l).drop (i + 1) := by
      show walkF l = _
      rw [← List.drop_eq_getElem_cons hi, List.take_append_drop]
    rcases walk_before hr _ hsp with h | ⟨y, hy, e⟩
    · rw [h]; exact List.mem_cons_self
    · exact List.mem_cons_of_mem _ (List.mem_map.2 ⟨y, hy, e⟩)
  have hle : (walkF l).length ≤ (rawI l).length := by unfold rawI; simp
  refine ⟨?_, hle, shownF_at hle hpar (fun hlt hm => ?_), hpar, fun k i hki hi e => ?_, fun x hx h0 => hr.rk x (hR x hx) h0⟩
  · unfold UniqI rawI
    rw [List.map_append, List.nodup_append]
    refine ⟨walkI_nodup hr _ (Int.le_refl _), ?_, fun a ha b hb e => ?_⟩
    · have : UniqI DItem.item (srtN (itsF l)) := by
        have := hr.uq
        unfold UniqI srtN at *
        exact ((srtO_perm ltN _).map _).nodup_iff.2 this
      exact filter_uniq this _
    · obtain ⟨y, hy, rfl⟩ := List.mem_map.1 hb
      have := (List.mem_filter.1 hy).2
      simp only [decide_eq_true_eq] at this
      exact this (e ▸ ha)
  · -- the first that is not shown
    have e0 : ((rawI l).getD (walkF l).length default) ∈ (srtN (itsF l)).filter fun x => decide (x.item ∉ (walkF l).map DItem.item) := by
      rw [getDI hlt]
      have e2 : (rawI l)[(walkF l).length]? = ((srtN (itsF l)).filter fun x => decide (x.item ∉ (walkF l).map DItem.item))[0]? := by
        unfold rawI; rw [List.getElem?_append_right (Nat.le_refl _), Nat.sub_self]
      exact List.mem_of_getElem? (e2.symm.trans (List.getElem?_eq_getElem hlt))
    have e1 : (rawI l).take (walkF l).length = walkF l := by unfold rawI; rw [List.take_append_of_le_length (Nat.le_refl _), List.take_length]
    obtain ⟨q1, q2⟩ := List.mem_filter.1 e0
    simp only [decide_eq_true_eq] at q2
    rw [e1] at hm
    refine q2 ?_
    have hx := (hS _).1 q1
    rcases List.mem_cons.1 hm with h | h
    · exact List.mem_map_of_mem (walk_kid (by omega) hx h)
    · obtain ⟨y, hy, e⟩ := List.mem_map.1 h
      exact List.mem_map_of_mem (walk_closed hr _ (Int.le_refl _) hmu hy hx e.symm)
  · have hk : k < (walkF l).length := by omega
    have e0 : ∀ i, (hi : i < (walkF l).length) → (rawI l).getD i default = (walkF l)[i] := fun i hi => by
      have : i < (rawI l).length := by omega
      rw [getDI this]; simp [rawI, List.getElem_append_left hi]
    rw [e0 k hk, e0 i hi] at e ⊢
    have := walk_order hr ((itsF l).length + 1) (Int.le_refl 0)
    rw [List.pairwise_iff_getElem] at this
    exact this k i hk hi hki e

/-! ### The way up -/
def nxF (l : List DItem) (up : Int) : Int := l.foldl (fun n y => if y.item = up then y.parent else n) 0
def dpI (R : List DItem) (r : Int → Nat) (up : Int) : Nat := if 0 < up then (R.filter fun y => decide (r y.item ≤ r up ∧ ∃ z ∈ R, z.item = up)).length + 1 else 0
/-- What is above stands ahead. -/
def AbvI (R : List DItem) (n i : Nat) (up : Int) : Prop := 0 < up → i < n → ∃ j, j < i ∧ (R.getD j default).item = up
end Go.Ch
end
section
set_option linter.unusedVariables false
set_option linter.unusedSimpArgs false
set_option maxRecDepth 100000
set_option maxHeartbeats 4000000
open Go Go.Proofs Go.Ab
namespace Go.Ch
end Go.Ch
end
section
set_option linter.unusedVariables false
set_option linter.unusedSimpArgs false
set_option maxRecDepth 100000
namespace Go.Ch
open Go Go.Proofs Go.Ab Go.RowKit Go.Shelf Go.Sort

def srtZ (l : List Int) : List Int := l.mergeSort fun x y => decide (x ≤ y)
theorem int_elt {l : List Int} : ∀ x ∈ l.map intT, Elt 1 x := fun x hx => by
  obtain ⟨r, _, rfl⟩ := List.mem_map.1 hx
  exact ⟨rfl, fun T hT => by simp only [intT, Tree.cells, List.mem_cons, List.not_mem_nil, or_false] at hT; subst hT; rfl⟩
theorem flat_int (l : List Int) (j : Nat) (hj : j < l.length) : (flat (l.map intT))[j]? = some (intT (l[j]'hj)) := by
  have h1 := flat_get (k := 1) (xs := l.map intT) (i := j) (X := intT l[j]) int_elt (by rw [List.getElem?_map, List.getElem?_eq_getElem hj]; rfl) (j := 0) (by omega)
  simpa [intT, Tree.cells] using h1
theorem srtZ_perm (l : List Int) : (srtZ l).Perm l := List.mergeSort_perm l _
theorem srtZ_len (l : List Int) : (srtZ l).length = l.length := (srtZ_perm l).length_eq
theorem fc_sortI (l : List Int) (hn : l.length ≤ 100000000000) :
    FC Try.prog 27 [.row 0 l.length] (app emp [(0, .row 1 false (l.map intT))]) (.tup []) (app emp [(0, .row 1 false ((srtZ l).map intT))]) := by
  intro F m w xs hS hl hv
  match xs, hl with
  | [x0], _ =>
  have v0 := hv 0 _ _ rfl rfl
  have hs0 : app emp [(0, Ob.row 1 false (l.map intT))] 0 = some (.row 1 false (l.map intT)) := rfl
  obtain ⟨a1, a2, a3, a4, a5⟩ := hS.objs 0 _ hs0
  have hlen := srtZ_len l
  cases v0 with
  | rowG _ _ L hs' => rw [hs0] at hs'; cases hs'
  | row _ _ k' fz' xs' L hs' hn' hu' =>
  rw [hs0] at hs'; cases hs'
  have hL := hu' (by simp)
  rw [hL] at a3 a4 a5
  rcases a5 with ⟨q1, q2⟩ | ⟨b, us, e, h1, h2, h3, h4, h5⟩
  · obtain ⟨L1, L2⟩ := L
    simp only at q1 q2
    subst q1 q2
    obtain rfl : l = [] := List.length_eq_zero_iff.1 (by have a3' : (List.map intT l).length ≤ 0 := a3; rw [List.length_map] at a3'; omega)
    have key := Try.slices_Sort_int_none none 0 w
    change Calls Try.prog 27 _ _ _ at key
    refine key.mono ?_
    rintro e' w' ⟨rfl, rfl⟩
    rw [show srtZ [] = [] by simp [srtZ]]
    exact ⟨_, m, rfl, hS, FrameExt.refl F _ m _, .tup [] [] rfl (fun i v u hv => by simp at hv)⟩
  · have hb : b < w.heap.size := (Array.getElem?_eq_some_iff.1 h2).1
    have hsz : l.length ≤ us.size := by rw [h3]; simp at a3; omega
    have hcell : ∀ (W : World) (c : Array Value) (o : Nat), W.heap[b]? = some (.cells c e (0, 0)) → W.cell? ⟨b, o, none⟩ = c[o]? := fun W c o h => by
      unfold World.cell?; simp only [h]; rfl
    have hcu : ∀ (j : Nat) (hj : j < l.length), us[j]? = some (.int .i64 l[j]) := fun j hj => by
      have hu : us[j]? = some us[j] := Array.getElem?_eq_getElem (by omega)
      rw [hu]
      have := h5 j _ _ (flat_int l j hj) hu
      generalize us[j] = u at *
      cases this; rfl
    have hH : Holds (Value.int .i64) w b 0 l.toArray := fun j hj => by
      have hj' : j < l.length := by simpa using hj
      refine ⟨?_, ?_⟩
      · rw [hcell w us _ h2, Nat.zero_add, hcu j hj', getElem!_pos l.toArray j hj]
        simp
      · unfold World.frozen?; simp only [h2]; simp
    have key := Try.slices_Sort_int b 0 L.2 l w hH hb (by omega)
    obtain ⟨L1, L2⟩ := L
    simp only at h1
    subst h1
    have ea : (#[Value.slice (some ⟨b, 0, none⟩) l.length L2] : Array Value) = [rowVal (some b, L2) l.length].toArray := by simp [rowVal]
    rw [ea] at key
    refine key.mono ?_
    rintro e' w' ⟨rfl, n, os, rfl⟩
    have hDs : (srtZ l).toArray.size = l.length := by simp [hlen]
    have hblk : (putRow (Value.int .i64) (Sort.ahead w n) b 0 (srtZ l).toArray).heap[b]? = some (.cells (putCells (Value.int .i64) 0 (srtZ l).toArray us) e (0, 0)) := mapB_at _ h2
    have hcu2 : ∀ (j : Nat) (u : Value), (putCells (Value.int .i64) 0 (srtZ l).toArray us)[j]? = some u → (∃ hj : j < (srtZ l).length, u = .int .i64 (srtZ l)[j]) ∨ (¬ j < (srtZ l).length ∧ us[j]? = some u) := fun j u hu => by
      unfold putCells at hu
      rw [Array.getElem?_mapIdx, Option.map_eq_some_iff] at hu
      obtain ⟨x, hx, hxu⟩ := hu
      split at hxu
      · rename_i hc
        have hj : j < (srtZ l).length := by rw [hDs] at hc; omega
        refine .inl ⟨hj, ?_⟩
        rw [← hxu, Nat.sub_zero, getElem!_pos (srtZ l).toArray j (by simpa using hj)]
        simp
      · rename_i hc
        exact .inr ⟨fun hj => hc ⟨Nat.zero_le _, by rw [hDs]; omega⟩, by rw [hx, hxu]⟩
    have r := rewrite_obj (o' := .row 1 false ((srtZ l).map intT)) hS hs0 rfl (by rw [hL]) (w' := putRow (Value.int .i64) (Sort.ahead w n) b 0 (srtZ l).toArray) rfl rfl rfl
      (by show (w.heap.modify b _).size = _; simp) (fun c hc => mapB_ne (w := Sort.ahead w n) _ hc) (by simp only [Ob.len, List.length_map]; omega) (by simp [Ob.same]) (fun hF => by
        rw [hL]
        refine ⟨a1, int_elt, by simp only [List.length_map] at a3 ⊢; omega, a4, .inr ⟨b, _, e, rfl, hblk, ?_, fun j u hu => ?_, fun j T u hT hu => ?_⟩⟩
        · unfold putCells; rw [Array.size_mapIdx]; exact h3
        · rcases hcu2 j u hu with ⟨hj, rfl⟩ | ⟨_, hu⟩
          · rfl
          · exact h4 j u hu
        · have hj : j < (srtZ l).length := by
            have := (List.getElem?_eq_some_iff.1 hT).1
            rw [flat_len int_elt, List.length_map] at this; omega
          rcases hcu2 j u hu with ⟨hj2, rfl⟩ | ⟨hno, _⟩
          · rw [flat_int (srtZ l) j hj] at hT
            cases hT; exact .sc _ rfl
          · exact absurd hj hno)
    rw [upd_app] at r
    obtain ⟨g1, g2⟩ := grow_obj r.1 os
    exact ⟨_, m, rfl, g1, FrameExt.trans hS r.2 g2, .tup [] [] rfl (fun i v u hv => by simp at hv)⟩
end Go.Ch
end
section
set_option linter.unusedVariables false
set_option linter.unusedSimpArgs false
set_option maxRecDepth 100000
namespace Go.Ch
open Go Go.Ab

/-- The items of a board that is written no more. -/
def itC (x : DItem) : Int × MV := (x.item, .cp [TI x.item, TI x.parent, TS x.place, TL 2 attrT x.attrs])
theorem lookC {l : List DItem} {k : Int} : lookE (l.map itC) k = (findI l k).map fun x => .cp [TI x.item, TI x.parent, TS x.place, TL 2 attrT x.attrs] := lookE_map (f := itC) (key := DItem.item) (fun _ => rfl)
theorem frzC (l : List DItem) : ((l.map itM).map fun x => (x.1, frz x.2)) = l.map itC := by rw [List.map_map]; rfl
def visO (its : List DItem) : Nat → Int → List Int × List DItem → List Int × List DItem
  | 0, _, s => s
  | n + 1, id, s => match findI its id with
    | none => s
    | some x => if id ∈ s.1 then s else ((visO its n x.parent (putK id' s.1 id, s.2)).1, (visO its n x.parent (putK id' s.1 id, s.2)).2 ++ [x])
where id' : Int → Int := fun x => x
theorem visO_none {its : List DItem} {n : Nat} {k : Int} {s : List Int × List DItem} (h : findI its k = none) : visO its n k s = s := by
  cases n with
  | zero => rfl
  | succ n => simp only [visO, h]
theorem visO_done {its : List DItem} {n : Nat} {k : Int} {s : List Int × List DItem} (h : k ∈ s.1) : visO its n k s = s := by
  cases n with
  | zero => rfl
  | succ n =>
    simp only [visO]
    split
    · rfl
    · rw [if_pos h]
theorem visO_new {its : List DItem} {n : Nat} {k : Int} {s : List Int × List DItem} {x : DItem} (h : findI its k = some x) (hk : k ∉ s.1) :
    visO its (n + 1) k s = ((visO its n x.parent (putK id s.1 k, s.2)).1, (visO its n x.parent (putK id s.1 k, s.2)).2 ++ [x]) := by
  simp only [visO, h]
  rw [if_neg hk]
  rfl
theorem visO_len (its : List DItem) : ∀ (n : Nat) (k : Int) (s : List Int × List DItem), (visO its n k s).2.length ≤ s.2.length + n
  | 0, k, s => by simp [visO]
  | n + 1, k, s => by
    simp only [visO]
    split
    · omega
    · split
      · omega
      · rename_i x _ _
        have := visO_len its n x.parent (putK visO.id' s.1 k, s.2)
        simp only [List.length_append, List.length_cons, List.length_nil] at this ⊢
        omega
variable {its : List DItem} {r : Int → Nat}
theorem dp_par (h : Its its r) {x : DItem} (hx : x ∈ its) : dpI its r x.parent < dpI its r x.item := by
  have hu := h.pos x hx
  unfold dpI
  rw [if_pos hu]
  split
  · rename_i hp
    have hlt := h.rk x hx hp
    by_cases hf : ∃ z ∈ its, z.item = x.parent
    · have := filter_lt (l := its) (p := fun z => decide (r z.item ≤ r x.item ∧ ∃ w ∈ its, w.item = x.item)) (q := fun z => decide (r z.item ≤ r x.parent ∧ ∃ w ∈ its, w.item = x.parent))
        (fun z _ hz => by simp only [decide_eq_true_eq] at hz ⊢; exact ⟨by omega, x, hx, rfl⟩) hx (by simp only [decide_eq_true_eq]; exact ⟨Nat.le_refl _, x, hx, rfl⟩) (by simp only [decide_eq_false_iff_not]; omega)
      omega
    · have h0 : (its.filter fun y => decide (r y.item ≤ r x.parent ∧ ∃ z ∈ its, z.item = x.parent)) = [] := by
        rw [List.filter_eq_nil_iff]; intro y _; simp only [decide_eq_true_eq]; exact fun hh => hf hh.2
      have h1 : x ∈ its.filter fun y => decide (r y.item ≤ r x.item ∧ ∃ z ∈ its, z.item = x.item) := List.mem_filter.2 ⟨hx, by simp only [decide_eq_true_eq]; exact ⟨Nat.le_refl _, x, hx, rfl⟩⟩
      have := List.length_pos_of_mem h1
      rw [h0]; simp only [List.length_nil]; omega
  · omega
theorem dp_le (its : List DItem) (r : Int → Nat) (k : Int) : dpI its r k ≤ its.length + 1 := by
  unfold dpI
  split
  · have := List.length_filter_le (fun y => decide (r y.item ≤ r k ∧ ∃ z ∈ its, z.item = k)) its
    omega
  · omega
/-- The numbers of the items, in order. -/
def ordO (its : List DItem) : List DItem := ((srtZ (its.map DItem.item)).foldl (fun s k => visO its (its.length + 2) k s) ([], [])).2
theorem srtZ_sorted {l : List Int} (hn : l.Nodup) : (srtZ l).Pairwise (· < ·) := by
  have h1 : (srtZ l).Pairwise fun a b => decide (a ≤ b) = true := List.pairwise_mergeSort (fun a b c h k => by simp only [decide_eq_true_eq] at *; omega) (fun a b => by simp only [Bool.or_eq_true, decide_eq_true_eq]; omega) l
  have h2 : (srtZ l).Nodup := (srtZ_perm l).nodup_iff.2 hn
  have := h1.and h2
  exact this.imp (fun {a b} h => by have h3 := h.1; have h4 := h.2; simp only [decide_eq_true_eq] at h3; omega)
theorem srtZ_eq {l l' : List Int} (h : l.Perm l') (hn : l.Nodup) : srtZ l = srtZ l' :=
  perm_strict (R := fun a b : Int => a < b) (fun a b h k => by omega) (((srtZ_perm l).trans h).trans (srtZ_perm l').symm) (srtZ_sorted hn) (srtZ_sorted (h.nodup_iff.1 hn))
def ordF (its : List DItem) (i : Nat) : List Int × List DItem := ((srtZ (its.map DItem.item)).take i).foldl (fun s k => visO its (its.length + 2) k s) ([], [])
theorem ordF_succ {its : List DItem} {i : Nat} (h : i < (srtZ (its.map DItem.item)).length) : ordF its (i + 1) = visO its (its.length + 2) ((srtZ (its.map DItem.item)).getD i default) (ordF its i) := by
  unfold ordF
  rw [List.take_succ_eq_append_getElem h, List.foldl_append]
  simp [List.getD, List.getElem?_eq_getElem h]
theorem ordF_all (its : List DItem) {i : Nat} (h : (srtZ (its.map DItem.item)).length ≤ i) : (ordF its i).2 = ordO its := by
  unfold ordF ordO
  rw [List.take_of_length_le h]
theorem keys_perm {its : List DItem} {q : List Nat} (hq : q.Nodup) (h1 : ∀ i ∈ q, i < its.length) (h2 : ∀ i, i < its.length → i ∈ q) : (q.map fun i => (its.getD i default).item).Perm (its.map DItem.item) := by
  have h := (seen_perm hq h1 h2).map fun i => (its.getD i default).item
  have e : (List.range its.length).map (fun i => (its.getD i default).item) = its.map DItem.item := by
    apply List.ext_getElem (by simp)
    intro i hi hj
    simp at hi
    simp [List.getD, List.getElem?_eq_getElem hi]
  rwa [e] at h
theorem key_at {its : List DItem} {q : List Nat} {i : Nat} (h : i < its.length) : its.length = its.length ∧ (q ++ [i]).getLast? = some i ∧ ((its.map itC)[i]?).map (·.1) = some (its.getD i default).item := by
  refine ⟨rfl, by simp, ?_⟩
  rw [List.getElem?_map, List.getElem?_eq_getElem h]
  simp [itC, List.getD, List.getElem?_eq_getElem h]
end Go.Ch
end
section
set_option linter.unusedVariables false
set_option linter.unusedSimpArgs false
set_option maxRecDepth 100000
set_option maxHeartbeats 4000000
open Go Go.Proofs Go.Ab
namespace Go.Ch
theorem fc_visit1 (its : List DItem) (ats : List (Int × List Attr)) (r : Int → Nat) (hI : Its its r) (n : Nat) (ih : ∀ (k : Int) (S : List Int) (o : List DItem), dpI its r k < n → o.length + n ≤ 10000000000 → FC Try.prog 42 [VI k, .ptr 0 0, .ptr 4 0, .ptr 6 0, .ptr 7 0] (app emp [(0, .box [.ptr 1 0]), (1, .box [.hdl 2, .hdl 3]), (2, .mp (List.map itC its) none), (3, .mp (List.map atM ats) none), (4, .box [.hdl 5]), (5, .mp (List.map onM S) none), (6, .box [.fn 42 [.ptr 0 0, .ptr 4 0, .ptr 6 0, .ptr 7 0]]), (7, .box [.row 8 o.length]), (8, OR 4 ditT o)]) (.tup []) (app emp [(0, .box [.ptr 1 0]), (1, .box [.hdl 2, .hdl 3]), (2, .mp (List.map itC its) none), (3, .mp (List.map atM ats) none), (4, .box [.hdl 5]), (5, .mp (List.map onM ((visO its n k (S, o)).1)) none), (6, .box [.fn 42 [.ptr 0 0, .ptr 4 0, .ptr 6 0, .ptr 7 0]]), (7, .box [.row 8 (((visO its n k (S, o)).2).length)]), (8, OR 4 ditT ((visO its n k (S, o)).2))])) (k : Int) (S : List Int) (o : List DItem) (hd : dpI its r k < n + 1) (ho : o.length + (n + 1) ≤ 10000000000) : FC Try.prog 42 [VI k, .ptr 0 0, .ptr 4 0, .ptr 6 0, .ptr 7 0] (app emp [(0, .box [.ptr 1 0]), (1, .box [.hdl 2, .hdl 3]), (2, .mp (List.map itC its) none), (3, .mp (List.map atM ats) none), (4, .box [.hdl 5]), (5, .mp (List.map onM S) none), (6, .box [.fn 42 [.ptr 0 0, .ptr 4 0, .ptr 6 0, .ptr 7 0]]), (7, .box [.row 8 o.length]), (8, OR 4 ditT o)]) (.tup []) (app emp [(0, .box [.ptr 1 0]), (1, .box [.hdl 2, .hdl 3]), (2, .mp (List.map itC its) none), (3, .mp (List.map atM ats) none), (4, .box [.hdl 5]), (5, .mp (List.map onM ((visO its (n + 1) k (S, o)).1)) none), (6, .box [.fn 42 [.ptr 0 0, .ptr 4 0, .ptr 6 0, .ptr 7 0]]), (7, .box [.row 8 (((visO its (n + 1) k (S, o)).2).length)]), (8, OR 4 ditT ((visO its (n + 1) k (S, o)).2))]) := by
 refine .go Try.f42 ?_
 rcases hf : findI its k with _ | x
 ·
  refine .br [.r [(5, X (Xm0 (List.map itC its) k) (by rw [lookC, hf]; rfl))], .r [(5, Xv 2 (!true) (Xmt (List.map onM S) k (TB false) (TB (decide (k ∈ S)))) (fun hg => by (try simp only [Bool.not_eq_true', Bool.not_eq_false'] at hg); exact lookS)), (6, X (Xk' true))]] (true || (decide (k ∈ S))) (fun h1 => ?_) (fun h1 => ?_)
  ·
   (try simp only [decide_eq_true_eq, decide_eq_false_iff_not, Int.not_lt, Int.not_le, Bool.or_eq_true, Bool.or_eq_false_iff] at h1)
   have e1 : ((visO its (n + 1) k (S, o)).1 : List Int) = S := by
    first
     | rw [visO_none hf]
     | rw [visO_done (s := (S, o)) (by simpa using h1)]
     | rw [visO_new (s := (S, o)) hf (by simpa using h1)]
   have e2 : (((visO its (n + 1) k (S, o)).2).length : Nat) = o.length := by
    first
     | rw [visO_none hf]
     | rw [visO_done (s := (S, o)) (by simpa using h1)]
     | rw [visO_new (s := (S, o)) hf (by simpa using h1)]
   have e3 : ((visO its (n + 1) k (S, o)).2 : List DItem) = o := by
    first
     | rw [visO_none hf]
     | rw [visO_done (s := (S, o)) (by simpa using h1)]
     | rw [visO_new (s := (S, o)) hf (by simpa using h1)]
   exact .finE [] [(0, 0), (1, 1), (2, 2), (3, 3), (4, 4), (5, 5), (6, 6), (7, 7), (8, 8)] (fun (z0, z1, z2) => (.tup [], [(0, .box [.ptr 1 0]), (1, .box [.hdl 2, .hdl 3]), (2, .mp (List.map itC its) none), (3, .mp (List.map atM ats) none), (4, .box [.hdl 5]), (5, .mp (List.map onM z0) none), (6, .box [.fn 42 [.ptr 0 0, .ptr 4 0, .ptr 6 0, .ptr 7 0]]), (7, .box [.row 8 z1]), (8, OR 4 ditT z2)])) ((S : List Int), (o.length : Nat), (o : List DItem)) (((visO its (n + 1) k (S, o)).1 : List Int), (((visO its (n + 1) k (S, o)).2).length : Nat), ((visO its (n + 1) k (S, o)).2 : List DItem)) (pr e1 (pr e2 e3))
  ·
   (try simp only [decide_eq_true_eq, decide_eq_false_iff_not, Int.not_lt, Int.not_le, Bool.or_eq_true, Bool.or_eq_false_iff] at h1)
   exfalso
   simp at h1
 ·
  refine .br [.r [(5, X (Xm1c (List.map itC its) k [TI x.item, TI x.parent, TS x.place, TL 2 attrT x.attrs]) (by rw [lookC, hf]; rfl))], .r [(5, Xv 2 (!false) (Xmt (List.map onM S) k (TB false) (TB (decide (k ∈ S)))) (fun hg => by (try simp only [Bool.not_eq_true', Bool.not_eq_false'] at hg); exact lookS)), (6, X (Xk' false))]] (false || (decide (k ∈ S))) (fun h1 => ?_) (fun h1 => ?_)
  ·
   (try simp only [decide_eq_true_eq, decide_eq_false_iff_not, Int.not_lt, Int.not_le, Bool.or_eq_true, Bool.or_eq_false_iff] at h1)
   have e4 : ((visO its (n + 1) k (S, o)).1 : List Int) = S := by
    first
     | rw [visO_none hf]
     | rw [visO_done (s := (S, o)) (by simpa using h1)]
     | rw [visO_new (s := (S, o)) hf (by simpa using h1)]
   have e5 : (((visO its (n + 1) k (S, o)).2).length : Nat) = o.length := by
    first
     | rw [visO_none hf]
     | rw [visO_done (s := (S, o)) (by simpa using h1)]
     | rw [visO_new (s := (S, o)) hf (by simpa using h1)]
   have e6 : ((visO its (n + 1) k (S, o)).2 : List DItem) = o := by
    first
     | rw [visO_none hf]
     | rw [visO_done (s := (S, o)) (by simpa using h1)]
     | rw [visO_new (s := (S, o)) hf (by simpa using h1)]
   exact .finE [] [(0, 0), (1, 1), (2, 2), (3, 3), (4, 4), (5, 5), (6, 6), (7, 7), (8, 8)] (fun (z0, z1, z2) => (.tup [], [(0, .box [.ptr 1 0]), (1, .box [.hdl 2, .hdl 3]), (2, .mp (List.map itC its) none), (3, .mp (List.map atM ats) none), (4, .box [.hdl 5]), (5, .mp (List.map onM z0) none), (6, .box [.fn 42 [.ptr 0 0, .ptr 4 0, .ptr 6 0, .ptr 7 0]]), (7, .box [.row 8 z1]), (8, OR 4 ditT z2)])) ((S : List Int), (o.length : Nat), (o : List DItem)) (((visO its (n + 1) k (S, o)).1 : List Int), (((visO its (n + 1) k (S, o)).2).length : Nat), ((visO its (n + 1) k (S, o)).2 : List DItem)) (pr e4 (pr e5 e6))
  ·
   (try simp only [decide_eq_true_eq, decide_eq_false_iff_not, Int.not_lt, Int.not_le, Bool.or_eq_true, Bool.or_eq_false_iff] at h1)
   have hx := (find_at hf).1
   have hk2 := (find_at hf).2
   have hdk : dpI its r x.parent < n := by have := dp_par hI hx; rw [hk2] at this; omega
   have hok : o.length + n ≤ 10000000000 := by omega
   have hvl : (visO its n x.parent (putK id S k, o)).2.length ≤ o.length + n := visO_len its n x.parent (putK id S k, o)
   have e7 : ((visO its (n + 1) k (S, o)).1 : List Int) = (visO its n x.parent ((putK id S k), o)).1 := by
    first
     | rw [visO_none hf]
     | rw [visO_done (s := (S, o)) (by simpa using h1)]
     | rw [visO_new (s := (S, o)) hf (by simpa using h1)]
   have e8 : (((visO its (n + 1) k (S, o)).2).length : Nat) = (((visO its n x.parent ((putK id S k), o)).2) ++ [x]).length := by
    first
     | rw [visO_none hf]
     | rw [visO_done (s := (S, o)) (by simpa using h1)]
     | rw [visO_new (s := (S, o)) hf (by simpa using h1)]
   have e9 : ((visO its (n + 1) k (S, o)).2 : List DItem) = (((visO its n x.parent ((putK id S k), o)).2) ++ [x]) := by
    first
     | rw [visO_none hf]
     | rw [visO_done (s := (S, o)) (by simpa using h1)]
     | rw [visO_new (s := (S, o)) hf (by simpa using h1)]
   exact .finE [.r [(2, X (Xmu onM S (putK id S k) k 5 (.im (TB true))) putS)], .r [(5, X (Xc3 217 [(0, 0), (1, 1), (2, 2), (3, 3), (4, 4), (5, 5), (6, 6), (7, 7), (8, 8)] (ih x.parent (putK id S k) o hdk hok) X0))], .r [(5, X (rowC ditT [x] (Xap 4 ditT 8 ((visO its n x.parent ((putK id S k), o)).2) [x])))]] [(0, 0), (1, 1), (2, 2), (3, 3), (4, 4), (5, 5), (6, 6), (7, 7), (8, 8)] (fun (z0, z1, z2) => (.tup [], [(0, .box [.ptr 1 0]), (1, .box [.hdl 2, .hdl 3]), (2, .mp (List.map itC its) none), (3, .mp (List.map atM ats) none), (4, .box [.hdl 5]), (5, .mp (List.map onM z0) none), (6, .box [.fn 42 [.ptr 0 0, .ptr 4 0, .ptr 6 0, .ptr 7 0]]), (7, .box [.row 8 z1]), (8, OR 4 ditT z2)])) (((visO its n x.parent ((putK id S k), o)).1 : List Int), ((((visO its n x.parent ((putK id S k), o)).2) ++ [x]).length : Nat), ((((visO its n x.parent ((putK id S k), o)).2) ++ [x]) : List DItem)) (((visO its (n + 1) k (S, o)).1 : List Int), (((visO its (n + 1) k (S, o)).2).length : Nat), ((visO its (n + 1) k (S, o)).2 : List DItem)) (pr e7 (pr e8 e9))

theorem fc_visit (its : List DItem) (ats : List (Int × List Attr)) (r : Int → Nat) (hI : Its its r) : ∀ (n : Nat), ∀ (k : Int) (S : List Int) (o : List DItem), dpI its r k < n → o.length + n ≤ 10000000000 → FC Try.prog 42 [VI k, .ptr 0 0, .ptr 4 0, .ptr 6 0, .ptr 7 0] (app emp [(0, .box [.ptr 1 0]), (1, .box [.hdl 2, .hdl 3]), (2, .mp (List.map itC its) none), (3, .mp (List.map atM ats) none), (4, .box [.hdl 5]), (5, .mp (List.map onM S) none), (6, .box [.fn 42 [.ptr 0 0, .ptr 4 0, .ptr 6 0, .ptr 7 0]]), (7, .box [.row 8 o.length]), (8, OR 4 ditT o)]) (.tup []) (app emp [(0, .box [.ptr 1 0]), (1, .box [.hdl 2, .hdl 3]), (2, .mp (List.map itC its) none), (3, .mp (List.map atM ats) none), (4, .box [.hdl 5]), (5, .mp (List.map onM ((visO its n k (S, o)).1)) none), (6, .box [.fn 42 [.ptr 0 0, .ptr 4 0, .ptr 6 0, .ptr 7 0]]), (7, .box [.row 8 (((visO its n k (S, o)).2).length)]), (8, OR 4 ditT ((visO its n k (S, o)).2))])
  | 0, k, S, o, hd, _ => absurd hd (by omega)
  | n + 1, k, S, o, hd, ho => fc_visit1 its ats r hI n (fc_visit its ats r hI n) k S o hd ho

theorem fc_ordered (its : List DItem) (ats : List (Int × List Attr)) (r : Int → Nat) (hI : Its its r) (hn : its.length ≤ 1000) : FC Try.prog 26 [.ptr 0 0] (app emp [(0, .box [.hdl 1, .hdl 2]), (1, .mp (List.map itC its) none), (2, .mp (List.map atM ats) none)]) (VL 4 ditT (ordO its)) (app emp [(0, .box [.hdl 1, .hdl 2]), (1, .mp (List.map itC its) none), (2, .mp (List.map atM ats) none)]) := by
 refine .go Try.f26 ?_
 refine .loop (α := List Nat × (List Int)) [.r [], .r [], .r [(4, X (Xmg itC its 1 59))], .le (.nR 3 1)] 68 (fun (q, ids) => ([(1, .ptr 3 0), (3, .row 67 ids.length), (14, .hdl 59)], [(0, .box [.hdl 1, .hdl 2]), (1, .mp (List.map itC its) none), (2, .mp (List.map atM ats) none), (3, .box [.ptr 0 0]), (59, .miter 1 its.length q), (67, OR 1 intT ids)])) (fun (q, ids) => q.Nodup ∧ (∀ i ∈ q, i < its.length) ∧ ids = q.map (fun i => (its.getD i default).item)) (fun (q, ids) => its.length - q.length) ([], []) ?_ ?_
 ·
  exact ⟨List.nodup_nil, (fun i hi => by cases hi), rfl⟩
 rintro ⟨q, ids⟩ I3 ih3
 try dsimp only at I3
 refine .next [] its.length q (List.map itC its) (by rw [List.length_map]) (fun i3 hi3 hn3 => ?_) (fun ha3 => ?_)
 ·
  have hnd : (q ++ [i3]).Nodup := by
   rw [List.nodup_append]; refine ⟨I3.1, by simp, fun a ha b hb e => ?_⟩; simp at hb; subst hb e; exact hn3 ha
  have hmem : ∀ j ∈ q ++ [i3], j < its.length := fun j hj => by
   rcases List.mem_append.1 hj with h | h
   · exact I3.2.1 j h
   · simp at h; subst h; exact hi3
  have hql := nodup_len _ _ hnd hmem
  have hal : ids.length ≤ 1000 := by
   rw [List.length_append] at hql; rw [I3.2.2, List.length_map]; omega
  refine .back [.t, .r [(0, X (Xe0 itC its 1 its.length (q ++ [i3]) i3 ((its.getD i3 default).item)) (key_at hi3))], .r [(3, X (rowC intT [(its.getD i3 default).item] (Xap 1 intT 67 ids [(its.getD i3 default).item])))]] [(0, 0), (1, 1), (2, 2), (3, 3), (59, 59), (67, 67)] (ih3 ((q ++ [i3]), (ids ++ [(its.getD i3 default).item])) ?_ ?_)
  ·
   exact ⟨hnd, hmem, by rw [List.map_append, ← I3.2.2]; rfl⟩
  ·
   (try dsimp only); rw [List.length_append, List.length_singleton] at *; omega
 ·
  have hp : ids.Perm (its.map DItem.item) := by rw [I3.2.2]; exact keys_perm I3.1 I3.2.1 ha3
  have hsz : srtZ ids = srtZ (its.map DItem.item) := srtZ_eq hp (hp.nodup_iff.2 hI.uq)
  have hil : ids.length = its.length := by rw [hp.length_eq, List.length_map]
  have hsl := srtZ_len ids
  refine .loop (α := Nat × List Int × (List DItem)) [.f, .r [(1, X (Xc3 92 [(0, 67)] (fc_sortI ids (by omega)) X0))], .r [], .r [], .r [], .r [], .le (.nB 100 0 4), .r []] 181 (fun (i, S, o) => ([(5, .ptr 100 0), (7, .ptr 132 0), (27, .row 67 ids.length), (28, VI (ids.length : Int)), (29, VI (i : Int))], [(0, .box [.hdl 1, .hdl 2]), (1, .mp (List.map itC its) none), (2, .mp (List.map atM ats) none), (3, .box [.ptr 0 0]), (67, OR 1 intT (srtZ ids)), (100, .box [.row 156 o.length]), (108, .mp (List.map onM S) none), (116, .box [.hdl 108]), (132, .box [.fn 42 [.ptr 3 0, .ptr 116 0, .ptr 132 0, .ptr 100 0]]), (156, OR 4 ditT o)])) (fun (i, S, o) => i ≤ ids.length ∧ (S, o) = ordF its i ∧ o.length ≤ i * 1002) (fun (i, S, o) => ids.length - i) (0, [], []) ?_ ?_
  ·
   exact ⟨Nat.zero_le _, by simp [ordF], by simp⟩
  rintro ⟨i, S, o⟩ I12 ih12
  try dsimp only at I12
  refine .br [.r []] (decide ((i : Int) < (ids.length : Int))) (fun h12 => ?_) (fun h12 => ?_)
  ·
   (try simp only [decide_eq_true_eq, decide_eq_false_iff_not, Int.not_lt, Int.not_le] at h12)
   refine .back [.r [(0, X (Xpn ids.length intT (srtZ ids) (i : Int))), (1, X (Xen ids.length intT (srtZ ids) i))], .r [(2, X (Xc3 229 [(0, 3), (1, 0), (2, 1), (3, 2), (4, 116), (5, 108), (6, 132), (7, 100), (8, 156)] (fc_visit its ats r hI (its.length + 2) ((srtZ ids).getD i default) S o (by have := dp_le its r ((srtZ ids).getD i default); omega) (by omega)) X0))], .r [(0, X (Xn ((i : Int) + 1)))]] [(0, 0), (1, 1), (2, 2), (3, 3), (67, 67), (100, 100), (108, 108), (116, 116), (132, 132), (156, 156)] (ih12 ((i + 1), (visO its (List.length its + 2) ((srtZ ids).getD i default) (S, o)).1, (visO its (List.length its + 2) ((srtZ ids).getD i default) (S, o)).2) ?_ ?_)
   ·
    have hvl := visO_len its (its.length + 2) ((srtZ ids).getD i default) (S, o)
    refine ⟨by omega, ?_, by dsimp only at hvl; omega⟩
    rw [ordF_succ (by rw [← hsz, hsl]; omega), ← I12.2.1, hsz]
   ·
    ((try dsimp only); omega)
  ·
   (try simp only [decide_eq_true_eq, decide_eq_false_iff_not, Int.not_lt, Int.not_le] at h12)
   have e1 : ((ordO its) : List DItem) = o := by
    rw [← ordF_all its (i := i) (by rw [← hsz, hsl]; omega), ← I12.2.1]
   exact .finE [.r [], .le (.fr 2 [(o.length : Nat) = (List.map ditT o).length] ⟨lm, trivial⟩)] [(0, 0), (1, 1), (2, 2)] (fun z0 => (VL 4 ditT z0, [(0, .box [.hdl 1, .hdl 2]), (1, .mp (List.map itC its) none), (2, .mp (List.map atM ats) none)])) (o : List DItem) ((ordO its) : List DItem) e1
end Go.Ch
end
section
set_option linter.unusedVariables false
set_option linter.unusedSimpArgs false
set_option maxRecDepth 100000
namespace Go.Ch
open Go Go.Ab

/-- With a new stamp. -/
def stpO (o : DOp) (c s : Int) : DOp := ⟨c, s, o.kind, o.itm, o.prt, o.plc, o.nm, o.vl⟩
def movO (k p : Int) (s : ByteArray) : DOp := ⟨0, 0, 0, k, p, s, mt, mt⟩
def setO (k : Int) (a : Attr) : DOp := ⟨0, 0, 1, k, 0, mt, a.name, a.val⟩
/-- Operations that are stamped one after the other. -/
def stpL (c s : Int) (l : List DOp) : List DOp := l.zipIdx.map fun p => stpO p.1 (c + p.2) s
@[simp] theorem stpL_len (c s : Int) (l : List DOp) : (stpL c s l).length = l.length := by simp [stpL]
theorem stpL_snoc (c s : Int) (l : List DOp) (o : DOp) : stpL c s l ++ [stpO o (c + l.length) s] = stpL c s (l ++ [o]) := by
  unfold stpL
  rw [List.zipIdx_append, List.map_append]
  simp
/-! ### The operations -/
def mv1 (T : List DItem) (x : DItem) : List DOp := if (findI T x.item).isSome = false ∧ x.parent ≠ -1 then [movO x.item (-1) x.place] else []
def mv2 (N : List DItem) (x : DItem) : List DOp := match findI N x.item with
  | none => [movO x.item x.parent x.place]
  | some y => if y.parent ≠ x.parent ∨ seq y.place x.place = false then [movO x.item x.parent x.place] else []
def sts (a b : List (Int × List Attr)) (k : Int) : List DOp := (fm chgG (findA a k) (findA b k)).map (setO k)
def keysA (a b : List (Int × List Attr)) : List Int := srtZ (addS (addS [] (a.map Prod.fst)) (b.map Prod.fst))
def tw1 (N T : List DItem) : List DOp := (ordO N).flatMap (mv1 T)
def tw2 (N T : List DItem) : List DOp := (ordO T).flatMap (mv2 N)
def tw3 (a b : List (Int × List Attr)) : List DOp := (keysA a b).flatMap (sts a b)
def twF {α : Type} (l : List α) (f : α → List DOp) (i : Nat) : List DOp := (l.take i).flatMap f
theorem twF_succ {α : Type} [Inhabited α] {l : List α} {f : α → List DOp} {i : Nat} (h : i < l.length) : twF l f (i + 1) = twF l f i ++ f (l.getD i default) := by
  unfold twF
  rw [List.take_succ_eq_append_getElem h, List.flatMap_append]
  simp [List.getD, List.getElem?_eq_getElem h]
theorem twF_all {α : Type} {l : List α} {f : α → List DOp} {i : Nat} (h : l.length ≤ i) : twF l f i = l.flatMap f := by
  unfold twF; rw [List.take_of_length_le h]
theorem putK_len2 {l : List Int} {k : Int} : (putK id l k).length ≤ l.length + 1 := putK_len
theorem addS_snoc (S l : List Int) (k : Int) : addS S (l ++ [k]) = putK id (addS S l) k := by unfold addS; rw [List.foldl_append]; rfl
theorem addS_uniq {l : List Int} : ∀ {S : List Int}, UniqI id S → UniqI id (addS S l) := by
  induction l with
  | nil => intro S h; exact h
  | cons a l ih => intro S h; exact ih h.putK
theorem addS_perm {S l l' : List Int} (hS : UniqI id S) (h : l.Perm l') : (addS S l).Perm (addS S l') := by
  have h1 : (addS S l).Nodup := by have := addS_uniq (l := l) hS; unfold UniqI at this; rwa [List.map_id] at this
  have h2 : (addS S l').Nodup := by have := addS_uniq (l := l') hS; unfold UniqI at this; rwa [List.map_id] at this
  rw [List.perm_ext_iff_of_nodup h1 h2]
  intro a
  rw [addS_mem, addS_mem, h.mem_iff]
theorem addS_len (S l : List Int) : (addS S l).length ≤ S.length + l.length := by
  induction l generalizing S with
  | nil => simp [addS]
  | cons a l ih =>
    have h1 := ih (putK id S a)
    have h2 := putK_len2 (l := S) (k := a)
    have e : addS S (a :: l) = addS (putK id S a) l := rfl
    rw [e, List.length_cons]; omega
theorem key_atA {l : List (Int × List Attr)} {q : List Nat} {i : Nat} (h : i < l.length) : l.length = l.length ∧ (q ++ [i]).getLast? = some i ∧ ((l.map atM)[i]?).map (·.1) = some (l.getD i default).1 := by
  refine ⟨rfl, by simp, ?_⟩
  rw [List.getElem?_map, List.getElem?_eq_getElem h]
  simp [atM, List.getD, List.getElem?_eq_getElem h]
theorem key_atS {l : List Int} {q : List Nat} {i : Nat} (h : i < l.length) : l.length = l.length ∧ (q ++ [i]).getLast? = some i ∧ ((l.map onM)[i]?).map (·.1) = some (l.getD i default) := by
  refine ⟨rfl, by simp, ?_⟩
  rw [List.getElem?_map, List.getElem?_eq_getElem h]
  simp [onM, List.getD, List.getElem?_eq_getElem h]
theorem twF_le {α : Type} (l : List α) (f : α → List DOp) (i : Nat) : (twF l f i).length ≤ (l.flatMap f).length := by
  unfold twF
  have h : l.flatMap f = (l.take i).flatMap f ++ (l.drop i).flatMap f := by rw [← List.flatMap_append, List.take_append_drop]
  rw [h, List.length_append]; omega
theorem play_its {l : List DOp} (hl : ∀ o ∈ l, 0 < o.itm) : ∃ r, Its (playP l).1 r := by
  have h := playP_ok' hl
  obtain ⟨r, hr⟩ := h.rank
  exact ⟨r, hr, h.uniq, h.pos⟩
theorem ordO_len (its : List DItem) : (ordO its).length ≤ its.length * (its.length + 2) := by
  have key : ∀ (l : List Int) (s : List Int × List DItem), (l.foldl (fun s k => visO its (its.length + 2) k s) s).2.length ≤ s.2.length + l.length * (its.length + 2) := by
    intro l
    induction l with
    | nil => intro s; simp
    | cons a l ih =>
      intro s
      have h1 := ih (visO its (its.length + 2) a s)
      have h2 := visO_len its (its.length + 2) a s
      rw [List.foldl_cons, List.length_cons, Nat.succ_mul]
      omega
  have := key (srtZ (its.map DItem.item)) ([], [])
  rw [srtZ_len, List.length_map] at this
  unfold ordO
  simpa using this
theorem ordO_lim {its : List DItem} (h : its.length ≤ 1000) : (ordO its).length ≤ 1002000 := by
  have h1 := ordO_len its
  have h2 : its.length * (its.length + 2) ≤ 1000 * 1002 := Nat.mul_le_mul h (by omega)
  omega
theorem perm_getD {α β : Type} [Inhabited α] (f : α → β) {l : List α} {q : List Nat} (hq : q.Nodup) (h1 : ∀ i ∈ q, i < l.length) (h2 : ∀ i, i < l.length → i ∈ q) :
    (q.map fun i => f (l.getD i default)).Perm (l.map f) := by
  have hp : q.Perm (List.range l.length) := by
    rw [List.perm_ext_iff_of_nodup hq List.nodup_range]
    intro i; rw [List.mem_range]; exact ⟨h1 i, h2 i⟩
  have h := hp.map fun i => f (l.getD i default)
  have e : (List.range l.length).map (fun i => f (l.getD i default)) = l.map f := by
    apply List.ext_getElem (by simp)
    intro i hi hj
    simp at hi
    simp [List.getD, List.getElem?_eq_getElem hi]
  rwa [e] at h
theorem uniq_id {S : List Int} (h : UniqI id S) : S.Nodup := by unfold UniqI at h; rwa [List.map_id] at h
theorem addS_perm2 {S S' l l' : List Int} (hS : UniqI id S) (hS' : UniqI id S') (hs : S.Perm S') (h : l.Perm l') : (addS S l).Perm (addS S' l') := by
  rw [List.perm_ext_iff_of_nodup (uniq_id (addS_uniq hS)) (uniq_id (addS_uniq hS'))]
  intro a
  rw [addS_mem, addS_mem, hs.mem_iff, h.mem_iff]
/-- Whatever the order of the two ranges, and of the third: the sorted numbers. -/
theorem keys_all {a b : List (Int × List Attr)} {q q2 q3 : List Nat} {S S2 all : List Int} (hS : S = addS [] (q.map (fun i => (a.getD i default).1))) (hS2 : S2 = addS S (q2.map (fun i => (b.getD i default).1)))
    (hall : all = q3.map (fun i => S2.getD i default)) (n1 : q.Nodup) (l1 : ∀ i ∈ q, i < a.length) (a1 : ∀ i, i < a.length → i ∈ q) (n2 : q2.Nodup) (l2 : ∀ i ∈ q2, i < b.length) (a2 : ∀ i, i < b.length → i ∈ q2)
    (n3 : q3.Nodup) (l3 : ∀ i ∈ q3, i < S2.length) (a3 : ∀ i, i < S2.length → i ∈ q3) : srtZ all = keysA a b ∧ all.length = S2.length := by
  have u0 : UniqI id ([] : List Int) := List.nodup_nil
  have p1 := perm_getD (fun x : Int × List Attr => x.1) n1 l1 a1
  have p2 := perm_getD (fun x : Int × List Attr => x.1) n2 l2 a2
  have p3 := perm_getD (fun x : Int => x) n3 l3 a3
  rw [List.map_id'] at p3
  have hu : UniqI id S := by rw [hS]; exact addS_uniq u0
  have hp : S2.Perm (addS (addS [] (a.map Prod.fst)) (b.map Prod.fst)) := by
    rw [hS2]
    exact addS_perm2 hu (addS_uniq u0) (by rw [hS]; exact addS_perm u0 p1) p2
  have hn : S2.Nodup := by rw [hS2]; exact uniq_id (addS_uniq hu)
  have hpa : all.Perm S2 := by rw [hall]; exact p3
  exact ⟨srtZ_eq (hpa.trans hp) (hpa.nodup_iff.2 hn), hpa.length_eq⟩
theorem stpL_append (c s : Int) (l m : List DOp) : stpL c s (l ++ m) = stpL c s l ++ stpL (c + (l.length : Int)) s m := by
  unfold stpL
  rw [List.zipIdx_append, List.map_append]
  congr 1
  rw [Nat.zero_add]
  apply List.ext_getElem (by simp)
  intro i h1 h2
  simp [Int.add_assoc]
theorem take_succG {α : Type} [Inhabited α] {l : List α} {j : Nat} (h : j < l.length) : l.take (j + 1) = l.take j ++ [l.getD j default] := by
  rw [List.take_succ_eq_append_getElem h]
  simp [List.getD, List.getElem?_eq_getElem h]
theorem stpL_clock {c s : Int} {l : List DOp} {i : Nat} (h : i < l.length) : ((stpL c s l).getD i default).clock = c + (i : Int) := by
  unfold stpL
  rw [List.getD_eq_getElem?_getD, List.getElem?_map, List.getElem?_zipIdx, List.getElem?_eq_getElem h]
  simp [stpO]
end Go.Ch
end
section
set_option linter.unusedVariables false
set_option linter.unusedSimpArgs false
set_option maxRecDepth 100000
set_option maxHeartbeats 4000000
open Go Go.Proofs Go.Ab
namespace Go.Ch
theorem fc_put (o : DOp) (c s : Int) (l : List DOp) (hc : -1000000000000 ≤ c ∧ c ≤ 1000000000000) (hl : l.length ≤ 10000000000) : FC Try.prog 25 [.t (dopT o), .ptr 0 0, .ptr 1 0, .ptr 3 0] (app emp [(0, .box [VI c]), (1, .box [.row 2 l.length]), (2, OR 8 dopT l), (3, .box [VI s])]) (.tup []) (app emp [(0, .box [VI c]), (1, .box [.row 2 ((l ++ [stpO o (c + (l.length : Int)) s]).length)]), (2, OR 8 dopT (l ++ [stpO o (c + (l.length : Int)) s])), (3, .box [VI s])]) := by
 refine .go Try.f25 ?_
 have e1 : ((l ++ [stpO o (c + (l.length : Int)) s]).length : Nat) = (l ++ [({ clock := (c + (l.length : Int)), site := s, kind := o.kind, itm := o.itm, prt := o.prt, plc := o.plc, nm := o.nm, vl := o.vl } : DOp)]).length := by
  rfl
 have e2 : ((l ++ [stpO o (c + (l.length : Int)) s]) : List DOp) = (l ++ [({ clock := (c + (l.length : Int)), site := s, kind := o.kind, itm := o.itm, prt := o.prt, plc := o.plc, nm := o.nm, vl := o.vl } : DOp)]) := by
  rfl
 exact .finE [.r [], .r [(3, X (Xn (c + (l.length : Int))))], .r [(3, X (rowC dopT [({ clock := (c + (l.length : Int)), site := s, kind := o.kind, itm := o.itm, prt := o.prt, plc := o.plc, nm := o.nm, vl := o.vl } : DOp)] (Xap 8 dopT 2 l [({ clock := (c + (l.length : Int)), site := s, kind := o.kind, itm := o.itm, prt := o.prt, plc := o.plc, nm := o.nm, vl := o.vl } : DOp)])))]] [(0, 0), (1, 1), (2, 2), (3, 3)] (fun (z0, z1) => (.tup [], [(0, .box [VI c]), (1, .box [.row 2 z0]), (2, OR 8 dopT z1), (3, .box [VI s])])) (((l ++ [({ clock := (c + (l.length : Int)), site := s, kind := o.kind, itm := o.itm, prt := o.prt, plc := o.plc, nm := o.nm, vl := o.vl } : DOp)]).length : Nat), ((l ++ [({ clock := (c + (l.length : Int)), site := s, kind := o.kind, itm := o.itm, prt := o.prt, plc := o.plc, nm := o.nm, vl := o.vl } : DOp)]) : List DOp)) (((l ++ [stpO o (c + (l.length : Int)) s]).length : Nat), ((l ++ [stpO o (c + (l.length : Int)) s]) : List DOp)) (pr e1 e2)

theorem fc_dcheck0 (l : List DOp) (h : drawE l 0 = 0) : FC Try.prog 20 [VL 8 dopT l] (app emp []) (VI 0) (app emp []) := by
  have := fc_dcheck l
  rwa [h] at this

theorem fc_towards (l want : List DOp) (clock site : Int) (hl : drawE l 0 = 0) (hw : drawE want 0 = 0) (hn : l.length ≤ 1000) (hm : want.length ≤ 1000) (hc : 1 ≤ clock ∧ clock ≤ 1073741824) (hs : 0 ≤ site ∧ site ≤ 1000) (hlast : 0 < l.length → (l.getD (l.length - 1) default).clock < clock) (hfit : clock + ((tw1 (playP l).1 (playP want).1 ++ tw2 (playP l).1 (playP want).1 ++ tw3 (playP l).2 (playP want).2).length : Int) ≤ 1073741824) : FC Try.prog 18 [VL 8 dopT l, VL 8 dopT want, VI clock, VI site] (app emp []) (.tup [VL 8 dopT (stpL clock site (tw1 (playP l).1 (playP want).1 ++ tw2 (playP l).1 (playP want).1 ++ tw3 (playP l).2 (playP want).2)), VI 0]) (app emp []) := by
 refine .go Try.f18 ?_
 refine .len 0 (fun hl0 => ?_)
 refine .len 1 (fun hl1 => ?_)
 have ho := drawE_pos hl
 have ho2 := drawE_pos hw
 obtain ⟨r1, hI1⟩ := play_its ho
 obtain ⟨r2, hI2⟩ := play_its ho2
 have hp1 := playP_ok' ho
 have hp2 := playP_ok' ho2
 have hL1 : (playP l).1.length ≤ 1000 := Nat.le_trans hp1.len hn
 have hL2 : (playP want).1.length ≤ 1000 := Nat.le_trans hp2.len hm
 have hO1 := ordO_lim hL1
 have hO2 := ordO_lim hL2
 have hA1 : (playP l).2.length ≤ 1000 := Nat.le_trans hp1.lenA hn
 have hA2 : (playP want).2.length ≤ 1000 := Nat.le_trans hp2.lenA hm
 refine .br [.r [], .r [], .u, .r [], .t, .r [(0, X (Xa (Xc ((0:Int) ≤ 0)) (Xc ((0 : Int) < ((2 : Nat) : Int)))) ⟨by decide, by decide⟩)], .r [(1, X (Xc0 (fc_dcheck0 l (by assumption)) X0))], .r [], .f, .r [], .u, .r [], .t, .r [(0, X (Xa (Xc ((0:Int) ≤ 1)) (Xc ((1 : Int) < ((2 : Nat) : Int)))) ⟨by decide, by decide⟩)], .r [(1, X (Xc0 (fc_dcheck0 want (by assumption)) X0))], .r [], .f, .r [], .u, .r [], .f, .r [(4, Xv 1 (!(decide (clock < 1))) X0), (5, X (Xk' (decide (clock < 1)))), (8, Xv 1 (!(decide (clock < 1) || decide (clock > 1073741824))) X0), (9, X (Xk' (decide (clock < 1) || decide (clock > 1073741824)))), (12, Xv 1 (!((decide (clock < 1) || decide (clock > 1073741824)) || decide (site < 0))) X0), (13, X (Xk' ((decide (clock < 1) || decide (clock > 1073741824)) || decide (site < 0)))), (16, Xv 1 (!(((decide (clock < 1) || decide (clock > 1073741824)) || decide (site < 0)) || decide (site > 1000))) (Xl dopT l)), (17, Xv 1 (!(((decide (clock < 1) || decide (clock > 1073741824)) || decide (site < 0)) || decide (site > 1000))) X0), (18, Xv 1 (!(((decide (clock < 1) || decide (clock > 1073741824)) || decide (site < 0)) || decide (site > 1000))) X0), (21, Xv 1 ((!(((decide (clock < 1) || decide (clock > 1073741824)) || decide (site < 0)) || decide (site > 1000))) && (decide ((l.length : Int) > 0))) (Xl dopT l)), (22, Xv 1 ((!(((decide (clock < 1) || decide (clock > 1073741824)) || decide (site < 0)) || decide (site > 1000))) && (decide ((l.length : Int) > 0))) (Xn ((l.length : Int) - 1))), (23, Xv 2 ((!(((decide (clock < 1) || decide (clock > 1073741824)) || decide (site < 0)) || decide (site > 1000))) && (decide ((l.length : Int) > 0))) (Xi' dopT l ((l.length : Int) - 1) (l.length - 1))), (24, Xv 1 ((!(((decide (clock < 1) || decide (clock > 1073741824)) || decide (site < 0)) || decide (site > 1000))) && (decide ((l.length : Int) > 0))) X0), (25, Xv 1 ((!(((decide (clock < 1) || decide (clock > 1073741824)) || decide (site < 0)) || decide (site > 1000))) && (decide ((l.length : Int) > 0))) X0), (27, Xv 2 ((!(((decide (clock < 1) || decide (clock > 1073741824)) || decide (site < 0)) || decide (site > 1000))) && (decide ((l.length : Int) > 0))) X0), (28, Xka (!(((decide (clock < 1) || decide (clock > 1073741824)) || decide (site < 0)) || decide (site > 1000))) (decide ((l.length : Int) > 0))), (29, X (Xk' (((decide (clock < 1) || decide (clock > 1073741824)) || decide (site < 0)) || decide (site > 1000))))]] ((((decide (clock < 1) || decide (clock > 1073741824)) || decide (site < 0)) || decide (site > 1000)) || (decide ((l.length : Int) > 0) && decide ((((l.getD (l.length - 1) default)).clock) ≥ clock))) (fun h8 => ?_) (fun h8 => ?_)
 ·
  (try simp only [decide_eq_true_eq, decide_eq_false_iff_not, Int.not_lt, Int.not_le, gt_iff_lt, ge_iff_le, Bool.and_eq_true, Bool.and_eq_false_iff, Bool.not_eq_true', Bool.not_eq_false', Bool.or_eq_true, Bool.or_eq_false_iff] at h8)
  exfalso
  omega
 ·
  (try simp only [decide_eq_true_eq, decide_eq_false_iff_not, Int.not_lt, Int.not_le, gt_iff_lt, ge_iff_le, Bool.and_eq_true, Bool.and_eq_false_iff, Bool.not_eq_true', Bool.not_eq_false', Bool.or_eq_true, Bool.or_eq_false_iff] at h8)
  refine .loop (α := Nat × (List DOp)) [.r [(1, X (Xc1 480 (fc_play l (by omega) (by assumption)) X0)), (3, X (Xc1 496 (fc_play want (by omega) (by assumption)) X0))], .r [], .r [], .le (.nB 520 0 8), .le (.mfz 481 (List.map itC ((playP l).1)) [((List.map itM ((playP l).1)).map fun x => (x.1, frz x.2)) = List.map itC ((playP l).1)] ⟨(frzC _), trivial⟩), .le (.mfz 497 (List.map itC ((playP want).1)) [((List.map itM ((playP want).1)).map fun x => (x.1, frz x.2)) = List.map itC ((playP want).1)] ⟨(frzC _), trivial⟩), .r [(1, X (Xc4 [(0, 480), (1, 481), (2, 482)] (fc_ordered ((playP l).1) ((playP l).2) _ (by assumption) (by assumption)) X0)), (2, X (Xl ditT (ordO ((playP l).1))))]] 577 (fun (i, o) => ([(13, .ptr 480 0), (14, .ptr 496 0), (15, .ptr 520 0), (16, .fn 25 [.ptr 0 0, .ptr 520 0, .ptr 8 0]), (82, VL 4 ditT (ordO ((playP l).1))), (83, VI ((ordO ((playP l).1)).length : Int)), (84, VI (i : Int))], [(0, .box [VI clock]), (8, .box [VI site]), (480, .box [.hdl 481, .hdl 482]), (481, .mp (List.map itC ((playP l).1)) none), (482, .mp (List.map atM ((playP l).2)) none), (496, .box [.hdl 497, .hdl 498]), (497, .mp (List.map itC ((playP want).1)) none), (498, .mp (List.map atM ((playP want).2)) none), (520, .box [.row 544 o.length]), (544, OR 8 dopT o)])) (fun (i, o) => i ≤ (ordO (playP l).1).length ∧ o = stpL clock site (twF (ordO (playP l).1) (mv1 (playP want).1) i)) (fun (i, o) => (ordO (playP l).1).length - i) (0, []) ?_ ?_
  ·
   exact ⟨Nat.zero_le _, by simp [twF, stpL]⟩
  rintro ⟨i, o⟩ I14 ih14
  try dsimp only at I14
  have hol : o.length ≤ 1073741824 := by
   have h1 := twF_le (ordO (playP l).1) (mv1 (playP want).1) i
   have h2 := hfit
   rw [I14.2, stpL_len]; unfold tw1 tw2 at *; simp only [List.length_append] at *; omega
  refine .br [.r []] (decide ((i : Int) < ((ordO ((playP l).1)).length : Int))) (fun h14 => ?_) (fun h14 => ?_)
  ·
   (try simp only [decide_eq_true_eq, decide_eq_false_iff_not, Int.not_lt, Int.not_le] at h14)
   refine .mid [.r [(0, X (Xi ditT (ordO ((playP l).1)) (i : Int)))]] ?_
   rcases hf : findI (playP want).1 ((ordO (playP l).1).getD i default).item with _ | y
   ·
    refine .br [.r [(6, X (Xm0 (List.map itC ((playP want).1)) ((((ordO ((playP l).1)).getD i default)).item)) (by rw [lookC, hf]; rfl))], .r [(4, Xv 1 true X0), (5, Xv 1 true X0), (6, X (Xk true))]] (true && (((((ordO ((playP l).1)).getD i default)).parent) != (-1))) (fun h17 => ?_) (fun h17 => ?_)
    ·
     (try simp only [Bool.and_eq_true, Bool.and_eq_false_iff, Bool.not_eq_true', Bool.not_eq_false', bne_iff_ne, bne_eq_false_iff_eq, ne_eq] at h17)
     refine .back [.r [(6, X (Xc3 817 [(0, 0), (1, 520), (2, 544), (3, 8)] (fc_put ({ clock := 0, site := 0, kind := 0, itm := (((ordO ((playP l).1)).getD i default)).item, prt := -1, plc := (((ordO ((playP l).1)).getD i default)).place, nm := { data := #[] }, vl := { data := #[] } } : DOp) clock site o (by omega) (by omega)) X0))], .r [(0, X (Xn ((i : Int) + 1)))]] [(0, 0), (8, 8), (480, 480), (481, 481), (482, 482), (496, 496), (497, 497), (498, 498), (520, 520), (544, 544)] (ih14 ((i + 1), (o ++ [stpO ({ clock := 0, site := 0, kind := 0, itm := (((ordO ((playP l).1)).getD i default)).item, prt := -1, plc := (((ordO ((playP l).1)).getD i default)).place, nm := { data := #[] }, vl := { data := #[] } } : DOp) (clock + (List.length o : Int)) site])) ?_ ?_)
     ·
      refine ⟨by omega, ?_⟩
      first
       | (exfalso; simp at h17; done)
       | (have hm0 : mv1 (playP want).1 ((ordO (playP l).1).getD i default) = [movO ((ordO (playP l).1).getD i default).item (-1) ((ordO (playP l).1).getD i default).place] := by (unfold mv1; rw [hf]; exact if_pos ⟨rfl, h17.2⟩)
          rw [twF_succ (by omega), hm0, I14.2, ← stpL_snoc, stpL_len]; rfl)
       | (have hm0 : mv1 (playP want).1 ((ordO (playP l).1).getD i default) = [] := by (unfold mv1; rw [hf]; exact if_neg (by simp_all))
          rw [twF_succ (by omega), hm0, List.append_nil]; exact I14.2)
     ·
      ((try dsimp only); omega)
    ·
     (try simp only [Bool.and_eq_true, Bool.and_eq_false_iff, Bool.not_eq_true', Bool.not_eq_false', bne_iff_ne, bne_eq_false_iff_eq, ne_eq] at h17)
     refine .back [.r [(0, X (Xn ((i : Int) + 1)))]] [(0, 0), (8, 8), (480, 480), (481, 481), (482, 482), (496, 496), (497, 497), (498, 498), (520, 520), (544, 544)] (ih14 ((i + 1), o) ?_ ?_)
     ·
      refine ⟨by omega, ?_⟩
      first
       | (exfalso; simp at h17; done)
       | (have hm0 : mv1 (playP want).1 ((ordO (playP l).1).getD i default) = [movO ((ordO (playP l).1).getD i default).item (-1) ((ordO (playP l).1).getD i default).place] := by (unfold mv1; rw [hf]; exact if_pos ⟨rfl, h17.2⟩)
          rw [twF_succ (by omega), hm0, I14.2, ← stpL_snoc, stpL_len]; rfl)
       | (have hm0 : mv1 (playP want).1 ((ordO (playP l).1).getD i default) = [] := by (unfold mv1; rw [hf]; exact if_neg (by simp_all))
          rw [twF_succ (by omega), hm0, List.append_nil]; exact I14.2)
     ·
      ((try dsimp only); omega)
   ·
    refine .br [.r [(6, X (Xm1c (List.map itC ((playP want).1)) ((((ordO ((playP l).1)).getD i default)).item) [TI y.item, TI y.parent, TS y.place, TL 2 attrT y.attrs]) (by rw [lookC, hf]; rfl))], .r [(4, Xv 1 false X0), (5, Xv 1 false X0), (6, X (Xk false))]] (false && (((((ordO ((playP l).1)).getD i default)).parent) != (-1))) (fun h17 => ?_) (fun h17 => ?_)
    ·
     (try simp only [Bool.and_eq_true, Bool.and_eq_false_iff, Bool.not_eq_true', Bool.not_eq_false', bne_iff_ne, bne_eq_false_iff_eq, ne_eq] at h17)
     refine .back [.r [(6, X (Xc3 817 [(0, 0), (1, 520), (2, 544), (3, 8)] (fc_put ({ clock := 0, site := 0, kind := 0, itm := (((ordO ((playP l).1)).getD i default)).item, prt := -1, plc := (((ordO ((playP l).1)).getD i default)).place, nm := { data := #[] }, vl := { data := #[] } } : DOp) clock site o (by omega) (by omega)) X0))], .r [(0, X (Xn ((i : Int) + 1)))]] [(0, 0), (8, 8), (480, 480), (481, 481), (482, 482), (496, 496), (497, 497), (498, 498), (520, 520), (544, 544)] (ih14 ((i + 1), (o ++ [stpO ({ clock := 0, site := 0, kind := 0, itm := (((ordO ((playP l).1)).getD i default)).item, prt := -1, plc := (((ordO ((playP l).1)).getD i default)).place, nm := { data := #[] }, vl := { data := #[] } } : DOp) (clock + (List.length o : Int)) site])) ?_ ?_)
     ·
      refine ⟨by omega, ?_⟩
      first
       | (exfalso; simp at h17; done)
       | (have hm0 : mv1 (playP want).1 ((ordO (playP l).1).getD i default) = [movO ((ordO (playP l).1).getD i default).item (-1) ((ordO (playP l).1).getD i default).place] := by (unfold mv1; rw [hf]; exact if_pos ⟨rfl, h17.2⟩)
          rw [twF_succ (by omega), hm0, I14.2, ← stpL_snoc, stpL_len]; rfl)
       | (have hm0 : mv1 (playP want).1 ((ordO (playP l).1).getD i default) = [] := by (unfold mv1; rw [hf]; exact if_neg (by simp_all))
          rw [twF_succ (by omega), hm0, List.append_nil]; exact I14.2)
     ·
      ((try dsimp only); omega)
    ·
     (try simp only [Bool.and_eq_true, Bool.and_eq_false_iff, Bool.not_eq_true', Bool.not_eq_false', bne_iff_ne, bne_eq_false_iff_eq, ne_eq] at h17)
     refine .back [.r [(0, X (Xn ((i : Int) + 1)))]] [(0, 0), (8, 8), (480, 480), (481, 481), (482, 482), (496, 496), (497, 497), (498, 498), (520, 520), (544, 544)] (ih14 ((i + 1), o) ?_ ?_)
     ·
      refine ⟨by omega, ?_⟩
      first
       | (exfalso; simp at h17; done)
       | (have hm0 : mv1 (playP want).1 ((ordO (playP l).1).getD i default) = [movO ((ordO (playP l).1).getD i default).item (-1) ((ordO (playP l).1).getD i default).place] := by (unfold mv1; rw [hf]; exact if_pos ⟨rfl, h17.2⟩)
          rw [twF_succ (by omega), hm0, I14.2, ← stpL_snoc, stpL_len]; rfl)
       | (have hm0 : mv1 (playP want).1 ((ordO (playP l).1).getD i default) = [] := by (unfold mv1; rw [hf]; exact if_neg (by simp_all))
          rw [twF_succ (by omega), hm0, List.append_nil]; exact I14.2)
     ·
      ((try dsimp only); omega)
  ·
   (try simp only [decide_eq_true_eq, decide_eq_false_iff_not, Int.not_lt, Int.not_le] at h14)
   refine .loop (α := Nat × (List DOp)) [.r [(1, X (Xc4 [(0, 496), (1, 497), (2, 498)] (fc_ordered ((playP want).1) ((playP want).2) _ (by assumption) (by assumption)) X0)), (2, X (Xl ditT (ordO ((playP want).1))))]] 617 (fun (i2, o2) => ([(13, .ptr 480 0), (14, .ptr 496 0), (15, .ptr 520 0), (16, .fn 25 [.ptr 0 0, .ptr 520 0, .ptr 8 0]), (114, VL 4 ditT (ordO ((playP want).1))), (115, VI ((ordO ((playP want).1)).length : Int)), (116, VI (i2 : Int))], [(0, .box [VI clock]), (8, .box [VI site]), (480, .box [.hdl 481, .hdl 482]), (481, .mp (List.map itC ((playP l).1)) none), (482, .mp (List.map atM ((playP l).2)) none), (496, .box [.hdl 497, .hdl 498]), (497, .mp (List.map itC ((playP want).1)) none), (498, .mp (List.map atM ((playP want).2)) none), (520, .box [.row 544 o2.length]), (544, OR 8 dopT o2)])) (fun (i2, o2) => i2 ≤ (ordO (playP want).1).length ∧ o2 = stpL clock site (tw1 (playP l).1 (playP want).1 ++ twF (ordO (playP want).1) (mv2 (playP l).1) i2)) (fun (i2, o2) => (ordO (playP want).1).length - i2) (0, o) ?_ ?_
   ·
    exact ⟨Nat.zero_le _, by rw [I14.2, twF_all (by omega)]; unfold tw1; simp [twF]⟩
   rintro ⟨i2, o2⟩ I21 ih21
   try dsimp only at I21
   have hol2 : o2.length ≤ 1073741824 := by
    have h1 := twF_le (ordO (playP want).1) (mv2 (playP l).1) i2
    have h2 := hfit
    rw [I21.2, stpL_len]; unfold tw1 tw2 at *; simp only [List.length_append] at *; omega
   refine .br [.r []] (decide ((i2 : Int) < ((ordO ((playP want).1)).length : Int))) (fun h21 => ?_) (fun h21 => ?_)
   ·
    (try simp only [decide_eq_true_eq, decide_eq_false_iff_not, Int.not_lt, Int.not_le] at h21)
    refine .mid [.r [(0, X (Xi ditT (ordO ((playP want).1)) (i2 : Int)))]] ?_
    rcases hf : findI (playP l).1 ((ordO (playP want).1).getD i2 default).item with _ | y
    ·
     refine .br [.r [(6, X (Xm0 (List.map itC ((playP l).1)) ((((ordO ((playP want).1)).getD i2 default)).item)) (by rw [lookC, hf]; rfl))], .r [(3, X (Xskip (!true) (.junk)) rfl), (4, X (Xskip (!true) (.junk)) rfl), (5, X (Xskip (!true) (.junk)) rfl), (6, X (Xskip (!true) (.junk)) rfl), (7, X (Xskip (!true) (.junk)) rfl), (8, X (Xskip (!true) (.junk)) rfl), (9, X (Xskip (!true) (VB false)) rfl), (10, X (Xk' true)), (12, X (Xskip (!(true || false)) (.junk)) rfl), (13, X (Xskip (!(true || false)) (.junk)) rfl), (14, X (Xskip (!(true || false)) (.junk)) rfl), (15, X (Xskip (!(true || false)) (.junk)) rfl), (16, X (Xskip (!(true || false)) (.junk)) rfl), (17, X (Xskip (!(true || false)) (.junk)) rfl), (18, X (Xskip (!(true || false)) (VB false)) rfl), (19, X (Xk' (true || false)))]] ((true || false) || false) (fun h24 => ?_) (fun h24 => ?_)
     ·
      (try simp only [Bool.or_eq_true, Bool.or_eq_false_iff] at h24)
      refine .back [.r [(8, X (Xc3 977 [(0, 0), (1, 520), (2, 544), (3, 8)] (fc_put ({ clock := 0, site := 0, kind := 0, itm := (((ordO ((playP want).1)).getD i2 default)).item, prt := (((ordO ((playP want).1)).getD i2 default)).parent, plc := (((ordO ((playP want).1)).getD i2 default)).place, nm := { data := #[] }, vl := { data := #[] } } : DOp) clock site o2 (by omega) (by omega)) X0))], .r [(0, X (Xn ((i2 : Int) + 1)))]] [(0, 0), (8, 8), (480, 480), (481, 481), (482, 482), (496, 496), (497, 497), (498, 498), (520, 520), (544, 544)] (ih21 ((i2 + 1), (o2 ++ [stpO ({ clock := 0, site := 0, kind := 0, itm := (((ordO ((playP want).1)).getD i2 default)).item, prt := (((ordO ((playP want).1)).getD i2 default)).parent, plc := (((ordO ((playP want).1)).getD i2 default)).place, nm := { data := #[] }, vl := { data := #[] } } : DOp) (clock + (List.length o2 : Int)) site])) ?_ ?_)
      ·
       refine ⟨by omega, ?_⟩
       first
        | (exfalso; simp at h24; done)
        | (have hm0 : mv2 (playP l).1 ((ordO (playP want).1).getD i2 default) = [movO ((ordO (playP want).1).getD i2 default).item ((ordO (playP want).1).getD i2 default).parent ((ordO (playP want).1).getD i2 default).place] := by (unfold mv2; rw [hf] <;> first | rfl | exact if_pos (by simpa using h24))
           rw [twF_succ (by omega), hm0, I21.2, ← List.append_assoc, ← stpL_snoc, stpL_len]; rfl)
        | (have hm0 : mv2 (playP l).1 ((ordO (playP want).1).getD i2 default) = [] := by (unfold mv2; rw [hf]; exact if_neg (by simpa using h24))
           rw [twF_succ (by omega), hm0, List.append_nil]; exact I21.2)
      ·
       ((try dsimp only); omega)
     ·
      (try simp only [Bool.or_eq_true, Bool.or_eq_false_iff] at h24)
      refine .back [.r [(0, X (Xn ((i2 : Int) + 1)))]] [(0, 0), (8, 8), (480, 480), (481, 481), (482, 482), (496, 496), (497, 497), (498, 498), (520, 520), (544, 544)] (ih21 ((i2 + 1), o2) ?_ ?_)
      ·
       refine ⟨by omega, ?_⟩
       first
        | (exfalso; simp at h24; done)
        | (have hm0 : mv2 (playP l).1 ((ordO (playP want).1).getD i2 default) = [movO ((ordO (playP want).1).getD i2 default).item ((ordO (playP want).1).getD i2 default).parent ((ordO (playP want).1).getD i2 default).place] := by (unfold mv2; rw [hf] <;> first | rfl | exact if_pos (by simpa using h24))
           rw [twF_succ (by omega), hm0, I21.2, ← List.append_assoc, ← stpL_snoc, stpL_len]; rfl)
        | (have hm0 : mv2 (playP l).1 ((ordO (playP want).1).getD i2 default) = [] := by (unfold mv2; rw [hf]; exact if_neg (by simpa using h24))
           rw [twF_succ (by omega), hm0, List.append_nil]; exact I21.2)
      ·
       ((try dsimp only); omega)
    ·
     refine .br [.r [(6, X (Xm1c (List.map itC ((playP l).1)) ((((ordO ((playP want).1)).getD i2 default)).item) [TI y.item, TI y.parent, TS y.place, TL 2 attrT y.attrs]) (by rw [lookC, hf]; rfl))], .r [(4, Xv 1 (!false) X0), (5, Xv 1 (!false) X0), (6, Xv 1 (!false) X0), (8, Xv 1 (!false) X0), (9, Xv 2 (!false) X0), (10, X (Xk' false)), (13, Xv 1 (!(false || (y.parent != ((((ordO ((playP want).1)).getD i2 default)).parent)))) X0), (14, Xv 1 (!(false || (y.parent != ((((ordO ((playP want).1)).getD i2 default)).parent)))) X0), (15, Xv 1 (!(false || (y.parent != ((((ordO ((playP want).1)).getD i2 default)).parent)))) X0), (17, Xv 1 (!(false || (y.parent != ((((ordO ((playP want).1)).getD i2 default)).parent)))) X0), (18, Xv 2 (!(false || (y.parent != ((((ordO ((playP want).1)).getD i2 default)).parent)))) X0), (19, X (Xk' (false || (y.parent != ((((ordO ((playP want).1)).getD i2 default)).parent)))))]] ((false || (y.parent != ((((ordO ((playP want).1)).getD i2 default)).parent))) || !(seq y.place ((((ordO ((playP want).1)).getD i2 default)).place))) (fun h24 => ?_) (fun h24 => ?_)
     ·
      (try simp only [Bool.not_eq_true', Bool.not_eq_false', Bool.or_eq_true, Bool.or_eq_false_iff, bne_iff_ne, bne_eq_false_iff_eq, ne_eq] at h24)
      refine .back [.r [(8, X (Xc3 977 [(0, 0), (1, 520), (2, 544), (3, 8)] (fc_put ({ clock := 0, site := 0, kind := 0, itm := (((ordO ((playP want).1)).getD i2 default)).item, prt := (((ordO ((playP want).1)).getD i2 default)).parent, plc := (((ordO ((playP want).1)).getD i2 default)).place, nm := { data := #[] }, vl := { data := #[] } } : DOp) clock site o2 (by omega) (by omega)) X0))], .r [(0, X (Xn ((i2 : Int) + 1)))]] [(0, 0), (8, 8), (480, 480), (481, 481), (482, 482), (496, 496), (497, 497), (498, 498), (520, 520), (544, 544)] (ih21 ((i2 + 1), (o2 ++ [stpO ({ clock := 0, site := 0, kind := 0, itm := (((ordO ((playP want).1)).getD i2 default)).item, prt := (((ordO ((playP want).1)).getD i2 default)).parent, plc := (((ordO ((playP want).1)).getD i2 default)).place, nm := { data := #[] }, vl := { data := #[] } } : DOp) (clock + (List.length o2 : Int)) site])) ?_ ?_)
      ·
       refine ⟨by omega, ?_⟩
       first
        | (exfalso; simp at h24; done)
        | (have hm0 : mv2 (playP l).1 ((ordO (playP want).1).getD i2 default) = [movO ((ordO (playP want).1).getD i2 default).item ((ordO (playP want).1).getD i2 default).parent ((ordO (playP want).1).getD i2 default).place] := by (unfold mv2; rw [hf] <;> first | rfl | exact if_pos (by simpa using h24))
           rw [twF_succ (by omega), hm0, I21.2, ← List.append_assoc, ← stpL_snoc, stpL_len]; rfl)
        | (have hm0 : mv2 (playP l).1 ((ordO (playP want).1).getD i2 default) = [] := by (unfold mv2; rw [hf]; exact if_neg (by simpa using h24))
           rw [twF_succ (by omega), hm0, List.append_nil]; exact I21.2)
      ·
       ((try dsimp only); omega)
     ·
      (try simp only [Bool.not_eq_true', Bool.not_eq_false', Bool.or_eq_true, Bool.or_eq_false_iff, bne_iff_ne, bne_eq_false_iff_eq, ne_eq] at h24)
      refine .back [.r [(0, X (Xn ((i2 : Int) + 1)))]] [(0, 0), (8, 8), (480, 480), (481, 481), (482, 482), (496, 496), (497, 497), (498, 498), (520, 520), (544, 544)] (ih21 ((i2 + 1), o2) ?_ ?_)
      ·
       refine ⟨by omega, ?_⟩
       first
        | (exfalso; simp at h24; done)
        | (have hm0 : mv2 (playP l).1 ((ordO (playP want).1).getD i2 default) = [movO ((ordO (playP want).1).getD i2 default).item ((ordO (playP want).1).getD i2 default).parent ((ordO (playP want).1).getD i2 default).place] := by (unfold mv2; rw [hf] <;> first | rfl | exact if_pos (by simpa using h24))
           rw [twF_succ (by omega), hm0, I21.2, ← List.append_assoc, ← stpL_snoc, stpL_len]; rfl)
        | (have hm0 : mv2 (playP l).1 ((ordO (playP want).1).getD i2 default) = [] := by (unfold mv2; rw [hf]; exact if_neg (by simpa using h24))
           rw [twF_succ (by omega), hm0, List.append_nil]; exact I21.2)
      ·
       ((try dsimp only); omega)
   ·
    (try simp only [decide_eq_true_eq, decide_eq_false_iff_not, Int.not_lt, Int.not_le] at h21)
    refine .loop (α := List Int × List Nat) [.r [], .r [(4, X (Xmg atM ((playP l).2) 482 673))]] 681 (fun (S, q) => ([(13, .ptr 480 0), (14, .ptr 496 0), (15, .ptr 520 0), (16, .fn 25 [.ptr 0 0, .ptr 520 0, .ptr 8 0]), (25, .hdl 625), (165, .hdl 673)], [(0, .box [VI clock]), (8, .box [VI site]), (480, .box [.hdl 481, .hdl 482]), (481, .mp (List.map itC ((playP l).1)) none), (482, .mp (List.map atM ((playP l).2)) none), (496, .box [.hdl 497, .hdl 498]), (497, .mp (List.map itC ((playP want).1)) none), (498, .mp (List.map atM ((playP want).2)) none), (520, .box [.row 544 o2.length]), (544, OR 8 dopT o2), (625, .mp (List.map onM S) none), (673, .miter 482 (((playP l).2).length) q)])) (fun (S, q) => q.Nodup ∧ (∀ i ∈ q, i < (playP l).2.length) ∧ S = addS [] (q.map (fun i => ((playP l).2.getD i default).1))) (fun (S, q) => (playP l).2.length - q.length) ([], []) ?_ ?_
    ·
     exact ⟨List.nodup_nil, (fun i hi => by cases hi), rfl⟩
    rintro ⟨S, q⟩ I29 ih29
    try dsimp only at I29
    refine .next [] (((playP l).2).length) q (List.map atM ((playP l).2)) (by rw [List.length_map]) (fun i29 hi29 hn29 => ?_) (fun ha29 => ?_)
    ·
     have hnd : (q ++ [i29]).Nodup := by
      rw [List.nodup_append]; refine ⟨I29.1, by simp, fun a ha b hb e => ?_⟩; simp at hb; subst hb e; exact hn29 ha
     have hmem : ∀ j ∈ q ++ [i29], j < (playP l).2.length := fun j hj => by
      rcases List.mem_append.1 hj with h | h
      · exact I29.2.1 j h
      · simp at h; subst h; exact hi29
     have hql := nodup_len _ _ hnd hmem
     refine .back [.t, .r [(0, X (Xe0 atM ((playP l).2) 482 (((playP l).2).length) (q ++ [i29]) i29 (((playP l).2.getD i29 default).1)) (key_atA hi29))], .r [(2, X (Xmu onM S (putK id S ((playP l).2.getD i29 default).1) (((playP l).2.getD i29 default).1) 625 (.im (TB true))) putS)]] [(0, 0), (8, 8), (480, 480), (481, 481), (482, 482), (496, 496), (497, 497), (498, 498), (520, 520), (544, 544), (625, 625), (673, 673)] (ih29 ((putK id S ((playP l).2.getD i29 default).1), (q ++ [i29])) ?_ ?_)
     ·
      exact ⟨hnd, hmem, by rw [List.map_append, List.map_cons, List.map_nil, addS_snoc, ← I29.2.2]⟩
     ·
      (try dsimp only); rw [List.length_append, List.length_singleton] at *; omega
    ·
     refine .loop (α := List Int × List Nat) [.f, .r [(4, X (Xmg atM ((playP want).2) 498 729))]] 737 (fun (S2, q2) => ([(13, .ptr 480 0), (14, .ptr 496 0), (15, .ptr 520 0), (16, .fn 25 [.ptr 0 0, .ptr 520 0, .ptr 8 0]), (25, .hdl 625), (176, .hdl 729)], [(0, .box [VI clock]), (8, .box [VI site]), (480, .box [.hdl 481, .hdl 482]), (481, .mp (List.map itC ((playP l).1)) none), (482, .mp (List.map atM ((playP l).2)) none), (496, .box [.hdl 497, .hdl 498]), (497, .mp (List.map itC ((playP want).1)) none), (498, .mp (List.map atM ((playP want).2)) none), (520, .box [.row 544 o2.length]), (544, OR 8 dopT o2), (625, .mp (List.map onM S2) none), (729, .miter 498 (((playP want).2).length) q2)])) (fun (S2, q2) => q2.Nodup ∧ (∀ i ∈ q2, i < (playP want).2.length) ∧ S2 = addS S (q2.map (fun i => ((playP want).2.getD i default).1))) (fun (S2, q2) => (playP want).2.length - q2.length) (S, []) ?_ ?_
     ·
      exact ⟨List.nodup_nil, (fun i hi => by cases hi), rfl⟩
     rintro ⟨S2, q2⟩ I33 ih33
     try dsimp only at I33
     refine .next [] (((playP want).2).length) q2 (List.map atM ((playP want).2)) (by rw [List.length_map]) (fun i33 hi33 hn33 => ?_) (fun ha33 => ?_)
     ·
      have hnd : (q2 ++ [i33]).Nodup := by
       rw [List.nodup_append]; refine ⟨I33.1, by simp, fun a ha b hb e => ?_⟩; simp at hb; subst hb e; exact hn33 ha
      have hmem : ∀ j ∈ q2 ++ [i33], j < (playP want).2.length := fun j hj => by
       rcases List.mem_append.1 hj with h | h
       · exact I33.2.1 j h
       · simp at h; subst h; exact hi33
      have hql := nodup_len _ _ hnd hmem
      refine .back [.t, .r [(0, X (Xe0 atM ((playP want).2) 498 (((playP want).2).length) (q2 ++ [i33]) i33 (((playP want).2.getD i33 default).1)) (key_atA hi33))], .r [(2, X (Xmu onM S2 (putK id S2 ((playP want).2.getD i33 default).1) (((playP want).2.getD i33 default).1) 625 (.im (TB true))) putS)]] [(0, 0), (8, 8), (480, 480), (481, 481), (482, 482), (496, 496), (497, 497), (498, 498), (520, 520), (544, 544), (625, 625), (729, 729)] (ih33 ((putK id S2 ((playP want).2.getD i33 default).1), (q2 ++ [i33])) ?_ ?_)
      ·
       exact ⟨hnd, hmem, by rw [List.map_append, List.map_cons, List.map_nil, addS_snoc, ← I33.2.2]⟩
      ·
       (try dsimp only); rw [List.length_append, List.length_singleton] at *; omega
     ·
      refine .loop (α := List Nat × (List Int)) [.f, .r [], .r [(1, X (Xmg onM S2 625 769))], .le (.nR 28 1)] 778 (fun (q3, all) => ([(13, .ptr 480 0), (14, .ptr 496 0), (15, .ptr 520 0), (16, .fn 25 [.ptr 0 0, .ptr 520 0, .ptr 8 0]), (28, .row 777 all.length), (184, .hdl 769)], [(0, .box [VI clock]), (8, .box [VI site]), (480, .box [.hdl 481, .hdl 482]), (481, .mp (List.map itC ((playP l).1)) none), (482, .mp (List.map atM ((playP l).2)) none), (496, .box [.hdl 497, .hdl 498]), (497, .mp (List.map itC ((playP want).1)) none), (498, .mp (List.map atM ((playP want).2)) none), (520, .box [.row 544 o2.length]), (544, OR 8 dopT o2), (625, .mp (List.map onM S2) none), (769, .miter 625 S2.length q3), (777, OR 1 intT all)])) (fun (q3, all) => q3.Nodup ∧ (∀ i ∈ q3, i < S2.length) ∧ all = q3.map (fun i => S2.getD i default)) (fun (q3, all) => S2.length - q3.length) ([], []) ?_ ?_
      ·
       exact ⟨List.nodup_nil, (fun i hi => by cases hi), rfl⟩
      rintro ⟨q3, all⟩ I38 ih38
      try dsimp only at I38
      refine .next [] S2.length q3 (List.map onM S2) (by rw [List.length_map]) (fun i38 hi38 hn38 => ?_) (fun ha38 => ?_)
      ·
       have hnd : (q3 ++ [i38]).Nodup := by
        rw [List.nodup_append]; refine ⟨I38.1, by simp, fun a ha b hb e => ?_⟩; simp at hb; subst hb e; exact hn38 ha
       have hmem : ∀ j ∈ q3 ++ [i38], j < S2.length := fun j hj => by
        rcases List.mem_append.1 hj with h | h
        · exact I38.2.1 j h
        · simp at h; subst h; exact hi38
       have hql := nodup_len _ _ hnd hmem
       have hS2 : S2.length ≤ 2000 := by
        have h1 := addS_len S (q2.map (fun i => ((playP want).2.getD i default).1))
        have h2 := addS_len [] (q.map (fun i => ((playP l).2.getD i default).1))
        rw [← I33.2.2, List.length_map] at h1; rw [← I29.2.2, List.length_map] at h2; have h3 := nodup_len _ _ I33.1 I33.2.1; have h4 := nodup_len _ _ I29.1 I29.2.1; simp only [List.length_nil] at h2; omega
       have hal : all.length ≤ 2000 := by
        rw [List.length_append] at hql; rw [I38.2.2, List.length_map]; omega
       refine .back [.t, .r [(0, X (Xe0 onM S2 625 S2.length (q3 ++ [i38]) i38 (S2.getD i38 default)) (key_atS hi38))], .r [(3, X (rowC intT [(S2.getD i38 default)] (Xap 1 intT 777 all [(S2.getD i38 default)])))]] [(0, 0), (8, 8), (480, 480), (481, 481), (482, 482), (496, 496), (497, 497), (498, 498), (520, 520), (544, 544), (625, 625), (769, 769), (777, 777)] (ih38 ((q3 ++ [i38]), (all ++ [(S2.getD i38 default)])) ?_ ?_)
       ·
        exact ⟨hnd, hmem, by rw [List.map_append, ← I38.2.2]; rfl⟩
       ·
        (try dsimp only); rw [List.length_append, List.length_singleton] at *; omega
      ·
       obtain ⟨hkey, hal0⟩ := keys_all I29.2.2 I33.2.2 I38.2.2 I29.1 I29.2.1 ha29 I33.1 I33.2.1 ha33 I38.1 I38.2.1 ha38
       have hS2 : S2.length ≤ 2000 := by
        have h1 := addS_len S (q2.map (fun i => ((playP want).2.getD i default).1))
        have h2 := addS_len [] (q.map (fun i => ((playP l).2.getD i default).1))
        rw [← I33.2.2, List.length_map] at h1; rw [← I29.2.2, List.length_map] at h2; have h3 := nodup_len _ _ I33.1 I33.2.1; have h4 := nodup_len _ _ I29.1 I29.2.1; simp only [List.length_nil] at h2; omega
       have hsl := srtZ_len all
       refine .loop (α := Nat × (List DOp)) [.f, .r [(1, X (Xc3 802 [(0, 777)] (fc_sortI all (by omega)) X0))], .r []] 834 (fun (i3, o3) => ([(13, .ptr 480 0), (14, .ptr 496 0), (15, .ptr 520 0), (16, .fn 25 [.ptr 0 0, .ptr 520 0, .ptr 8 0]), (195, .row 777 all.length), (196, VI (all.length : Int)), (197, VI (i3 : Int))], [(0, .box [VI clock]), (8, .box [VI site]), (480, .box [.hdl 481, .hdl 482]), (481, .mp (List.map itC ((playP l).1)) none), (482, .mp (List.map atM ((playP l).2)) none), (496, .box [.hdl 497, .hdl 498]), (497, .mp (List.map itC ((playP want).1)) none), (498, .mp (List.map atM ((playP want).2)) none), (520, .box [.row 544 o3.length]), (544, OR 8 dopT o3), (777, OR 1 intT (srtZ all))])) (fun (i3, o3) => i3 ≤ all.length ∧ o3 = stpL clock site (tw1 (playP l).1 (playP want).1 ++ tw2 (playP l).1 (playP want).1 ++ twF (srtZ all) (sts (playP l).2 (playP want).2) i3)) (fun (i3, o3) => all.length - i3) (0, o2) ?_ ?_
       ·
        exact ⟨Nat.zero_le _, by rw [I21.2, twF_all (by omega)]; unfold tw2; simp [twF]⟩
       rintro ⟨i3, o3⟩ I43 ih43
       try dsimp only at I43
       have hol3 : o3.length ≤ 1073741824 := by
        have h1 := twF_le (srtZ all) (sts (playP l).2 (playP want).2) i3
        have h2 := hfit
        rw [I43.2, stpL_len]; rw [hkey] at h1 ⊢; unfold tw3 at h2; simp only [List.length_append] at *; omega
       refine .br [.r []] (decide ((i3 : Int) < (all.length : Int))) (fun h43 => ?_) (fun h43 => ?_)
       ·
        (try simp only [decide_eq_true_eq, decide_eq_false_iff_not, Int.not_lt, Int.not_le] at h43)
        have hf1 : (findA (playP l).2 ((srtZ all).getD i3 default)).length ≤ 1000 := Nat.le_trans (findA_len hp1.lenP) hn
        have hf2 : (findA (playP want).2 ((srtZ all).getD i3 default)).length ≤ 1000 := Nat.le_trans (findA_len hp2.lenP) hm
        have hfm := fm_len chgG (findA (playP l).2 ((srtZ all).getD i3 default)) (findA (playP want).2 ((srtZ all).getD i3 default))
        refine .loop (α := Nat × (List DOp)) [.r [(0, X (Xpn all.length intT (srtZ all) (i3 : Int))), (1, X (Xen all.length intT (srtZ all) i3))], .r [(5, X (Xmq (List.map atM ((playP l).2)) ((srtZ all).getD i3 default) 2 attrT (findA (playP l).2 ((srtZ all).getD i3 default))) lookA), (11, X (Xmq (List.map atM ((playP want).2)) ((srtZ all).getD i3 default) 2 attrT (findA (playP want).2 ((srtZ all).getD i3 default))) lookA), (12, X (Xc1 962 (fc_change (findA (playP l).2 ((srtZ all).getD i3 default)) (findA (playP want).2 ((srtZ all).getD i3 default)) (by omega)) X0)), (13, X (Xl attrT (fm chgG (findA (playP l).2 ((srtZ all).getD i3 default)) (findA (playP want).2 ((srtZ all).getD i3 default)))))]] 986 (fun (j, o4) => ([(13, .ptr 480 0), (14, .ptr 496 0), (15, .ptr 520 0), (16, .fn 25 [.ptr 0 0, .ptr 520 0, .ptr 8 0]), (31, VI ((srtZ all).getD i3 default)), (195, .row 777 all.length), (196, VI (all.length : Int)), (197, VI (i3 : Int)), (213, VL 2 attrT (fm chgG (findA (playP l).2 ((srtZ all).getD i3 default)) (findA (playP want).2 ((srtZ all).getD i3 default)))), (214, VI ((fm chgG (findA (playP l).2 ((srtZ all).getD i3 default)) (findA (playP want).2 ((srtZ all).getD i3 default))).length : Int)), (215, VI (j : Int))], [(0, .box [VI clock]), (8, .box [VI site]), (480, .box [.hdl 481, .hdl 482]), (481, .mp (List.map itC ((playP l).1)) none), (482, .mp (List.map atM ((playP l).2)) none), (496, .box [.hdl 497, .hdl 498]), (497, .mp (List.map itC ((playP want).1)) none), (498, .mp (List.map atM ((playP want).2)) none), (520, .box [.row 544 o4.length]), (544, OR 8 dopT o4), (777, OR 1 intT (srtZ all))])) (fun (j, o4) => j ≤ ((fm chgG (findA (playP l).2 ((srtZ all).getD i3 default)) (findA (playP want).2 ((srtZ all).getD i3 default)))).length ∧ o4 = o3 ++ stpL (clock + (o3.length : Int)) site ((((fm chgG (findA (playP l).2 ((srtZ all).getD i3 default)) (findA (playP want).2 ((srtZ all).getD i3 default)))).take j).map (setO ((srtZ all).getD i3 default)))) (fun (j, o4) => ((fm chgG (findA (playP l).2 ((srtZ all).getD i3 default)) (findA (playP want).2 ((srtZ all).getD i3 default)))).length - j) (0, o3) ?_ ?_
        ·
         exact ⟨Nat.zero_le _, by simp [stpL]⟩
        rintro ⟨j, o4⟩ I46 ih46
        try dsimp only at I46
        have hol4 : o4.length ≤ 1073841824 := by
         rw [I46.2]; simp only [List.length_append, stpL_len, List.length_map, List.length_take]; omega
        refine .br [.r []] (decide ((j : Int) < ((fm chgG (findA (playP l).2 ((srtZ all).getD i3 default)) (findA (playP want).2 ((srtZ all).getD i3 default))).length : Int))) (fun h46 => ?_) (fun h46 => ?_)
        ·
         (try simp only [decide_eq_true_eq, decide_eq_false_iff_not, Int.not_lt, Int.not_le] at h46)
         refine .back [.r [(0, X (Xi attrT (fm chgG (findA (playP l).2 ((srtZ all).getD i3 default)) (findA (playP want).2 ((srtZ all).getD i3 default))) (j : Int)))], .r [(7, X (Xc3 1082 [(0, 0), (1, 520), (2, 544), (3, 8)] (fc_put ({ clock := 0, site := 0, kind := 1, itm := ((srtZ all).getD i3 default), prt := 0, plc := { data := #[] }, nm := (((fm chgG (findA (playP l).2 ((srtZ all).getD i3 default)) (findA (playP want).2 ((srtZ all).getD i3 default))).getD j default)).name, vl := (((fm chgG (findA (playP l).2 ((srtZ all).getD i3 default)) (findA (playP want).2 ((srtZ all).getD i3 default))).getD j default)).val } : DOp) clock site o4 (by omega) (by omega)) X0))], .r [(0, X (Xn ((j : Int) + 1)))]] [(0, 0), (8, 8), (480, 480), (481, 481), (482, 482), (496, 496), (497, 497), (498, 498), (520, 520), (544, 544), (777, 777)] (ih46 ((j + 1), (o4 ++ [stpO ({ clock := 0, site := 0, kind := 1, itm := ((srtZ all).getD i3 default), prt := 0, plc := { data := #[] }, nm := (((fm chgG (findA (playP l).2 ((srtZ all).getD i3 default)) (findA (playP want).2 ((srtZ all).getD i3 default))).getD j default)).name, vl := (((fm chgG (findA (playP l).2 ((srtZ all).getD i3 default)) (findA (playP want).2 ((srtZ all).getD i3 default))).getD j default)).val } : DOp) (clock + (List.length o4 : Int)) site])) ?_ ?_)
         ·
          refine ⟨by omega, ?_⟩
          rw [take_succG (by omega), List.map_append, List.map_cons, List.map_nil, ← stpL_snoc, ← List.append_assoc, ← I46.2]
          have e : clock + (o3.length : Int) + ((List.length (List.map (setO ((srtZ all).getD i3 default)) (List.take j (fm chgG (findA (playP l).2 ((srtZ all).getD i3 default)) (findA (playP want).2 ((srtZ all).getD i3 default)))))) : Int) = clock + (o4.length : Int) := by
           have := congrArg List.length I46.2
           rw [List.length_append, stpL_len] at this; omega
          rw [e]; rfl
         ·
          ((try dsimp only); omega)
        ·
         (try simp only [decide_eq_true_eq, decide_eq_false_iff_not, Int.not_lt, Int.not_le] at h46)
         refine .back [.r [(0, X (Xn ((i3 : Int) + 1)))]] [(0, 0), (8, 8), (480, 480), (481, 481), (482, 482), (496, 496), (497, 497), (498, 498), (520, 520), (544, 544), (777, 777)] (ih43 ((i3 + 1), o4) ?_ ?_)
         ·
          have hj := I46.2
          rw [List.take_of_length_le (by omega)] at hj
          refine ⟨by omega, ?_⟩
          have hlen3 := congrArg List.length I43.2
          rw [stpL_len] at hlen3
          rw [twF_succ (by rw [hsl]; omega), ← List.append_assoc, stpL_append, ← I43.2, ← hlen3, hj]; rfl
         ·
          ((try dsimp only); omega)
       ·
        (try simp only [decide_eq_true_eq, decide_eq_false_iff_not, Int.not_lt, Int.not_le] at h43)
        refine .br [.r [(6, Xv 1 (decide ((o3.length : Int) > 0)) X0), (7, Xv 1 (decide ((o3.length : Int) > 0)) (Xn ((o3.length : Int) - 1))), (8, Xv 2 (decide ((o3.length : Int) > 0)) (Xp' dopT 544 o3 ((o3.length : Int) - 1) (o3.length - 1))), (9, Xv 1 (decide ((o3.length : Int) > 0)) X0), (10, Xv 1 (decide ((o3.length : Int) > 0)) (Xe dopT o3 (o3.length - 1))), (11, Xv 1 (decide ((o3.length : Int) > 0)) X0), (12, X (Xk (decide ((o3.length : Int) > 0))))]] (decide ((o3.length : Int) > 0) && decide ((((o3.getD (o3.length - 1) default)).clock) > 1073741824)) (fun h51 => ?_) (fun h51 => ?_)
        ·
         (try simp only [decide_eq_true_eq, decide_eq_false_iff_not, Int.not_lt, Int.not_le, gt_iff_lt, Bool.and_eq_true, Bool.and_eq_false_iff, Bool.not_eq_true', Bool.not_eq_false'] at h51)
         exfalso
         have hcl := stpL_clock (c := clock) (s := site) (l := tw1 (playP l).1 (playP want).1 ++ tw2 (playP l).1 (playP want).1 ++ twF (srtZ all) (sts (playP l).2 (playP want).2) i3) (i := o3.length - 1) (by have := congrArg List.length I43.2; rw [stpL_len] at this; omega)
         rw [← I43.2] at hcl
         have hlen3 := congrArg List.length I43.2
         rw [stpL_len] at hlen3
         have h1 := twF_le (srtZ all) (sts (playP l).2 (playP want).2) i3
         have h2 := hfit
         rw [show (srtZ all).flatMap (sts (playP l).2 (playP want).2) = tw3 (playP l).2 (playP want).2 by rw [hkey]; rfl] at h1
         simp only [List.length_append] at h2 hlen3; omega
        ·
         (try simp only [decide_eq_true_eq, decide_eq_false_iff_not, Int.not_lt, Int.not_le, gt_iff_lt, Bool.and_eq_true, Bool.and_eq_false_iff, Bool.not_eq_true', Bool.not_eq_false'] at h51)
         have e1 : ((stpL clock site (tw1 (playP l).1 (playP want).1 ++ tw2 (playP l).1 (playP want).1 ++ tw3 (playP l).2 (playP want).2)) : List DOp) = o3 := by
          rw [I43.2, twF_all (by rw [hsl]; omega), hkey]; rfl
         exact .finE [.r [], .le (.fr 8 [(o3.length : Nat) = (List.map dopT o3).length] ⟨lm, trivial⟩)] [] (fun z0 => (.tup [VL 8 dopT z0, VI 0], [])) (o3 : List DOp) ((stpL clock site (tw1 (playP l).1 (playP want).1 ++ tw2 (playP l).1 (playP want).1 ++ tw3 (playP l).2 (playP want).2)) : List DOp) e1
end Go.Ch
end
section
set_option linter.unusedVariables false
set_option linter.unusedSimpArgs false
set_option maxRecDepth 100000
namespace Go.Ch
open Go Go.Ab

def ld1 (now want : List DItem) (i : Nat) : Bool :=
  if i < want.length then if findX now (want.getD i default).item 0 < 0 ∨ sameI (now.getD (findX now (want.getD i default).item 0).toNat default) (want.getD i default) = false then false else ld1 now want (i + 1) else true
termination_by want.length - i
def ld2 (now want : List DItem) (i : Nat) : Bool :=
  if i < now.length then if findX want (now.getD i default).item 0 < 0 ∧ (now.getD i default).parent ≠ -1 then false else ld2 now want (i + 1) else true
termination_by now.length - i
def leadsB (now want : List DItem) : Bool := ld1 now want 0 && ld2 now want 0
theorem findX_bd {l : List DItem} {k : Int} : ∀ (d i : Nat), l.length - i = d → findX l k i = -1 ∨ (0 ≤ findX l k i ∧ findX l k i < l.length)
  | 0, i, h => by rw [findX, if_neg (by omega)]; exact .inl rfl
  | d + 1, i, h => by
    rw [findX, if_pos (by omega)]
    split
    · right; omega
    · exact findX_bd d (i + 1) (by omega)
theorem findX_lim (l : List DItem) (k : Int) : findX l k 0 = -1 ∨ (0 ≤ findX l k 0 ∧ findX l k 0 < l.length) := findX_bd _ 0 rfl
end Go.Ch
end
section
set_option linter.unusedVariables false
set_option linter.unusedSimpArgs false
set_option maxRecDepth 100000
set_option maxHeartbeats 4000000
open Go Go.Proofs Go.Ab
namespace Go.Ch
theorem fc_leads (now want : List DItem) : FC Try.prog 19 [VL 4 ditT now, VL 4 ditT want] (app emp []) (VB (leadsB now want)) (app emp []) := by
 refine .go Try.f19 ?_
 refine .len 0 (fun hl0 => ?_)
 refine .len 1 (fun hl1 => ?_)
 refine .loop (α := Nat) [.r [], .r [(1, X (Xl ditT want))]] 32 (fun i => ([(0, VL 4 ditT now), (1, VL 4 ditT want), (9, VI (want.length : Int)), (10, VI (i : Int))], [])) (fun i => i ≤ want.length ∧ ld1 now want 0 = ld1 now want i) (fun i => want.length - i) (0 : Nat) ?_ ?_
 ·
  exact ⟨Nat.zero_le _, rfl⟩
 rintro i I2 ih2
 try dsimp only at I2
 refine .br [.r []] (decide ((i : Int) < (want.length : Int))) (fun h2 => ?_) (fun h2 => ?_)
 ·
  (try simp only [decide_eq_true_eq, decide_eq_false_iff_not, Int.not_lt, Int.not_le] at h2)
  have hfx := findX_lim now (want.getD i default).item
  refine .br [.r [], .r [(3, X (Xi ditT want (i : Int))), (6, X (Xc0 (fc_findX now (((want.getD i default)).item)) X0))], .r [(5, Xv 2 (!(decide ((findX now (((want.getD i default)).item) 0) < 0))) (Xi ditT now (findX now (((want.getD i default)).item) 0))), (6, Xv 1 (!(decide ((findX now (((want.getD i default)).item) 0) < 0))) X0), (9, Xv 2 (!(decide ((findX now (((want.getD i default)).item) 0) < 0))) (Xi ditT want (i : Int))), (10, Xv 1 (!(decide ((findX now (((want.getD i default)).item) 0) < 0))) X0), (11, Xv 2 (!(decide ((findX now (((want.getD i default)).item) 0) < 0))) (Xc0 (fc_sameI ((now.getD (Int.toNat (findX now (((want.getD i default)).item) 0)) default)) ((want.getD i default))) X0)), (12, Xv 1 (!(decide ((findX now (((want.getD i default)).item) 0) < 0))) X0), (13, X (Xk' (decide ((findX now (((want.getD i default)).item) 0) < 0))))]] (decide ((findX now (((want.getD i default)).item) 0) < 0) || !(sameI ((now.getD (Int.toNat (findX now (((want.getD i default)).item) 0)) default)) ((want.getD i default)))) (fun h5 => ?_) (fun h5 => ?_)
  ·
   (try simp only [decide_eq_true_eq, decide_eq_false_iff_not, Int.not_lt, Int.not_le, Bool.not_eq_true', Bool.not_eq_false', Bool.or_eq_true, Bool.or_eq_false_iff] at h5)
   have e1 : ((leadsB now want) : Bool) = false := by
    unfold leadsB; rw [I2.2, ld1, if_pos (by omega), if_pos h5]; rfl
   exact .finE [.r []] [] (fun z0 => (VB z0, [])) (false : Bool) ((leadsB now want) : Bool) e1
  ·
   (try simp only [decide_eq_true_eq, decide_eq_false_iff_not, Int.not_lt, Int.not_le, Bool.not_eq_true', Bool.not_eq_false', Bool.or_eq_true, Bool.or_eq_false_iff] at h5)
   refine .back [.r [(0, X (Xn ((i : Int) + 1)))]] [] (ih2 ((i + 1) : Nat) ?_ ?_)
   ·
    refine ⟨by omega, ?_⟩; rw [I2.2, ld1, if_pos (by omega), if_neg (by simp_all)]
   ·
    ((try dsimp only); omega)
 ·
  (try simp only [decide_eq_true_eq, decide_eq_false_iff_not, Int.not_lt, Int.not_le] at h2)
  refine .loop (α := Nat) [.r [(1, X (Xl ditT now))]] 64 (fun j => ([(0, VL 4 ditT now), (1, VL 4 ditT want), (36, VI (now.length : Int)), (37, VI (j : Int))], [])) (fun j => j ≤ now.length ∧ ld2 now want 0 = ld2 now want j) (fun j => now.length - j) (0 : Nat) ?_ ?_
  ·
   exact ⟨Nat.zero_le _, rfl⟩
  rintro j I9 ih9
  try dsimp only at I9
  refine .br [.r []] (decide ((j : Int) < (now.length : Int))) (fun h9 => ?_) (fun h9 => ?_)
  ·
   (try simp only [decide_eq_true_eq, decide_eq_false_iff_not, Int.not_lt, Int.not_le] at h9)
   refine .br [.r [], .r [(3, X (Xi ditT now (j : Int))), (6, X (Xc0 (fc_findX want (((now.getD j default)).item)) X0)), (11, Xv 2 (decide ((findX want (((now.getD j default)).item) 0) < 0)) (Xi ditT now (j : Int))), (12, Xv 1 (decide ((findX want (((now.getD j default)).item) 0) < 0)) X0), (13, Xv 1 (decide ((findX want (((now.getD j default)).item) 0) < 0)) X0), (14, Xv 1 (decide ((findX want (((now.getD j default)).item) 0) < 0)) X0), (15, X (Xk (decide ((findX want (((now.getD j default)).item) 0) < 0))))]] (decide ((findX want (((now.getD j default)).item) 0) < 0) && ((((now.getD j default)).parent) != (-1))) (fun h11 => ?_) (fun h11 => ?_)
   ·
    (try simp only [decide_eq_true_eq, decide_eq_false_iff_not, Int.not_lt, Int.not_le, Bool.and_eq_true, Bool.and_eq_false_iff, Bool.not_eq_true', Bool.not_eq_false', bne_iff_ne, bne_eq_false_iff_eq, ne_eq] at h11)
    have e2 : ((leadsB now want) : Bool) = false := by
     unfold leadsB; rw [I9.2, ld2, if_pos (by omega), if_pos h11]; simp
    exact .finE [.r []] [] (fun z0 => (VB z0, [])) (false : Bool) ((leadsB now want) : Bool) e2
   ·
    (try simp only [decide_eq_true_eq, decide_eq_false_iff_not, Int.not_lt, Int.not_le, Bool.and_eq_true, Bool.and_eq_false_iff, Bool.not_eq_true', Bool.not_eq_false', bne_iff_ne, bne_eq_false_iff_eq, ne_eq] at h11)
    refine .back [.r [(0, X (Xn ((j : Int) + 1)))]] [] (ih9 ((j + 1) : Nat) ?_ ?_)
    ·
     refine ⟨by omega, ?_⟩; rw [I9.2, ld2, if_pos (by omega), if_neg (by (clear ih9; rintro ⟨a, b⟩; rcases h11 with h | h; omega; exact b h))]
    ·
     ((try dsimp only); omega)
  ·
   (try simp only [decide_eq_true_eq, decide_eq_false_iff_not, Int.not_lt, Int.not_le] at h9)
   have e3 : ((leadsB now want) : Bool) = true := by
    unfold leadsB; rw [I9.2, ld2, if_neg (by omega), I2.2, ld1, if_neg (by omega)]; rfl
   exact .finE [.r []] [] (fun z0 => (VB z0, [])) (true : Bool) ((leadsB now want) : Bool) e3
end Go.Ch
end
section
set_option linter.unusedVariables false
set_option linter.unusedSimpArgs false
set_option maxRecDepth 100000
namespace Go.Ch
open Go Go.Ab

theorem step_stp (S : List DItem × List (Int × List Attr)) (o : DOp) (c s : Int) : stepP S (stpO o c s) = stepP S o := rfl
theorem fold_stp : ∀ (l : List DOp) (c s : Int) (S : List DItem × List (Int × List Attr)), (stpL c s l).foldl stepP S = l.foldl stepP S
  | [], c, s, S => rfl
  | o :: l, c, s, S => by
    have h := stpL_append c s [o] l
    rw [List.singleton_append] at h
    rw [h, List.foldl_append]
    have e : stpL c s [o] = [stpO o (c + ((0 : Nat) : Int)) s] := rfl
    rw [e, List.foldl_cons, List.foldl_nil, step_stp, List.foldl_cons]
    exact fold_stp l _ s _
theorem play_append (a t : List DOp) : playP (a ++ t) = t.foldl stepP (playP a) := by unfold playP; rw [List.foldl_append]
/-- A move to nowhere is never refused. -/
theorem step_away (S : List DItem × List (Int × List Attr)) (k : Int) (s : ByteArray) : stepP S (movO k (-1) s) = (putK DItem.item S.1 ⟨k, -1, s, []⟩, S.2) := by
  have hb : belowI S.1 k (-1) = false := by rw [belowI, if_neg (by decide)]
  unfold stepP
  rw [if_neg (by show ¬ (0 : Int) = 1; decide), if_neg (by show ¬ belowI S.1 k (-1) = true; rw [hb]; decide)]
  rfl
theorem bqF {a b : Int} (h : ¬ a = b) : (a == b) = false := by simpa using h
theorem bqT {a b : Int} (h : a = b) : (a == b) = true := by simpa using h
theorem find_putK {α : Type} {key : α → Int} {x : α} {k : Int} : ∀ (l : List α), (putK key l x).find? (fun y => key y == k) = if key x = k then some x else l.find? (fun y => key y == k)
  | [] => by
    simp only [putK, List.find?_cons, List.find?_nil]
    by_cases h : key x = k
    · rw [if_pos h, bqT h]
    · rw [if_neg h, bqF h]
  | y :: l => by
    simp only [putK]
    by_cases hy : key x = key y
    · rw [if_pos hy, List.find?_cons, List.find?_cons]
      by_cases h : key x = k
      · rw [if_pos h, bqT h]
      · have h2 : ¬ key y = k := fun e => h (hy.trans e)
        rw [if_neg h, bqF h, bqF h2]
    · rw [if_neg hy, List.find?_cons, find_putK l, List.find?_cons]
      by_cases h : key x = k
      · have h2 : ¬ key y = k := fun e => hy (h.trans e.symm)
        simp only [if_pos h, bqF h2]
      · simp only [if_neg h]
theorem findI_put (l : List DItem) (x : DItem) (k : Int) : findI (putK DItem.item l x) k = if x.item = k then some x else findI l k := find_putK l
theorem findA_put (l : List (Int × List Attr)) (k : Int) (a : List Attr) (j : Int) : findA (putK Prod.fst l (k, a)) j = if k = j then a else findA l j := by
  unfold findA
  rw [find_putK]
  by_cases h : k = j
  · simp [h]
  · simp [h]
/-- What stands where after the first part: what the other drawing has not is away. -/
def awayI (N T : List DItem) (k : Int) : Option DItem := if (findI T k).isSome = true then findI N k else (findI N k).map fun x => ⟨x.item, -1, x.place, []⟩
theorem tw1_fold {N T : List DItem} (hnil : ∀ x ∈ N, x.attrs = []) (hu : UniqI DItem.item N) : ∀ (L : List DItem), (∀ x ∈ L, x ∈ N) → ∀ (S : List DItem × List (Int × List Attr)) (D : List Int),
    (∀ k, findI S.1 k = if k ∈ D then awayI N T k else findI N k) →
    ((L.flatMap (mv1 T)).foldl stepP S).2 = S.2 ∧ ∀ k, findI ((L.flatMap (mv1 T)).foldl stepP S).1 k = if k ∈ D ++ L.map DItem.item then awayI N T k else findI N k
  | [], _, S, D, h => ⟨rfl, by simpa using h⟩
  | x :: L, hL, S, D, h => by
    have hx := hL x List.mem_cons_self
    have hfx : findI N x.item = some x := find_uniq hu hx
    have key : (((mv1 T x).foldl stepP S).2 = S.2) ∧ ∀ k, findI ((mv1 T x).foldl stepP S).1 k = if k ∈ D ++ [x.item] then awayI N T k else findI N k := by
      unfold mv1
      split
      · rename_i hc
        rw [List.foldl_cons, List.foldl_nil, step_away]
        refine ⟨rfl, fun k => ?_⟩
        simp only [findI_put]
        by_cases hk : x.item = k
        · subst hk
          rw [if_pos rfl, if_pos (by simp)]
          unfold awayI
          rw [if_neg (by rw [hc.1]; decide), hfx]; rfl
        · rw [if_neg hk, h k]
          have : k ∈ D ++ [x.item] ↔ k ∈ D := by
            rw [List.mem_append, List.mem_singleton]
            exact ⟨fun q => q.resolve_right (fun e => hk e.symm), .inl⟩
          simp only [this]
      · rename_i hc
        refine ⟨rfl, fun k => ?_⟩
        rw [List.foldl_nil, h k]
        by_cases hk : x.item = k
        · subst hk
          rw [if_pos (c := x.item ∈ D ++ [x.item]) (by simp)]
          have ha : awayI N T x.item = some x := by
            unfold awayI
            split
            · exact hfx
            · rename_i hT
              have hp : x.parent = -1 := by
                by_cases hp : x.parent = -1
                · exact hp
                · exact absurd ⟨by simpa using hT, hp⟩ hc
              rw [hfx]
              have := hnil x hx
              cases x
              simp only at hp this
              subst hp this
              rfl
          rw [ha, hfx]
          split <;> rfl
        · have : k ∈ D ++ [x.item] ↔ k ∈ D := by
            rw [List.mem_append, List.mem_singleton]
            exact ⟨fun q => q.resolve_right (fun e => hk e.symm), .inl⟩
          simp only [this]
    have ih := tw1_fold hnil hu L (fun y hy => hL y (List.mem_cons_of_mem _ hy)) ((mv1 T x).foldl stepP S) (D ++ [x.item]) key.2
    rw [List.flatMap_cons, List.foldl_append]
    refine ⟨ih.1.trans key.1, fun k => ?_⟩
    rw [ih.2 k, List.append_assoc]; rfl
end Go.Ch
end
