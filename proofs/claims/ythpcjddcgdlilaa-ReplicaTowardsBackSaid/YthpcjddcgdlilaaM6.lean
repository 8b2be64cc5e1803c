/- Maps as lists of entries with keys. -/
import Derived.Test.YthpcjddcgdlilaaM1
import Derived.Test.YthpcjddcgdlilaaM2
import Derived.Test.YthpcjddcgdlilaaM3
import Derived.Test.YthpcjddcgdlilaaM4
import Derived.Test.YthpcjddcgdlilaaM5
import Derived.Shelf.Small.Bits
import Derived.Shelf.Small.Wraps
import Derived.Shelf.Strconv.Itoa0
import Derived.Shelf.Sort.Plain
import Derived.Ground.Names2Prog
import Derived.Shelf.Slices.SearchI
import Derived.Shelf.Slices.In.SortNone
import Derived.Ground.SlsfProg
import Derived.Shelf.SlGeneric
import Derived.Shelf.SlSortCmp.WholeK
import Derived.Test.YthpcjddcgdlilaaProg
import Derived.Laws.Cover1
import Derived.WalkKit
import Derived.WalkMore
import Derived.Handy
import Derived.StillTailTactics
import Derived.Shelf.SlSortCmp.NoneTotal
section
set_option linter.unusedVariables false
namespace Go.Ab
variable {α : Type}
/-- The entry with the key of x is x. -/
def putK (key : α → Int) : List α → α → List α
  | [], x => [x]
  | y :: l, x => if key x = key y then x :: l else y :: putK key l x
theorem putE_map {f : α → Int × MV} {key : α → Int} (hf : ∀ x, (f x).1 = key x) : ∀ {l : List α} {x : α}, putE (l.map f) (key x) (f x).2 = (putK key l x).map f
  | [], x => by simp [putE, putK, ← hf]
  | y :: l, x => by
    have e : f y = (key y, (f y).2) := by rw [← hf]
    simp only [List.map_cons, putK]
    rw [e, putE]
    by_cases h : key x = key y
    · rw [if_pos h, if_pos h, List.map_cons, ← h]
      congr 1
      rw [← hf]
    · rw [if_neg h, if_neg h, List.map_cons, putE_map hf, ← e]
theorem lookE_map {f : α → Int × MV} {key : α → Int} (hf : ∀ x, (f x).1 = key x) : ∀ {l : List α} {n : Int}, lookE (l.map f) n = (l.find? (fun x => key x == n)).map (fun x => (f x).2)
  | [], n => rfl
  | y :: l, n => by
    have e : f y = (key y, (f y).2) := by rw [← hf]
    rw [List.map_cons, e, lookE, List.find?_cons, lookE_map hf]
    by_cases h : n = key y
    · rw [if_pos h, h]; simp
    · rw [if_neg h]
      have : (key y == n) = false := by simpa using fun q => h q.symm
      rw [this]
/-- No key twice. -/
def Uniq (key : α → Int) (l : List α) : Prop := ∀ x ∈ l, ∀ y ∈ l, key x = key y → x = y
def UniqI (key : α → Int) (l : List α) : Prop := (l.map key).Nodup
theorem UniqI.uniq {key : α → Int} : ∀ {l : List α}, UniqI key l → Uniq key l
  | [], _, x, hx, _, _, _ => by simp at hx
  | a :: l, h, x, hx, y, hy, e => by
    simp only [UniqI, List.map_cons, List.nodup_cons] at h
    rcases List.mem_cons.1 hx with e1 | h1 <;> rcases List.mem_cons.1 hy with e2 | h2
    · rw [e1, e2]
    · exact absurd (List.mem_map.2 ⟨y, h2, by rw [← e, e1]⟩) h.1
    · exact absurd (List.mem_map.2 ⟨x, h1, by rw [e, e2]⟩) h.1
    · exact UniqI.uniq h.2 x h1 y h2 e
theorem putK_mem {key : α → Int} : ∀ {l : List α} {x y : α}, y ∈ putK key l x → y = x ∨ (y ∈ l)
  | [], x, y, h => by simp [putK] at h; exact .inl h
  | a :: l, x, y, h => by
    simp only [putK] at h
    split at h
    · rcases List.mem_cons.1 h with h | h
      · exact .inl h
      · exact .inr (List.mem_cons_of_mem _ h)
    · rcases List.mem_cons.1 h with rfl | h
      · exact .inr List.mem_cons_self
      · exact (putK_mem h).imp id (List.mem_cons_of_mem _)
theorem putK_self {key : α → Int} : ∀ {l : List α} {x : α}, x ∈ putK key l x
  | [], x => by simp [putK]
  | a :: l, x => by
    simp only [putK]
    split
    · exact List.mem_cons_self
    · exact List.mem_cons_of_mem _ putK_self
theorem putK_old {key : α → Int} : ∀ {l : List α} {x y : α}, y ∈ l → key y ≠ key x → y ∈ putK key l x
  | a :: l, x, y, h, hne => by
    simp only [putK]
    split
    · rename_i e
      rcases List.mem_cons.1 h with rfl | h
      · exact absurd e.symm hne
      · exact List.mem_cons_of_mem _ h
    · rcases List.mem_cons.1 h with rfl | h
      · exact List.mem_cons_self
      · exact List.mem_cons_of_mem _ (putK_old h hne)
theorem putK_keys {key : α → Int} : ∀ {l : List α} {x : α}, (putK key l x).map key = if key x ∈ l.map key then l.map key else l.map key ++ [key x]
  | [], x => by simp [putK]
  | a :: l, x => by
    simp only [putK]
    by_cases h : key x = key a
    · rw [if_pos h]; simp [h]
    · rw [if_neg h, List.map_cons, putK_keys]
      by_cases hm : key x ∈ l.map key
      · rw [if_pos hm, if_pos (by simp only [List.map_cons, List.mem_cons]; exact .inr hm)]; rfl
      · rw [if_neg hm, if_neg (by simp only [List.map_cons, List.mem_cons, not_or]; exact ⟨h, hm⟩)]; rfl
theorem UniqI.putK {key : α → Int} {l : List α} {x : α} (h : UniqI key l) : UniqI key (putK key l x) := by
  unfold UniqI at *
  rw [putK_keys]
  split
  · exact h
  · rename_i hm
    rw [List.nodup_append]
    exact ⟨h, by simp, fun a ha b hb => by simp at hb; subst hb; exact fun e => hm (e ▸ ha)⟩
theorem putK_other {key : α → Int} {l : List α} {x y : α} (h : UniqI key l) (hy : y ∈ Ab.putK key l x) (hne : y ≠ x) : y ∈ l ∧ key y ≠ key x := by
  have h1 := (putK_mem hy).resolve_left hne
  refine ⟨h1, fun e => hne ?_⟩
  exact h.putK.uniq y hy x putK_self e
theorem find_uniq {key : α → Int} {l : List α} {x : α} (h : UniqI key l) (hx : x ∈ l) : l.find? (fun y => key y == key x) = some x := by
  cases hf : l.find? (fun y => key y == key x) with
  | none => have := List.find?_eq_none.1 hf x hx; simp at this
  | some y =>
    have h1 := List.find?_some hf
    have h2 := List.mem_of_find?_eq_some hf
    rw [h.uniq y h2 x hx (by simpa using h1)]
theorem putK_same {key : α → Int} : ∀ {l : List α} {y : α}, UniqI key l → y ∈ l → putK key l y = l
  | a :: l, y, h, hy => by
    have hq := h.uniq
    simp only [putK]
    split
    · rename_i e; rw [hq y hy a List.mem_cons_self e]
    · rename_i e
      have h1 : y ∈ l := (List.mem_cons.1 hy).resolve_left (fun q => e (by rw [q]))
      simp only [UniqI, List.map_cons, List.nodup_cons] at h
      rw [putK_same h.2 h1]
theorem find_at {key : α → Int} {l : List α} {n : Int} {x : α} (h : l.find? (fun y => key y == n) = some x) : x ∈ l ∧ key x = n := ⟨List.mem_of_find?_eq_some h, by have := List.find?_some h; simpa using this⟩
theorem find_not {key : α → Int} {l : List α} {n : Int} (h : l.find? (fun y => key y == n) = none) : ∀ x ∈ l, key x ≠ n := fun x hx => by
  have := List.find?_eq_none.1 h x hx; simpa using this
end Go.Ab
end
section
set_option linter.unusedVariables false
set_option linter.unusedSimpArgs false
namespace Go.Ch
open Go Go.Ab

def itM (x : DItem) : Int × MV := (x.item, .bx [TI x.item, TI x.parent, TS x.place, TL 2 attrT x.attrs])
def atM (p : Int × List Attr) : Int × MV := (p.1, .im (TL 2 attrT p.2))
def findI (l : List DItem) (k : Int) : Option DItem := l.find? (fun x => x.item == k)
def findA (l : List (Int × List Attr)) (k : Int) : List Attr := ((l.find? (fun p => p.1 == k)).map (·.2)).getD []
theorem lookI {l : List DItem} {k : Int} : lookE (l.map itM) k = (findI l k).map fun x => .bx [TI x.item, TI x.parent, TS x.place, TL 2 attrT x.attrs] := lookE_map (key := DItem.item) (fun _ => rfl)
theorem lookA {l : List (Int × List Attr)} {k : Int} : lookQ (l.map atM) k 2 = some ((findA l k).map attrT) := by
  unfold lookQ findA
  rw [lookE_map (f := atM) (key := Prod.fst) (fun _ => rfl)]
  cases l.find? (fun p => p.1 == k) with
  | none => rfl
  | some p => simp [atM]
theorem putI {l : List DItem} {x : DItem} : putE (l.map itM) x.item (.bx [TI x.item, TI x.parent, TS x.place, TL 2 attrT x.attrs]) = (putK DItem.item l x).map itM := putE_map (f := itM) (key := DItem.item) (fun _ => rfl)
theorem putA {l : List (Int × List Attr)} {k : Int} {a : List Attr} : putE (l.map atM) k (.im (TL 2 attrT a)) = (putK Prod.fst l (k, a)).map atM := putE_map (f := atM) (key := Prod.fst) (x := (k, a)) (fun _ => rfl)

theorem put_same {l : List DItem} {k : Int} {y : DItem} (hu : UniqI DItem.item l) (h : findI l k = some y) : putE (l.map itM) k (.bx [TI y.item, TI y.parent, TS y.place, TL 2 attrT y.attrs]) = l.map itM := by
  obtain ⟨h1, h2⟩ := find_at h
  rw [← h2, putI, putK_same hu h1]
/-! ### Below -/
def dropI (its : List DItem) (k : Int) : List DItem := its.filter fun y => decide (y.item ≠ k)
def belowI (its : List DItem) (top k : Int) : Bool :=
  if 0 < k then
    if k = top then true
    else match h : findI its k with
      | none => false
      | some x => belowI (dropI its k) top x.parent
  else false
termination_by its.length
decreasing_by
  obtain ⟨h1, h2⟩ := find_at h
  have : (its.filter fun y => decide (y.item ≠ k)).length < its.length := List.length_filter_lt_length_iff_exists.2 ⟨x, h1, by simp [h2]⟩
  exact this
inductive BelowP (its : List DItem) (top : Int) : Int → Prop
  | here (h : 0 < top) : BelowP its top top
  | up (x : DItem) (hx : x ∈ its) (h0 : 0 < x.item) (h : BelowP its top x.parent) : BelowP its top x.item
/-- A rank that says that nobody is below himself. -/
def Rk (its : List DItem) (r : Int → Nat) : Prop := ∀ x ∈ its, 0 < x.parent → r x.parent < r x.item
theorem BelowP.pos {its : List DItem} {top k : Int} (h : BelowP its top k) : 0 < k := by
  cases h with
  | here h => exact h
  | up x hx h0 h => exact h0
theorem BelowP.inv {its : List DItem} (hu : UniqI DItem.item its) {top k : Int} (h : BelowP its top k) (hk : k ≠ top) {x : DItem} (hx : x ∈ its) (e : x.item = k) : BelowP its top x.parent := by
  cases h with
  | here => exact absurd rfl hk
  | up y hy _ hb => rw [hu.uniq x hx y hy e]; exact hb
theorem belowI_iff {its : List DItem} {r : Int → Nat} (hr : Rk its r) (hu : UniqI DItem.item its) {top : Int} : ∀ (n : Nat) (k : Int) (q : DItem → Bool), (if 0 < k then r k + 1 else 0) ≤ n → (0 < k → ∀ x ∈ its, r x.item ≤ r k → q x = true) → (belowI (its.filter q) top k = true ↔ BelowP its top k) := by
  intro n
  induction n with
  | zero =>
    intro k q hk hq
    have h0 : ¬ 0 < k := fun h => by rw [if_pos h] at hk; omega
    rw [belowI, if_neg h0]
    exact ⟨fun h => (by cases h), fun h => absurd h.pos h0⟩
  | succ n ih =>
    intro k q hk hq
    rw [belowI]
    by_cases h0 : 0 < k
    · rw [if_pos h0] at hk ⊢
      by_cases h1 : k = top
      · rw [if_pos h1]; subst h1; exact ⟨fun _ => .here h0, fun _ => rfl⟩
      · rw [if_neg h1]
        have hfind : findI (its.filter q) k = findI its k := by
          unfold findI
          rw [List.find?_filter]
          have key : ∀ l : List DItem, (∀ x ∈ l, x ∈ its) → l.find? (fun a => decide (q a = true ∧ (a.item == k) = true)) = l.find? (fun x => x.item == k) := by
            intro l
            induction l with
            | nil => intro _; rfl
            | cons a l ih2 =>
              intro hl
              rw [List.find?_cons, List.find?_cons, ih2 (fun x hx => hl x (List.mem_cons_of_mem _ hx))]
              by_cases e : a.item = k
              · have := hq h0 a (hl a List.mem_cons_self) (by rw [e]; exact Nat.le_refl _)
                simp [this, e]
              · have e2 : (a.item == k) = false := by simpa using e
                simp [e2]
          exact key its (fun x h => h)
        split
        · rename_i h; rw [hfind] at h
          refine ⟨fun h => (by cases h), fun hb => ?_⟩
          cases hb with
          | here => exact absurd rfl h1
          | up x hx _ _ => exact absurd rfl (find_not h x hx)
        · rename_i x h; rw [hfind] at h
          obtain ⟨hx, e⟩ := find_at h
          unfold dropI
          rw [List.filter_filter]
          have hlt : 0 < x.parent → r x.parent < r k := fun hp => by rw [← e]; exact hr x hx hp
          rw [ih x.parent _ (by split <;> omega) (fun hp y hy hle => ?_)]
          · exact ⟨fun hb => by rw [← e]; exact .up x hx (by omega) hb, fun hb => hb.inv hu h1 hx e⟩
          · have := hlt hp
            have hne : y.item ≠ k := fun e2 => by rw [e2] at hle; omega
            simp [hne, hq h0 y hy (by omega)]
    · rw [if_neg h0]
      exact ⟨fun h => (by cases h), fun h => absurd h.pos h0⟩
theorem filter_all {l : List DItem} : l.filter (fun _ => true) = l := by simp
theorem below_iff {its : List DItem} {r : Int → Nat} (hr : Rk its r) (hu : UniqI DItem.item its) {top k : Int} : belowI its top k = true ↔ BelowP its top k := by
  have := belowI_iff hr hu (top := top) _ k (fun _ => true) (Nat.le_refl _) (fun _ _ _ _ => rfl)
  rwa [filter_all] at this
/-- One step up. -/
theorem below_step {its : List DItem} {r : Int → Nat} (hr : Rk its r) (hu : UniqI DItem.item its) {top k : Int} (h0 : 0 < k) (hk : k ≠ top) {x : DItem} (hx : findI its k = some x) : belowI its top k = belowI its top x.parent := by
  obtain ⟨h1, h2⟩ := find_at hx
  rw [Bool.eq_iff_iff, below_iff hr hu, below_iff hr hu]
  exact ⟨fun h => h.inv hu hk h1 h2, fun h => by rw [← h2]; exact .up x h1 (by omega) h⟩

/-! ### Playing -/
def stepP (s : List DItem × List (Int × List Attr)) (o : DOp) : List DItem × List (Int × List Attr) :=
  if o.kind = 1 then (s.1, putK Prod.fst s.2 (o.itm, fm rawG (findA s.2 o.itm) [⟨o.nm, o.vl⟩]))
  else if belowI s.1 o.itm o.prt = true then s
  else (putK DItem.item s.1 ⟨o.itm, o.prt, o.plc, []⟩, s.2)
def playP (l : List DOp) : List DItem × List (Int × List Attr) := l.foldl stepP ([], [])
theorem playP_succ {l : List DOp} {i : Nat} (h : i < l.length) : playP (l.take (i + 1)) = stepP (playP (l.take i)) (l.getD i default) := by
  unfold playP
  rw [List.take_succ_eq_append_getElem h, List.foldl_append]
  simp [List.getD, List.getElem?_eq_getElem h]
structure PlayOk (s : List DItem × List (Int × List Attr)) (n : Nat) : Prop where
  rank : ∃ r, Rk s.1 r
  uniq : UniqI DItem.item s.1
  uniqA : UniqI Prod.fst s.2
  pos : ∀ x ∈ s.1, 0 < x.item
  nil : ∀ x ∈ s.1, x.attrs = []
  len : s.1.length ≤ n
  lenA : s.2.length ≤ n
  lenP : ∀ p ∈ s.2, p.2.length ≤ n
theorem putK_len {α : Type} {key : α → Int} : ∀ {l : List α} {x : α}, (putK key l x).length ≤ l.length + 1
  | [], x => by simp [putK]
  | a :: l, x => by
    simp only [putK]
    split
    · simp
    · have := putK_len (key := key) (l := l) (x := x)
      simp only [List.length_cons]; omega
theorem findA_len {l : List (Int × List Attr)} {k : Int} {n : Nat} (h : ∀ p ∈ l, p.2.length ≤ n) : (findA l k).length ≤ n := by
  unfold findA
  cases hf : l.find? (fun p => p.1 == k) with
  | none => simp
  | some p => exact h p (List.mem_of_find?_eq_some hf)
theorem PlayOk.start : PlayOk ([], []) 0 := ⟨⟨fun _ => 0, fun x hx => (by cases hx)⟩, List.nodup_nil, List.nodup_nil, fun x hx => (by cases hx), fun x hx => (by cases hx), Nat.le_refl _, Nat.le_refl _, fun x hx => (by cases hx)⟩
open Classical in
theorem PlayOk.step {s : List DItem × List (Int × List Attr)} {n : Nat} (h : PlayOk s n) {o : DOp} (ho : 0 < o.itm) : PlayOk (stepP s o) (n + 1) := by
  obtain ⟨⟨r, hr⟩, h2, h3, h4, h5, h6, h7, h8⟩ := h
  unfold stepP
  split
  · refine ⟨⟨r, hr⟩, h2, h3.putK, h4, h5, by simp only; omega, Nat.le_trans putK_len (by omega), fun p hp => ?_⟩
    rcases putK_mem hp with rfl | hp
    · have := fm_len rawG (findA s.2 o.itm) [⟨o.nm, o.vl⟩]
      have := findA_len (k := o.itm) h8
      simp only [List.length_cons, List.length_nil] at *
      omega
    · have := h8 p hp; omega
  · split
    · exact ⟨⟨r, hr⟩, h2, h3, h4, h5, by omega, by omega, fun p hp => by have := h8 p hp; omega⟩
    · rename_i hb
      have hb : ¬ BelowP s.1 o.itm o.prt := fun q => hb ((below_iff hr h2).2 q)
      refine ⟨⟨fun k => if BelowP s.1 o.itm k then r k + r o.prt + 1 else r k, fun x hx hp => ?_⟩, h2.putK, h3, fun x hx => ?_, fun x hx => ?_, Nat.le_trans putK_len (by omega), by simp only; omega, fun p hp => by have := h8 p hp; omega⟩
      · by_cases e : x = ⟨o.itm, o.prt, o.plc, []⟩
        · subst e
          show (if BelowP s.1 o.itm o.prt then r o.prt + r o.prt + 1 else r o.prt) < (if BelowP s.1 o.itm o.itm then r o.itm + r o.prt + 1 else r o.itm)
          rw [if_neg hb, if_pos (.here ho)]; omega
        · obtain ⟨h9, h10⟩ := putK_other h2 hx e
          have hlt := hr x h9 hp
          show (if BelowP s.1 o.itm x.parent then r x.parent + r o.prt + 1 else r x.parent) < (if BelowP s.1 o.itm x.item then r x.item + r o.prt + 1 else r x.item)
          by_cases hq : BelowP s.1 o.itm x.parent
          · rw [if_pos hq, if_pos (.up x h9 (h4 x h9) hq)]; omega
          · rw [if_neg hq]; split <;> omega
      · rcases putK_mem hx with rfl | hx
        · exact ho
        · exact h4 x hx
      · rcases putK_mem hx with rfl | hx
        · rfl
        · exact h5 x hx
theorem playP_ok {l : List DOp} (hl : ∀ o ∈ l, 0 < o.itm) : ∀ i, i ≤ l.length → PlayOk (playP (l.take i)) i
  | 0, _ => by simpa [playP] using PlayOk.start
  | i + 1, h => by
    rw [playP_succ (by omega)]
    exact (playP_ok hl i (by omega)).step (hl _ (getDO_mem (by omega)))
end Go.Ch
end
section
set_option linter.unusedVariables false
set_option linter.unusedSimpArgs false
set_option maxRecDepth 100000
set_option maxHeartbeats 4000000
open Go Go.Proofs Go.Ab
namespace Go.Ch
theorem fc_below (its : List DItem) (ats : List (Int × List Attr)) (k top : Int) (r : Int → Nat) (hr : Rk its r) (hu : UniqI DItem.item its) : FC Try.prog 41 [.ptr 0 0, VI k, VI top] (app emp [(0, .box [.hdl 1, .hdl 2]), (1, .mp (List.map itM its) none), (2, .mp (List.map atM ats) none)]) (VB (belowI its top k)) (app emp [(0, .box [.hdl 1, .hdl 2]), (1, .mp (List.map itM its) none), (2, .mp (List.map atM ats) none)]) := by
 refine .go Try.f41 ?_
 refine .loop (α := Int) [.r []] 11 (fun c => ([(0, .ptr 0 0), (1, VI c), (2, VI top)], [(0, .box [.hdl 1, .hdl 2]), (1, .mp (List.map itM its) none), (2, .mp (List.map atM ats) none)])) (fun c => belowI its top k = belowI its top c) (fun c => if 0 < c then r c + 1 else 0) (k : Int) ?_ ?_
 ·
  rfl
 rintro c I1 ih1
 try dsimp only at I1
 refine .br [.r []] (decide (c > 0)) (fun h1 => ?_) (fun h1 => ?_)
 ·
  (try simp only [decide_eq_true_eq, decide_eq_false_iff_not, Int.not_lt, Int.not_le, gt_iff_lt] at h1)
  refine .br [.r []] (c == top) (fun h2 => ?_) (fun h2 => ?_)
  ·
   (try simp only [beq_iff_eq, beq_eq_false_iff_ne, ne_eq] at h2)
   have e1 : ((belowI its top k) : Bool) = true := by
    rw [I1, belowI, if_pos h1, if_pos h2]
   exact .finE [.r []] [(0, 0), (1, 1), (2, 2)] (fun z0 => (VB z0, [(0, .box [.hdl 1, .hdl 2]), (1, .mp (List.map itM its) none), (2, .mp (List.map atM ats) none)])) (true : Bool) ((belowI its top k) : Bool) e1
  ·
   (try simp only [beq_iff_eq, beq_eq_false_iff_ne, ne_eq] at h2)
   rcases hf : findI its c with _ | y
   ·
    have e2 : ((belowI its top k) : Bool) = false := by
     rw [I1, belowI, if_pos h1, if_neg h2]; split
     · rfl
     · rename_i hq; rw [hf] at hq; cases hq
    exact .finE [.r [(5, X (Xm0 (List.map itM its) c) (by rw [lookI, hf]; rfl))], .r [], .t, .r []] [(0, 0), (1, 1), (2, 2)] (fun z0 => (VB z0, [(0, .box [.hdl 1, .hdl 2]), (1, .mp (List.map itM its) none), (2, .mp (List.map atM ats) none)])) (false : Bool) ((belowI its top k) : Bool) e2
   ·
    refine .back [.r [(5, X (Xm2 (List.map itM its) c [TI y.item, TI y.parent, TS y.place, TL 2 attrT y.attrs]) (by rw [lookI, hf]; rfl))], .r [], .f, .r [], .le (.mput 1 (List.map itM its) [(lookE (List.map itM its) c).isSome = true, putE (List.map itM its) c (.bx [TI y.item, TI y.parent, TS y.place, TL 2 attrT y.attrs]) = List.map itM its] ⟨(by rw [lookI, hf]; rfl), put_same hu hf, trivial⟩)] [(0, 0), (1, 1), (2, 2)] (ih1 (y.parent : Int) ?_ ?_)
    ·
     rw [I1]; exact below_step hr hu h1 h2 hf
    ·
     obtain ⟨q1, q2⟩ := find_at hf
     (try dsimp only)
     rw [if_pos h1]
     by_cases hp : 0 < y.parent
     · have := hr y q1 hp; rw [if_pos hp]; rw [q2] at this; omega
     · rw [if_neg hp]; omega
 ·
  (try simp only [decide_eq_true_eq, decide_eq_false_iff_not, Int.not_lt, Int.not_le, gt_iff_lt] at h1)
  have e3 : ((belowI its top k) : Bool) = false := by
   rw [I1, belowI, if_neg (by omega)]
  exact .finE [.r []] [(0, 0), (1, 1), (2, 2)] (fun z0 => (VB z0, [(0, .box [.hdl 1, .hdl 2]), (1, .mp (List.map itM its) none), (2, .mp (List.map atM ats) none)])) (false : Bool) ((belowI its top k) : Bool) e3

theorem fc_play (l : List DOp) (hn : l.length ≤ 1000000000) (ho : ∀ o ∈ l, 0 < o.itm) : FC Try.prog 24 [VL 8 dopT l] (app emp []) (.ptr 0 0) (app emp [(0, .box [.hdl 1, .hdl 2]), (1, .mp (List.map itM ((playP l).1)) none), (2, .mp (List.map atM ((playP l).2)) none)]) := by
 refine .go Try.f24 ?_
 refine .len 0 (fun hl0 => ?_)
 have hok := playP_ok ho
 refine .loop (α := Nat × List DItem × List (Int × List Attr)) [.r [], .r [], .r [(1, X (Xl dopT l))]] 72 (fun (i, its, ats) => ([(3, .ptr 32 0), (10, VL 8 dopT l), (11, VI (l.length : Int)), (12, VI (i : Int))], [(8, .mp (List.map itM its) none), (16, .mp (List.map atM ats) none), (32, .box [.hdl 8, .hdl 16])])) (fun (i, its, ats) => i ≤ l.length ∧ (its, ats) = playP (l.take i)) (fun (i, its, ats) => l.length - i) (0, [], []) ?_ ?_
 ·
  exact ⟨by omega, rfl⟩
 rintro ⟨i, its, ats⟩ I3 ih3
 try dsimp only at I3
 refine .br [.r []] (decide ((i : Int) < (l.length : Int))) (fun h3 => ?_) (fun h3 => ?_)
 ·
  (try simp only [decide_eq_true_eq, decide_eq_false_iff_not, Int.not_lt, Int.not_le] at h3)
  have hP := hok i (by omega)
  rw [← I3.2] at hP
  obtain ⟨r, hr⟩ := hP.rank
  have hu := hP.uniq
  have hfl : (findA ats (l.getD i default).itm).length ≤ i := findA_len hP.lenP
  refine .br [.r [(0, X (Xi dopT l (i : Int)))], .r []] ((((l.getD i default)).kind) == 1) (fun h5 => ?_) (fun h5 => ?_)
  ·
   (try simp only [beq_iff_eq, beq_eq_false_iff_ne, ne_eq] at h5)
   refine .back [.r [(12, X (Xmq (List.map atM ats) (((l.getD i default)).itm) 2 attrT (findA ats (l.getD i default).itm)) lookA), (19, X (Xc1 296 (fc_raw (findA ats (l.getD i default).itm) [({ name := ((l.getD i default)).nm, val := ((l.getD i default)).vl } : Attr)] (by simp only [List.length_cons, List.length_nil]; omega)) (rowC attrT [({ name := ((l.getD i default)).nm, val := ((l.getD i default)).vl } : Attr)] X0))), (20, X (Xmu atM ats (putK Prod.fst ats ((l.getD i default).itm, fm rawG (findA ats (l.getD i default).itm) [⟨(l.getD i default).nm, (l.getD i default).vl⟩])) (((l.getD i default)).itm) 16 (.im (TL 2 attrT (fm rawG (findA ats (l.getD i default).itm) [({ name := ((l.getD i default)).nm, val := ((l.getD i default)).vl } : Attr)])))) putA)], .r [(0, X (Xn ((i : Int) + 1)))]] [(8, 8), (16, 16), (32, 32)] (ih3 ((i + 1), its, (putK Prod.fst ats ((l.getD i default).itm, fm rawG (findA ats (l.getD i default).itm) [⟨(l.getD i default).nm, (l.getD i default).vl⟩]))) ?_ ?_)
   ·
    refine ⟨by omega, ?_⟩
    rw [playP_succ (by omega), ← I3.2, stepP, if_pos h5]
   ·
    ((try dsimp only); omega)
  ·
   (try simp only [beq_iff_eq, beq_eq_false_iff_ne, ne_eq] at h5)
   refine .br [.r [(5, X (Xc4 [(0, 32), (1, 8), (2, 16)] (fc_below its ats (((l.getD i default)).prt) (((l.getD i default)).itm) r hr hu) X0))]] (!(belowI its (((l.getD i default)).itm) (((l.getD i default)).prt))) (fun h7 => ?_) (fun h7 => ?_)
   ·
    (try simp only [Bool.not_eq_true', Bool.not_eq_false'] at h7)
    refine .back [.r [(12, X (Xf [(3, 2)])), (14, X (Xmb itM its (putK DItem.item its ⟨(l.getD i default).itm, (l.getD i default).prt, (l.getD i default).plc, []⟩) (((l.getD i default)).itm) 8 312 [TI (((l.getD i default)).itm), TI (((l.getD i default)).prt), TS (((l.getD i default)).plc), TL 2 attrT []]) (putI (x := ⟨(l.getD i default).itm, (l.getD i default).prt, (l.getD i default).plc, []⟩)))], .r [(0, X (Xn ((i : Int) + 1)))]] [(8, 8), (16, 16), (32, 32)] (ih3 ((i + 1), (putK DItem.item its ⟨(l.getD i default).itm, (l.getD i default).prt, (l.getD i default).plc, []⟩), ats) ?_ ?_)
    ·
     refine ⟨by omega, ?_⟩
     rw [playP_succ (by omega), ← I3.2, stepP, if_neg h5, if_neg (by rw [h7]; decide)]
    ·
     ((try dsimp only); omega)
   ·
    (try simp only [Bool.not_eq_true', Bool.not_eq_false'] at h7)
    refine .back [.r [(0, X (Xn ((i : Int) + 1)))]] [(8, 8), (16, 16), (32, 32)] (ih3 ((i + 1), its, ats) ?_ ?_)
    ·
     refine ⟨by omega, ?_⟩
     rw [playP_succ (by omega), ← I3.2, stepP, if_neg h5, if_pos h7]
    ·
     ((try dsimp only); omega)
 ·
  (try simp only [decide_eq_true_eq, decide_eq_false_iff_not, Int.not_lt, Int.not_le] at h3)
  have e1 : ((playP l).1 : List DItem) = its := by
   have hi : i = l.length := by omega
   rw [hi, List.take_length] at I3
   rw [← I3.2]
  have e2 : ((playP l).2 : List (Int × List Attr)) = ats := by
   have hi : i = l.length := by omega
   rw [hi, List.take_length] at I3
   rw [← I3.2]
  exact .finE [.r []] [(32, 0), (8, 1), (16, 2)] (fun (z0, z1) => (.ptr 0 0, [(0, .box [.hdl 1, .hdl 2]), (1, .mp (List.map itM z0) none), (2, .mp (List.map atM z1) none)])) ((its : List DItem), (ats : List (Int × List Attr))) (((playP l).1 : List DItem), ((playP l).2 : List (Int × List Attr))) (pr e1 e2)
end Go.Ch
end
section
namespace Go.Proofs
open Go.Shelf
def Try.lays128_ren : Go.Shelf.Ren := ⟨fun | 128 => 62 | n => n, fun | 51 => 102 | 3 => 3 | 4 => 4 | 46 => 88 | 5 => 5 | 9 => 9 | n => n, fun | n => n⟩
def Try.lays125_ren : Go.Shelf.Ren := ⟨fun | 125 => 44 | 128 => 62 | 129 => 63 | n => n, fun | 46 => 88 | 3 => 3 | 51 => 102 | 53 => 104 | 4 => 4 | 5 => 5 | 9 => 9 | n => n, fun | n => n⟩
def Try.lays215_ren : Go.Shelf.Ren := ⟨fun | 215 => 51 | n => n, fun | 3 => 3 | 4 => 4 | n => n, fun | n => n⟩
def Try.lays122_ren : Go.Shelf.Ren := ⟨fun | 122 => 37 | 215 => 51 | n => n, fun | 3 => 3 | 4 => 4 | n => n, fun | n => n⟩
def Try.lays129_ren : Go.Shelf.Ren := ⟨fun | 129 => 63 | n => n, fun | 53 => 104 | 3 => 3 | 4 => 4 | 46 => 88 | 5 => 5 | 9 => 9 | n => n, fun | n => n⟩
def Try.lays189_ren : Go.Shelf.Ren := ⟨fun | 189 => 27 | 125 => 44 | 257 => 43 | 128 => 62 | 129 => 63 | 294 => 53 | 295 => 54 | 296 => 55 | 297 => 56 | 298 => 57 | 299 => 58 | 216 => 59 | 300 => 60 | 301 => 61 | 328 => 72 | 329 => 73 | 330 => 74 | 331 => 75 | 332 => 76 | 215 => 51 | 343 => 80 | n => n, fun | 28 => 22 | 3 => 3 | 46 => 88 | 0 => 0 | 51 => 102 | 53 => 104 | 4 => 4 | 183 => 95 | 182 => 94 | 131 => 99 | 5 => 5 | 9 => 9 | 218 => 110 | 222 => 114 | 228 => 118 | 229 => 119 | n => n, fun | n => n⟩
theorem Try.lays189 : Go.Proofs.Lays.n189 Try.prog Try.lays189_ren := {
  mixed := by kernel_rfl
  f125 := Try.func44.trans (congrArg some (by kernel_rfl))
  f128 := Try.func62.trans (congrArg some (by kernel_rfl))
  f129 := Try.func63.trans (congrArg some (by kernel_rfl))
  f189 := Try.func27.trans (congrArg some (by kernel_rfl))
  f215 := Try.func51.trans (congrArg some (by kernel_rfl))
  f216 := Try.func59.trans (congrArg some (by kernel_rfl))
  f257 := Try.func43.trans (congrArg some (by kernel_rfl))
  f294 := Try.func53.trans (congrArg some (by kernel_rfl))
  f295 := Try.func54.trans (congrArg some (by kernel_rfl))
  f296 := Try.func55.trans (congrArg some (by kernel_rfl))
  f297 := Try.func56.trans (congrArg some (by kernel_rfl))
  f298 := Try.func57.trans (congrArg some (by kernel_rfl))
  f299 := Try.func58.trans (congrArg some (by kernel_rfl))
  f300 := Try.func60.trans (congrArg some (by kernel_rfl))
  f301 := Try.func61.trans (congrArg some (by kernel_rfl))
  f328 := Try.func72.trans (congrArg some (by kernel_rfl))
  f329 := Try.func73.trans (congrArg some (by kernel_rfl))
  f330 := Try.func74.trans (congrArg some (by kernel_rfl))
  f331 := Try.func75.trans (congrArg some (by kernel_rfl))
  f332 := Try.func76.trans (congrArg some (by kernel_rfl))
  f343 := Try.func80.trans (congrArg some (by kernel_rfl))
  t0 := Try.underlying0
  a0 := Try.isAgg0
  z0 := Try.sizeOf0
  v0 := Try.zeroValue0
  t3 := Try.underlying3
  a3 := Try.isAgg3
  z3 := Try.sizeOf3
  v3 := Try.zeroValue3
  t4 := Try.underlying4
  a4 := Try.isAgg4
  z4 := Try.sizeOf4
  v4 := Try.zeroValue4
  t5 := Try.underlying5
  a5 := Try.isAgg5
  z5 := Try.sizeOf5
  v5 := Try.zeroValue5
  t9 := Try.underlying9
  a9 := Try.isAgg9
  z9 := Try.sizeOf9
  v9 := Try.zeroValue9
  t28 := Try.underlying22
  a28 := Try.isAgg22
  z28 := Try.sizeOf22
  v28 := Try.zeroValue22
  t46 := Try.underlying88
  a46 := Try.isAgg88
  z46 := Try.sizeOf88
  v46 := Try.zeroValue88
  t51 := Try.underlying102
  a51 := Try.isAgg102
  z51 := Try.sizeOf102
  v51 := Try.zeroValue102
  t53 := Try.underlying104
  a53 := Try.isAgg104
  z53 := Try.sizeOf104
  v53 := Try.zeroValue104
  t131 := Try.underlying99
  a131 := Try.isAgg99
  z131 := Try.sizeOf99
  v131 := Try.zeroValue99
  t182 := Try.underlying94
  a182 := Try.isAgg94
  z182 := Try.sizeOf94
  v182 := Try.zeroValue94
  t183 := Try.underlying95
  a183 := Try.isAgg95
  z183 := Try.sizeOf95
  v183 := Try.zeroValue95
  t218 := Try.underlying110
  a218 := Try.isAgg110
  z218 := Try.sizeOf110
  v218 := Try.zeroValue110
  t222 := Try.underlying114
  a222 := Try.isAgg114
  z222 := Try.sizeOf114
  v222 := Try.zeroValue114
  t228 := Try.underlying118
  a228 := Try.isAgg118
  z228 := Try.sizeOf118
  v228 := Try.zeroValue118
  t229 := Try.underlying119
  a229 := Try.isAgg119
  z229 := Try.sizeOf119
  v229 := Try.zeroValue119 }
open Go.Sort Go.RowKit in
theorem Try.slices_Sort_int (blk off cap : Nat) (zs : List Int) (w : World) (hH : Holds (Value.int .i64) w blk off zs.toArray) (hblk : blk < w.heap.size) (hsz : zs.length < 4611686018427387904) :
    Calls Try.prog 27 #[.slice (some ⟨blk, off, none⟩) zs.length cap] w fun e w' =>
      e = .returned (.tuple #[]) ∧ ∃ n os, w' = grow (putRow (Value.int .i64) (Sort.ahead w n) blk off (zs.mergeSort fun x y => decide (x ≤ y)).toArray) os := Any.slices_Sort_int Try.lays189 blk off cap zs w hH hblk hsz
def Try.laysNm237_ren : Go.Shelf.Ren := ⟨fun | 37 => 51 | n => n, fun | 3 => 3 | 4 => 4 | n => n, fun | n => n⟩
theorem Try.laysNm237 : Go.Proofs.Lays2.n37 Try.prog Try.laysNm237_ren := {
  mixed := by kernel_rfl
  f37 := Try.func51.trans (congrArg some (by kernel_rfl))
  t3 := Try.underlying3
  a3 := Try.isAgg3
  z3 := Try.sizeOf3
  v3 := Try.zeroValue3
  t4 := Try.underlying4
  a4 := Try.isAgg4
  z4 := Try.sizeOf4
  v4 := Try.zeroValue4 }
open Go.RowKit Go.Lib in
/-- cmp.isNaN[int]: 'x != x': false. (LAID: no walk: one application.) -/
theorem Try.cmp_isNaN_int2 (x : Int) (w : World) :
    Calls Try.prog 51 #[.int .i64 x] w fun e w' => e = .returned (.bool false) ∧ w' = w := Any.cmp_isNaN_int2 Try.laysNm237 x w
def Try.laysNm231_ren : Go.Shelf.Ren := ⟨fun | 31 => 59 | 37 => 51 | n => n, fun | 3 => 3 | 4 => 4 | n => n, fun | n => n⟩
open Go.RowKit Go.Sort in
/-- .. and plain. (LAID: no walk: one application.) -/
theorem Try.slices_Sort_int_none (p : Option Addr) (cap : Nat) (w : World) :
    Calls Try.prog 27 #[.slice p 0 cap] w fun e w' => e = .returned (.tuple #[]) ∧ w' = w := Any.slices_Sort_int_none Try.lays189 p cap w
def Try.sortI_ren : Go.Shelf.Ren := ⟨fun | 6 => 33 | 15 => 44 | 14 => 49 | 28 => 62 | 29 => 63 | 20 => 64 | 21 => 65 | 22 => 66 | 23 => 67 | 24 => 68 | 25 => 69 | 26 => 70 | 27 => 71 | 46 => 77 | 47 => 73 | 48 => 74 | 49 => 78 | 50 => 79 | 57 => 81 | n => n, fun | 22 => 31 | 24 => 49 | 25 => 83 | 3 => 3 | 39 => 88 | 0 => 0 | 53 => 102 | 55 => 104 | 4 => 4 | 46 => 95 | 45 => 94 | 50 => 99 | 5 => 5 | 9 => 9 | 66 => 110 | 70 => 114 | 76 => 118 | 77 => 119 | n => n, fun | n => n⟩
theorem Try.sortI : Go.Proofs.SlLaysF0.n6 Try.prog Try.sortI_ren := {
  mixed := by kernel_rfl
  f6 := ⟨Try.f33.name, by decide, Try.func33.trans (congrArg some (by kernel_rfl))⟩
  f14 := ⟨Try.f49.name, by decide, Try.func49.trans (congrArg some (by kernel_rfl))⟩
  f15 := Try.func44.trans (congrArg some (by kernel_rfl))
  f20 := ⟨Try.f64.name, by decide, Try.func64.trans (congrArg some (by kernel_rfl))⟩
  f21 := ⟨Try.f65.name, by decide, Try.func65.trans (congrArg some (by kernel_rfl))⟩
  f22 := ⟨Try.f66.name, by decide, Try.func66.trans (congrArg some (by kernel_rfl))⟩
  f23 := ⟨Try.f67.name, by decide, Try.func67.trans (congrArg some (by kernel_rfl))⟩
  f24 := ⟨Try.f68.name, by decide, Try.func68.trans (congrArg some (by kernel_rfl))⟩
  f25 := ⟨Try.f69.name, by decide, Try.func69.trans (congrArg some (by kernel_rfl))⟩
  f26 := ⟨Try.f70.name, by decide, Try.func70.trans (congrArg some (by kernel_rfl))⟩
  f27 := ⟨Try.f71.name, by decide, Try.func71.trans (congrArg some (by kernel_rfl))⟩
  f28 := Try.func62.trans (congrArg some (by kernel_rfl))
  f29 := Try.func63.trans (congrArg some (by kernel_rfl))
  f46 := ⟨Try.f77.name, by decide, Try.func77.trans (congrArg some (by kernel_rfl))⟩
  f47 := Try.func73.trans (congrArg some (by kernel_rfl))
  f48 := Try.func74.trans (congrArg some (by kernel_rfl))
  f49 := ⟨Try.f78.name, by decide, Try.func78.trans (congrArg some (by kernel_rfl))⟩
  f50 := ⟨Try.f79.name, by decide, Try.func79.trans (congrArg some (by kernel_rfl))⟩
  f57 := ⟨Try.f81.name, by decide, Try.func81.trans (congrArg some (by kernel_rfl))⟩
  t0 := Try.underlying0
  a0 := Try.isAgg0
  z0 := Try.sizeOf0
  v0 := Try.zeroValue0
  t3 := Try.underlying3
  a3 := Try.isAgg3
  z3 := Try.sizeOf3
  v3 := Try.zeroValue3
  t4 := Try.underlying4
  a4 := Try.isAgg4
  z4 := Try.sizeOf4
  v4 := Try.zeroValue4
  t5 := Try.underlying5
  a5 := Try.isAgg5
  z5 := Try.sizeOf5
  v5 := Try.zeroValue5
  t9 := Try.underlying9
  a9 := Try.isAgg9
  z9 := Try.sizeOf9
  v9 := Try.zeroValue9
  t22 := Try.underlying31
  a22 := Try.isAgg31
  z22 := Try.sizeOf31
  v22 := Try.zeroValue31
  t25 := Try.underlying83
  a25 := Try.isAgg83
  z25 := Try.sizeOf83
  v25 := Try.zeroValue83
  t39 := Try.underlying88
  a39 := Try.isAgg88
  z39 := Try.sizeOf88
  v39 := Try.zeroValue88
  t45 := Try.underlying94
  a45 := Try.isAgg94
  z45 := Try.sizeOf94
  v45 := Try.zeroValue94
  t46 := Try.underlying95
  a46 := Try.isAgg95
  z46 := Try.sizeOf95
  v46 := Try.zeroValue95
  t50 := Try.underlying99
  a50 := Try.isAgg99
  z50 := Try.sizeOf99
  v50 := Try.zeroValue99
  t53 := Try.underlying102
  a53 := Try.isAgg102
  z53 := Try.sizeOf102
  v53 := Try.zeroValue102
  t55 := Try.underlying104
  a55 := Try.isAgg104
  z55 := Try.sizeOf104
  v55 := Try.zeroValue104
  t66 := Try.underlying110
  a66 := Try.isAgg110
  z66 := Try.sizeOf110
  v66 := Try.zeroValue110
  t70 := Try.underlying114
  a70 := Try.isAgg114
  z70 := Try.sizeOf114
  v70 := Try.zeroValue114
  t76 := Try.underlying118
  a76 := Try.isAgg118
  z76 := Try.sizeOf118
  v76 := Try.zeroValue118
  t77 := Try.underlying119
  a77 := Try.isAgg119
  z77 := Try.sizeOf119
  v77 := Try.zeroValue119 }
end Go.Proofs
end
section
namespace Go.Ab
open Go Go.Proofs Go.RowKit Go.Shelf Go.Lib Go.Sort
open Go.Ch
set_option linter.unusedVariables false
set_option linter.unusedSimpArgs false

set_option maxHeartbeats 4000000 in
theorem compare_w (x y : Int) (W : World) : Calls Try.prog 37 #[.int .i64 x, .int .i64 y] W fun e w' => e = .returned (.int .i64 (cmpI x y)) ∧ w' = W := by
  have hcon := fun z W' => Try.cmp_isNaN_int2 z W'
  unfold cmpI
  by_cases h1 : x < y
  · rw [if_pos h1]
    go_enter Try.func37, Try.ntmps37
    go_wp2_with (go_at_call 51; refine (hcon _ _).mono ?_; rintro e w' ⟨rfl, rfl⟩)
    go_ret
    exact ⟨rfl, rfl⟩
  · rw [if_neg h1]
    by_cases h2 : x > y
    · rw [if_pos h2]
      go_enter Try.func37, Try.ntmps37
      go_wp2_with (go_at_call 51; refine (hcon _ _).mono ?_; rintro e w' ⟨rfl, rfl⟩)
      go_ret
      exact ⟨rfl, rfl⟩
    · rw [if_neg h2]
      go_enter Try.func37, Try.ntmps37
      go_wp2_with (go_at_call 51; refine (hcon _ _).mono ?_; rintro e w' ⟨rfl, rfl⟩)
      go_ret
      exact ⟨rfl, rfl⟩

set_option maxHeartbeats 8000000 in
theorem or_w (u v : Int) (B cap : Nat) (W : World) (h0 : W.cell? ⟨B, 0, none⟩ = some (.int .i64 u)) (h1 : W.cell? ⟨B, 1, none⟩ = some (.int .i64 v)) :
    Calls Try.prog 35 #[.slice (some ⟨B, 0, none⟩) 2 cap] W fun e w' => e = .returned (.int .i64 (Go.Ch.orL [u, v])) ∧ w' = W := by
  by_cases hu : u = 0
  · by_cases hv : v = 0
    · subst hu hv
      go_enter Try.func35, Try.ntmps35
      go_wp2
      go_rounds 3
      go_ret
      exact ⟨rfl, rfl⟩
    · subst hu
      have e : Go.Ch.orL [0, v] = v := by simp [Go.Ch.orL, hv]
      rw [e]
      clear e
      go_enter Try.func35, Try.ntmps35
      go_wp2
      go_rounds 3
      go_ret
      exact ⟨rfl, rfl⟩
  · have e : Go.Ch.orL [u, v] = u := by simp [Go.Ch.orL, hu]
    rw [e]
    clear e
    go_enter Try.func35, Try.ntmps35
    go_wp2
    go_rounds 3
    go_ret
    exact ⟨rfl, rfl⟩

theorem alloc_cell (W : World) (c : Array Value) (t : TypeId) (o : Nat) : (W.alloc (.cells c t)).cell? ⟨W.heap.size, o, none⟩ = c[o]? := by
  have h : (W.alloc (.cells c t)).heap[W.heap.size]? = some (.cells c t) := by (rw [alloc_eq_grow]; show (W.heap ++ #[.cells c t])[W.heap.size]? = _; simp)
  unfold World.cell?
  simp only [h]
  rfl
def cmpS (x y : ByteArray) : Int := if Op.bytesLess x.toList y.toList = true then -1 else if (x.toList == y.toList) = true then 0 else 1
theorem isNaN_w (x : ByteArray) (W : World) : Calls Try.prog 50 #[.string x] W fun e w' => e = .returned (.bool false) ∧ w' = W := by
  go_enter Try.func50, Try.ntmps50
  go_wp2
  go_ret
  exact ⟨by simp, rfl⟩
set_option maxHeartbeats 4000000 in
theorem compareS_w (x y : ByteArray) (W : World) : Calls Try.prog 36 #[.string x, .string y] W fun e w' => e = .returned (.int .i64 (cmpS x y)) ∧ w' = W := by
  have hcon := fun z W' => isNaN_w z W'
  unfold cmpS
  cases h1 : Op.bytesLess x.toList y.toList with
  | true =>
    rw [if_pos rfl]
    go_enter Try.func36, Try.ntmps36
    go_wp2_with (go_at_call 50; refine (hcon _ _).mono ?_; rintro e w' ⟨rfl, rfl⟩)
    go_ret
    exact ⟨rfl, rfl⟩
  | false =>
    rw [if_neg (by decide)]
    cases h2 : (x.toList == y.toList) with
    | true =>
      rw [if_pos rfl]
      go_enter Try.func36, Try.ntmps36
      go_wp2_with (go_at_call 50; refine (hcon _ _).mono ?_; rintro e w' ⟨rfl, rfl⟩)
      go_ret
      exact ⟨rfl, rfl⟩
    | false =>
      rw [if_neg (by decide)]
      go_enter Try.func36, Try.ntmps36
      go_wp2_with (go_at_call 50; refine (hcon _ _).mono ?_; rintro e w' ⟨rfl, rfl⟩)
      go_ret
      exact ⟨rfl, rfl⟩
/-- An item, its attributes as the value that stands for them. -/
abbrev CIt := DItem × {v : Value // v.oneCell' = true}
def encD (p : CIt) : List Value := [.int .i64 p.1.item, .int .i64 p.1.parent, .string p.1.place, p.2.1]
def cmpP (a b : DItem) : Int := Go.Ch.orL [cmpS a.place b.place, cmpI a.item b.item]
def cmpN (a b : DItem) : Int := cmpI a.item b.item
set_option maxRecDepth 1000000 in
set_option maxHeartbeats 8000000 in
theorem raw1_w (x y : CIt) (W : World) : Calls Try.prog 34 #[.agg (encD x).toArray, .agg (encD y).toArray] W fun e w' => e = .returned (.int .i64 (cmpP x.1 y.1)) ∧ ∃ q os', w' = grow (W.drewN q) os' := by
  have hcmp := fun a b W' => compare_w a b W'
  have hcms := fun a b W' => compareS_w a b W'
  obtain ⟨x, vx, hvx⟩ := x
  obtain ⟨y, vy, hvy⟩ := y
  unfold encD cmpP
  simp only
  generalize x.item = x1
  generalize x.parent = x2
  generalize x.place = x3
  generalize y.item = y1
  generalize y.parent = y2
  generalize y.place = y3
  go_enter Try.func34, Try.ntmps34
  go_wp2
  obtain ⟨OA, hA⟩ : ∃ o, Obj.cells #[Value.int .i64 x1, .int .i64 x2, .string x3, vx] 49 = o := ⟨_, rfl⟩
  obtain ⟨OB, hB⟩ : ∃ o, Obj.cells #[Value.int .i64 y1, .int .i64 y2, .string y3, vy] 49 = o := ⟨_, rfl⟩
  rw [hA, hB]
  refine wp_region_still_tail 10 (by kernel_rfl) (by kernel_rfl) ?_
  obtain ⟨W3, hW3⟩ : ∃ V, ((W.alloc OA).alloc OB).drew = V := ⟨_, rfl⟩
  have hg : W3 = grow (W.drewN 1) #[OA, OB] := by rw [← hW3, alloc_eq_grow, alloc_eq_grow, grow_grow]; rfl
  have p1 : W3.heap[W.heap.size]? = some OA := by rw [hg]; show (W.heap ++ #[OA, OB])[W.heap.size]? = _; simp
  have p2 : W3.heap[W.heap.size + 1]? = some OB := by rw [hg]; show (W.heap ++ #[OA, OB])[W.heap.size + 1]? = _; simp
  have c1 : W3.cell? ⟨W.heap.size, 0, none⟩ = some (.int .i64 x1) := by unfold World.cell?; simp only [p1]; rw [← hA]; rfl
  have c2 : W3.cell? ⟨W.heap.size, 2, none⟩ = some (.string x3) := by unfold World.cell?; simp only [p1]; rw [← hA]; rfl
  have c3 : W3.cell? ⟨W.heap.size + 1, 0, none⟩ = some (.int .i64 y1) := by unfold World.cell?; simp only [p2]; rw [← hB]; rfl
  have c4 : W3.cell? ⟨W.heap.size + 1, 2, none⟩ = some (.string y3) := by unfold World.cell?; simp only [p2]; rw [← hB]; rfl
  clear p1 p2
  have hx : ∃ q os, W3 = grow (W.drewN q) os := ⟨1, _, hg⟩
  clear hg
  change wpStill _ _ ((W.alloc OA).alloc OB).drew (fun a' => wpList _ _ _ _ a' ((W.alloc OA).alloc OB).drew) _ _
  rw [hW3]
  clear hW3 hA hB
  simp only [List.take_succ_cons, List.take_zero, List.drop_succ_cons, List.drop_zero]
  repeat still_step
  still_call (hcms _ _ _)
  repeat still_step
  still_call (hcmp _ _ _)
  refine wpStill_nil ?_
  have hor : ∀ u v : Int, Calls Try.prog 35 #[.slice (some ⟨W3.heap.size, 0, none⟩) 2 2] (W3.alloc (.cells #[.int .i64 u, .int .i64 v] 3)) fun e w' => e = .returned (.int .i64 (Go.Ch.orL [u, v])) ∧ w' = W3.alloc (.cells #[.int .i64 u, .int .i64 v] 3) := fun u v =>
    or_w u v _ _ _ (alloc_cell _ _ _ 0) (alloc_cell _ _ _ 1)
  clear hcmp hcms c1 c2 c3 c4
  go_wp2_with (go_at_call 35; refine (hor _ _).mono ?_; rintro e w' ⟨rfl, rfl⟩)
  clear hor
  go_ret
  obtain ⟨q, os, rfl⟩ := hx
  exact ⟨rfl, q, _, by rw [alloc_eq_grow, grow_grow]⟩
set_option maxRecDepth 1000000 in
set_option maxHeartbeats 8000000 in
theorem raw3_w (x y : CIt) (W : World) : Calls Try.prog 38 #[.agg (encD x).toArray, .agg (encD y).toArray] W fun e w' => e = .returned (.int .i64 (cmpN x.1 y.1)) ∧ ∃ q os', w' = grow (W.drewN q) os' := by
  have hcmp := fun a b W' => compare_w a b W'
  obtain ⟨x, vx, hvx⟩ := x
  obtain ⟨y, vy, hvy⟩ := y
  unfold encD cmpN
  simp only
  generalize x.item = x1
  generalize x.parent = x2
  generalize x.place = x3
  generalize y.item = y1
  generalize y.parent = y2
  generalize y.place = y3
  go_enter Try.func38, Try.ntmps38
  go_wp2_with (go_at_call 37; refine (hcmp _ _ _).mono ?_; rintro e w' ⟨rfl, rfl⟩)
  go_ret
  exact ⟨rfl, 0, #[_, _], by rw [alloc_eq_grow, alloc_eq_grow, grow_grow]; rfl⟩
end Go.Ab
end
section
set_option linter.unusedVariables false
set_option linter.unusedSimpArgs false
namespace Go.Ch
open Go Go.Proofs Go.Ab Go.RowKit Go.Shelf Go.Sort

theorem grow_obj {P : Program} {F : Fen P} {S : Store} {m : Ab.Place} {w : World} (hS : SRel F S m w) (os : Array Obj) : SRel F S m (grow w os) ∧ FrameExt F S m w S m (grow w os) := by
  have hg : ∀ b, b < w.heap.size → (grow w os).heap[b]? = w.heap[b]? := fun b hb => by
    show (w.heap ++ os)[b]? = _
    rw [Array.getElem?_append_left hb]
  have hF : FrameExt F S m w S m (grow w os) := ⟨rfl, rfl, rfl, by show w.heap.size ≤ (w.heap ++ os).size; simp, fun b hb _ => hg b hb, fun id o h => ⟨o, h, Nat.le_refl _, fun _ => rfl, fun h => h, fun _ q => .inl q, o.same_refl⟩, fun id o h hn => by rw [h] at hn; cases hn⟩
  exact ⟨⟨fun id o h => (hS.objs id o h).persist hF (fun b hb => hg b (hS.lt id o b h hb)), hS.inj, hS.avoid, fun id o b h hb => Nat.lt_of_lt_of_le (hS.lt id o b h hb) hF.size, fun b hb => Nat.lt_of_lt_of_le (hS.low b hb) hF.size, hS.held hF⟩, hF⟩
theorem upd_app (o o' : Ob) : upd (app emp [(0, o)]) 0 o' = app emp [(0, o')] := by
  funext i
  by_cases e : i = 0
  · subst e; rfl
  · rw [upd_ne e]
    show upd emp 0 o i = upd emp 0 o' i
    rw [upd_ne e, upd_ne e]
theorem mapB_at {w : World} {b : Nat} {c : Array Value} {e : TypeId} {fr : Nat × Nat} (f : Array Value → Array Value) (h : w.heap[b]? = some (.cells c e fr)) : (mapBlock w b f).heap[b]? = some (.cells (f c) e fr) := by
  unfold mapBlock
  simp only [Array.getElem?_modify, if_true, h]
  rfl
theorem mapB_ne {w : World} {b x : Nat} (f : Array Value → Array Value) (h : x ≠ b) : (mapBlock w b f).heap[x]? = w.heap[x]? := by
  unfold mapBlock
  simp only [Array.getElem?_modify]
  rw [if_neg (fun e => h e.symm)]
/-- Two lists in strict order with the same elements are one. -/
theorem perm_strict {α : Type} {R : α → α → Prop} (asym : ∀ a b, R a b → ¬ R b a) : ∀ {l l' : List α}, l.Perm l' → l.Pairwise R → l'.Pairwise R → l = l'
  | [], l', h, _, _ => (List.nil_perm.1 h).symm
  | a :: l, [], h, _, _ => by simp at h
  | a :: l, b :: l', h, h1, h2 => by
    have e : a = b := by
      have ha : a ∈ b :: l' := h.subset List.mem_cons_self
      have hb : b ∈ a :: l := h.symm.subset List.mem_cons_self
      rcases List.mem_cons.1 ha with e | ha
      · exact e
      · rcases List.mem_cons.1 hb with e | hb
        · exact e.symm
        · exact absurd ((List.pairwise_cons.1 h1).1 b hb) (asym _ _ ((List.pairwise_cons.1 h2).1 a ha))
    subst e
    rw [perm_strict asym (List.Perm.cons_inv h) (List.pairwise_cons.1 h1).2 (List.pairwise_cons.1 h2).2]
end Go.Ch
end
section
set_option linter.unusedVariables false
set_option linter.unusedSimpArgs false
set_option maxRecDepth 100000
namespace Go.Ch
open Go Go.Proofs Go.Ab Go.RowKit Go.Shelf Go.Sort

instance : Inhabited CIt := ⟨(default, ⟨.bool false, rfl⟩)⟩
theorem dit_elt {l : List DItem} : ∀ x ∈ l.map ditT, Elt 4 x := fun x hx => by
  obtain ⟨r, _, rfl⟩ := List.mem_map.1 hx
  exact ⟨rfl, fun T hT => by simp only [ditT, Tree.cells, List.mem_cons, List.not_mem_nil, or_false] at hT; rcases hT with rfl | rfl | rfl | rfl <;> rfl⟩
theorem flat_dit (l : List DItem) (t : Nat) (ht : t < l.length * 4) : (flat (l.map ditT))[t]? = (ditT (l[t / 4]'(by omega))).cells[t % 4]? := by
  have hi : t / 4 < l.length := by omega
  have h1 := flat_get (k := 4) (xs := l.map ditT) (i := t / 4) (X := ditT l[t / 4]) dit_elt (by rw [List.getElem?_map, List.getElem?_eq_getElem hi]; rfl) (j := t % 4) (by omega)
  rwa [show t / 4 * 4 + t % 4 = t by omega] at h1
theorem fc_sortD (g : Nat) (cm : DItem → DItem → Int) (hg : ∀ args w, (callFunc g args).run Try.prog w = .ok (.enter g args) w)
    (hw : ∀ (x y : CIt) (W : World), Calls Try.prog g #[.agg (encD x).toArray, .agg (encD y).toArray] W fun e w' => e = .returned (.int .i64 (cm x.1 y.1)) ∧ ∃ q os', w' = grow (W.drewN q) os')
    (hO : SWO (ltOf fun x y : CIt => cm x.1 y.1)) (asym : ∀ a b, cm a b < 0 → ¬ cm b a < 0) (tot : ∀ a b, a.item ≠ b.item → ¬ cm b a < 0 → cm a b < 0)
    (l l' : List DItem) (hn : l.length ≤ 100000000000) (hu : UniqI DItem.item l) (hp : l'.Perm l) (hs : l'.Pairwise fun a b => cm a b < 0) :
    FC Try.prog 33 [.row 0 l.length, .fn g []] (app emp [(0, .row 4 false (l.map ditT))]) (.tup []) (app emp [(0, .row 4 false (l'.map ditT))]) := by
  intro F m w xs hS hl hv
  match xs, hl with
  | [x0, x1], _ =>
  have v0 := hv 0 _ _ rfl rfl
  have v1 := hv 1 _ _ rfl rfl
  have hs0 : app emp [(0, Ob.row 4 false (l.map ditT))] 0 = some (.row 4 false (l.map ditT)) := rfl
  obtain ⟨a1, a2, a3, a4, a5⟩ := hS.objs 0 _ hs0
  have hlen := hp.length_eq
  cases v1 with
  | fn _ _ us hlu _ =>
  obtain rfl : us = [] := List.length_eq_zero_iff.1 hlu
  cases v0 with
  | rowG _ _ L hs' => rw [hs0] at hs'; cases hs'
  | row _ _ k' fz' xs' L hs' hn' hu' =>
  rw [hs0] at hs'; cases hs'
  have hL := hu' (by simp)
  rw [hL] at a3 a4 a5
  rcases a5 with ⟨q1, q2⟩ | ⟨b, us, e, h1, h2, h3, h4, h5⟩
  · obtain ⟨L1, L2⟩ := L
    simp only at q1 q2
    subst q1 q2
    obtain rfl : l = [] := List.length_eq_zero_iff.1 (by have a3' : (List.map ditT l).length ≤ 0 := a3; rw [List.length_map] at a3'; omega)
    obtain rfl : l' = [] := List.length_eq_zero_iff.1 hlen
    have key := AnyF.slices_SortFunc_none Try.sortI none 0 (.func (.func g) #[] #[]) w
    change Calls Try.prog 33 _ _ _ at key
    refine key.mono ?_
    rintro e' w' ⟨rfl, rfl⟩
    exact ⟨_, m, rfl, hS, FrameExt.refl F _ m _, .tup [] [] rfl (fun i v u hv => by simp at hv)⟩
  · have hb : b < w.heap.size := (Array.getElem?_eq_some_iff.1 h2).1
    have hsz : l.length * 4 ≤ us.size := by rw [h3]; simp at a3; omega
    have hcell : ∀ (W : World) (c : Array Value) (o : Nat), W.heap[b]? = some (.cells c e (0, 0)) → W.cell? ⟨b, o, none⟩ = c[o]? := fun W c o h => by
      unfold World.cell?; simp only [h]; rfl
    -- the elements with what stands for their attributes
    let cl : List CIt := List.ofFn (n := l.length) fun i => (l[i.1], ⟨us[i.1 * 4 + 3]'(by have := i.2; omega), h4 _ _ (Array.getElem?_eq_getElem (by have := i.2; omega))⟩)
    have hcl : cl.length = l.length := by simp [cl]
    have hci : ∀ (i : Nat) (hi : i < cl.length), cl[i] = (l[i]'(by omega), ⟨us[i * 4 + 3]'(by omega), h4 _ _ (Array.getElem?_eq_getElem (by omega))⟩) := fun i hi => by simp [cl]
    have hmap : cl.map (·.1) = l := by
      apply List.ext_getElem (by simp [hcl])
      intro i h1 h2
      rw [List.getElem_map, hci i (by omega)]
    have hcu : ∀ (j : Nat), (hj : j < l.length * 4) → us[j]? = some ((encD (cl[j / 4]'(by omega)))[j % 4]!) := fun j hj => by
      have hT := flat_dit l j hj
      have hu : us[j]? = some us[j] := Array.getElem?_eq_getElem (by omega)
      rw [hu, hci (j / 4) (by omega)]
      have h4 : j % 4 = 0 ∨ j % 4 = 1 ∨ j % 4 = 2 ∨ j % 4 = 3 := by omega
      rcases h4 with h | h | h | h
      · rw [h] at hT ⊢; have := h5 j _ _ hT hu
        generalize us[j] = u at *
        cases this; rfl
      · rw [h] at hT ⊢; have := h5 j _ _ hT hu
        generalize us[j] = u at *
        cases this; rfl
      · rw [h] at hT ⊢; have := h5 j _ _ hT hu
        generalize us[j] = u at *
        cases this; rfl
      · rw [h]
        have e : j / 4 * 4 + 3 = j := by omega
        simp only [encD, e]; rfl
    have hat : ∀ p ∈ cl, TRep w (okB F (app emp [(0, Ob.row 4 false (l.map ditT))]) m w) (TL 2 attrT p.1.attrs) p.2.1 := fun p hp => by
      obtain ⟨i, hi, rfl⟩ := List.mem_iff_getElem.1 hp
      rw [hci i hi]
      have hT := flat_dit l (i * 4 + 3) (by omega)
      have e1 : (i * 4 + 3) / 4 = i := by omega
      have e2 : (i * 4 + 3) % 4 = 3 := by omega
      simp only [e1, e2] at hT
      exact h5 (i * 4 + 3) _ _ hT (Array.getElem?_eq_getElem (by omega))
    have hH : HoldsK encD 4 w b 0 cl.toArray := fun j hj => by
      rw [size_flatK] at hj
      have hj' : j < l.length * 4 := by simpa [hcl] using hj
      refine ⟨?_, ?_⟩
      · rw [hcell w us _ h2, Nat.zero_add, hcu j hj', get_flatK encD 4 cl.toArray j hj]
        rw [getElem!_pos cl.toArray (j / 4) (by simp [hcl]; omega)]
        simp
      · unfold World.frozen?; simp only [h2]; simp
    have key := AnyQ.slices_SortFunc (α := CIt) Try.sortI 4 Try.isAgg49 Try.sizeOf49 encD (fun _ => rfl) (fun x v hv => by
        simp only [encD, List.mem_cons, List.not_mem_nil, or_false] at hv; rcases hv with rfl | rfl | rfl | rfl; rfl; rfl; rfl; exact x.2.2) (fun x y => cm x.1 y.1) hO g #[] b 0 L.2 cl.toArray w hg
      (fun m' os' dk _ x y => hw x y _) hH hb (by simp [hcl]; omega)
    change Calls Try.prog 33 _ _ _ at key
    obtain ⟨L1, L2⟩ := L
    simp only at h1
    subst h1
    have ea : (#[Value.slice (some ⟨b, 0, none⟩) cl.toArray.size L2, .func (.func g) #[] #[]] : Array Value) = [rowVal (some b, L2) l.length, .func (.func g) #[] [].toArray].toArray := by simp [rowVal, hcl]
    rw [ea] at key
    refine key.mono ?_
    rintro e' w' ⟨rfl, D, n, os, hpi, hso, rfl⟩
    unfold sortWorldK
    obtain ⟨p1, p2, p3⟩ := hpi
    have hDp : D.toList.Perm cl := by
      have e1 : D.extract 0 cl.toArray.size = D := by rw [← p1]; exact Array.extract_size
      rw [e1, show cl.toArray.extract 0 cl.toArray.size = cl.toArray from Array.extract_size] at p3
      simpa using p3
    have hDl : D.toList.map (·.1) = l' := by
      refine perm_strict (R := fun a b => cm a b < 0) asym ((hDp.map _).trans (by rw [hmap]; exact hp.symm)) ?_ hs
      rw [List.pairwise_map, List.pairwise_iff_getElem]
      intro i j hi hj hij
      have hDs : D.size = cl.length := by simpa using p1
      have := hso i j (Nat.zero_le _) hij (by rw [← p1]; simpa using hj)
      unfold ltOf at this
      rw [getElem!_pos D i (by simpa using hi), getElem!_pos D j (by simpa using hj)] at this
      simp only [decide_eq_false_iff_not] at this
      have hne : (D.toList[i]).1.item ≠ (D.toList[j]).1.item := by
        have hnd : (D.toList.map fun p => p.1.item).Nodup := by
          have := (hDp.map fun p : CIt => p.1.item).nodup_iff.2 (by have h : cl.map (fun p => p.1.item) = l.map DItem.item := by rw [← hmap, List.map_map]; rfl
                                                                    rw [h]; exact hu)
          exact this
        intro he
        have := (List.getElem_inj (i := i) (j := j) (h₀ := by simpa using hi) (h₁ := by simpa using hj) hnd).1 (by simpa using he)
        omega
      exact tot _ _ hne (by simpa using this)
    have hDn : D.size = l'.length := by rw [← hDl]; simp
    have hblk : (putRowK encD 4 (Sort.ahead w n) b 0 D).heap[b]? = some (.cells (putCells id 0 (flatK encD 4 D) us) e (0, 0)) := mapB_at _ h2
    have hDi : ∀ (i : Nat) (hi : i < D.size), D[i].1 = l'[i]'(by omega) := fun i hi => by
      have : (D.toList.map (·.1))[i]'(by simpa using hi) = l'[i]'(by omega) := by simp only [hDl]
      simpa using this
    have hone : ∀ j, j < D.size * 4 → ((flatK encD 4 D)[j]!).oneCell' = true := fun j hj => by
      rw [get_flatK encD 4 D j hj]
      have h4 : j % 4 = 0 ∨ j % 4 = 1 ∨ j % 4 = 2 ∨ j % 4 = 3 := by omega
      rcases h4 with h | h | h | h <;> rw [h]
      · rfl
      · rfl
      · rfl
      · exact (D[j / 4]!).2.2
    have hcu2 : ∀ (j : Nat) (u : Value), (putCells id 0 (flatK encD 4 D) us)[j]? = some u → (j < D.size * 4 ∧ u = (flatK encD 4 D)[j]!) ∨ (¬ j < D.size * 4 ∧ us[j]? = some u) := fun j u hu => by
      unfold putCells at hu
      rw [Array.getElem?_mapIdx, Option.map_eq_some_iff] at hu
      obtain ⟨x, hx, hxu⟩ := hu
      rw [size_flatK] at hxu
      split at hxu
      · rename_i hc
        exact .inl ⟨by omega, by rw [← hxu]; rfl⟩
      · rename_i hc
        exact .inr ⟨fun hj => hc ⟨Nat.zero_le _, by omega⟩, by rw [hx, hxu]⟩
    have r := rewrite_obj (o' := .row 4 false (l'.map ditT)) hS hs0 rfl (by rw [hL]) (w' := putRowK encD 4 (Sort.ahead w n) b 0 D) rfl rfl rfl
      (by show (w.heap.modify b _).size = _; simp) (fun c hc => mapB_ne (w := Sort.ahead w n) _ hc) (by simp only [Ob.len, List.length_map]; omega) (by simp [Ob.same]) (fun hF => by
        rw [hL]
        refine ⟨a1, dit_elt, by simp only [List.length_map] at a3 ⊢; omega, a4, .inr ⟨b, _, e, rfl, hblk, ?_, fun j u hu => ?_, fun j T u hT hu => ?_⟩⟩
        · unfold putCells; rw [Array.size_mapIdx]; exact h3
        · rcases hcu2 j u hu with ⟨hj, rfl⟩ | ⟨_, hu⟩
          · exact hone j hj
          · exact h4 j u hu
        · have hj : j < l'.length * 4 := by
            have := (List.getElem?_eq_some_iff.1 hT).1
            rw [flat_len dit_elt, List.length_map] at this; exact this
          rcases hcu2 j u hu with ⟨hj2, rfl⟩ | ⟨hno, _⟩
          · rw [flat_dit l' j hj] at hT
            rw [get_flatK encD 4 D j hj2, getElem!_pos D (j / 4) (by omega)]
            have hi := hDi (j / 4) (by omega)
            rw [← hi] at hT
            have h4 : j % 4 = 0 ∨ j % 4 = 1 ∨ j % 4 = 2 ∨ j % 4 = 3 := by omega
            rcases h4 with h | h | h | h <;> rw [h] at hT ⊢
            · cases hT; exact .sc _ rfl
            · cases hT; exact .sc _ rfl
            · cases hT; exact .sc _ rfl
            · cases hT
              exact hF.tree (hat _ (hDp.subset (by simp)))
          · exact absurd (by omega) hno)
    rw [upd_app] at r
    obtain ⟨g1, g2⟩ := grow_obj r.1 os
    exact ⟨_, m, rfl, g1, FrameExt.trans hS r.2 g2, .tup [] [] rfl (fun i v u hv => by simp at hv)⟩
end Go.Ch
end
section
set_option linter.unusedVariables false
set_option linter.unusedSimpArgs false
set_option maxRecDepth 100000
namespace Go.Ch
open Go Go.Ab
variable {α : Type}

def insO (lt : α → α → Bool) (x : α) : List α → List α
  | [] => [x]
  | y :: l => if lt x y then x :: y :: l else y :: insO lt x l
def srtO (lt : α → α → Bool) (l : List α) : List α := l.foldr (insO lt) []
theorem insO_perm (lt : α → α → Bool) (x : α) : ∀ l, (insO lt x l).Perm (x :: l)
  | [] => .refl _
  | y :: l => by
    simp only [insO]
    split
    · exact .refl _
    · exact ((insO_perm lt x l).cons y).trans (List.Perm.swap x y l)
theorem srtO_perm (lt : α → α → Bool) : ∀ l, (srtO lt l).Perm l
  | [] => .refl _
  | x :: l => (insO_perm lt x _).trans ((srtO_perm lt l).cons x)
theorem insO_sorted {lt : α → α → Bool} (tr : ∀ a b c, lt a b = true → lt b c = true → lt a c = true) {x : α} : ∀ {l : List α}, l.Pairwise (fun a b => lt a b = true) → (∀ y ∈ l, lt x y = true ∨ lt y x = true) → (insO lt x l).Pairwise fun a b => lt a b = true
  | [], _, _ => by simp [insO]
  | y :: l, h, ht => by
    simp only [insO]
    obtain ⟨h1, h2⟩ := List.pairwise_cons.1 h
    split
    · rename_i hx
      refine List.pairwise_cons.2 ⟨fun z hz => ?_, h⟩
      rcases List.mem_cons.1 hz with rfl | hz
      · exact hx
      · exact tr _ _ _ hx (h1 z hz)
    · rename_i hx
      refine List.pairwise_cons.2 ⟨fun z hz => ?_, insO_sorted tr h2 (fun z hz => ht z (List.mem_cons_of_mem _ hz))⟩
      rcases List.mem_cons.1 ((insO_perm lt x l).subset hz) with rfl | hz
      · exact (ht y List.mem_cons_self).resolve_left hx
      · exact h1 z hz
theorem srtO_sorted {lt : α → α → Bool} (tr : ∀ a b c, lt a b = true → lt b c = true → lt a c = true) : ∀ {l : List α}, l.Pairwise (fun a b => lt a b = true ∨ lt b a = true) → (srtO lt l).Pairwise fun a b => lt a b = true
  | [], _ => List.Pairwise.nil
  | x :: l, h => by
    obtain ⟨h1, h2⟩ := List.pairwise_cons.1 h
    exact insO_sorted tr (srtO_sorted tr h2) (fun y hy => h1 y ((srtO_perm lt l).subset hy))

/-! ### The two orders -/
def ltP (a b : DItem) : Bool := slt a.place b.place || (decide (a.place = b.place) && decide (a.item < b.item))
def ltN (a b : DItem) : Bool := decide (a.item < b.item)
theorem ltP_iff {a b : DItem} : ltP a b = true ↔ slt a.place b.place = true ∨ (a.place = b.place ∧ a.item < b.item) := by unfold ltP; simp
theorem ltP_trans (a b c : DItem) (h : ltP a b = true) (k : ltP b c = true) : ltP a c = true := by
  rw [ltP_iff] at *
  rcases h with h | ⟨h1, h2⟩ <;> rcases k with k | ⟨k1, k2⟩
  · exact .inl (slt_trans h k)
  · exact .inl (by rw [← k1]; exact h)
  · exact .inl (by rw [h1]; exact k)
  · exact .inr ⟨h1.trans k1, by omega⟩
theorem ltP_tot {a b : DItem} (h : a.item ≠ b.item) : ltP a b = true ∨ ltP b a = true := by
  rw [ltP_iff, ltP_iff]
  cases h1 : slt a.place b.place with
  | true => exact .inl (.inl rfl)
  | false =>
    cases h2 : slt b.place a.place with
    | true => exact .inr (.inl rfl)
    | false =>
      have := slt_tri h1 h2
      by_cases hlt : a.item < b.item
      · exact .inl (.inr ⟨this, hlt⟩)
      · exact .inr (.inr ⟨this.symm, by omega⟩)
theorem ltP_asym {a b : DItem} (h : ltP a b = true) : ¬ ltP b a = true := fun k => by
  have := ltP_trans a b a h k
  rw [ltP_iff] at this
  rcases this with h | ⟨_, h⟩
  · rw [slt_irr] at h; cases h
  · omega
theorem cmpS_def (x y : ByteArray) : cmpS x y = if slt x y = true then -1 else if seq x y = true then 0 else 1 := rfl
theorem cmpP_lt {a b : DItem} : cmpP a b < 0 ↔ ltP a b = true := by
  unfold cmpP
  rw [orL_two, cmpS_def, ltP_iff]
  unfold cmpI
  cases h1 : slt a.place b.place with
  | true => simp
  | false =>
    cases h2 : seq a.place b.place with
    | true =>
      rw [seq_iff] at h2
      simp only [h2, true_and]
      constructor
      · intro h; right; simp at h; split at h <;> (try split at h) <;> omega
      · rintro (h | h)
        · cases h
        · simp [h]
    | false =>
      have hne := seq_no.1 h2
      simp [hne]
theorem uniq_pair {l : List DItem} (hu : UniqI DItem.item l) {R : DItem → DItem → Prop} (h : ∀ a b, a.item ≠ b.item → R a b) : l.Pairwise R := by
  unfold UniqI at hu
  rw [List.nodup_iff_pairwise_ne, List.pairwise_map] at hu
  exact hu.imp (fun {a b} hab => h a b hab)
def srtP (l : List DItem) : List DItem := srtO ltP l
def srtN (l : List DItem) : List DItem := srtO ltN l
theorem srtP_sorted {l : List DItem} (hu : UniqI DItem.item l) : (srtP l).Pairwise fun a b => ltP a b = true := srtO_sorted ltP_trans (uniq_pair hu fun a b h => ltP_tot h)
theorem ltN_trans (a b c : DItem) (h : ltN a b = true) (k : ltN b c = true) : ltN a c = true := by unfold ltN at *; simp at *; omega
theorem srtN_sorted {l : List DItem} (hu : UniqI DItem.item l) : (srtN l).Pairwise fun a b => ltN a b = true := srtO_sorted ltN_trans (uniq_pair hu fun a b h => by unfold ltN; simp; omega)
theorem srtP_eq {l l' : List DItem} (h : l.Perm l') (hu : UniqI DItem.item l) : srtP l = srtP l' := by
  have hu' : UniqI DItem.item l' := by unfold UniqI at *; exact (h.map _).nodup_iff.1 hu
  exact perm_strict (R := fun a b => ltP a b = true) (fun a b => ltP_asym) (((srtO_perm ltP l).trans h).trans (srtO_perm ltP l').symm) (srtP_sorted hu) (srtP_sorted hu')
theorem srtN_eq {l l' : List DItem} (h : l.Perm l') (hu : UniqI DItem.item l) : srtN l = srtN l' := by
  have hu' : UniqI DItem.item l' := by unfold UniqI at *; exact (h.map _).nodup_iff.1 hu
  exact perm_strict (R := fun a b => ltN a b = true) (fun a b h k => by unfold ltN at h k; simp at h k; omega) (((srtO_perm ltN l).trans h).trans (srtO_perm ltN l').symm) (srtN_sorted hu) (srtN_sorted hu')
open Go.Sort in
theorem fc_sortP (l : List DItem) (hn : l.length ≤ 100000000000) (hu : UniqI DItem.item l) : FC Go.Proofs.Try.prog 33 [.row 0 l.length, .fn 34 []] (app emp [(0, .row 4 false (l.map ditT))]) (.tup []) (app emp [(0, .row 4 false ((srtP l).map ditT))]) := by
  refine fc_sortD 34 cmpP (Go.Proofs.enters_of Go.Proofs.Try.func34 (by kernel_rfl) rfl) raw1_w ⟨fun x => ?_, fun x y z h k => ?_, fun x y z h k => ?_⟩ (fun a b h k => ?_) (fun a b h k => ?_) l (srtP l) hn hu (srtO_perm ltP l) ((srtP_sorted hu).imp (fun {a b} h => cmpP_lt.2 h))
  · unfold Go.Proofs.ltOf; simp only [decide_eq_false_iff_not]; rw [cmpP_lt]; exact fun h => ltP_asym h h
  · unfold Go.Proofs.ltOf at *; simp only [decide_eq_true_eq] at *; rw [cmpP_lt] at *; exact ltP_trans _ _ _ h k
  · unfold Go.Proofs.ltOf at *; simp only [decide_eq_false_iff_not] at *; rw [cmpP_lt] at *
    intro q
    rw [ltP_iff] at h k q
    simp only [not_or, not_and, Bool.not_eq_true, Int.not_lt] at h k
    rcases q with q | ⟨q1, q2⟩
    · cases h1 : slt y.1.place x.1.place with
      | true => have := slt_trans h1 q; rw [k.1] at this; cases this
      | false => have e := slt_tri h1 h.1; rw [← e, k.1] at q; cases q
    · cases h1 : slt y.1.place x.1.place with
      | true => rw [q1, k.1] at h1; cases h1
      | false =>
        have e := slt_tri h1 h.1
        have := h.2 e.symm
        have := k.2 (e.trans q1)
        omega
  · rw [cmpP_lt] at *; exact ltP_asym h k
  · rw [cmpP_lt] at *; exact (ltP_tot h).resolve_right k
theorem cmpN_lt {a b : DItem} : cmpN a b < 0 ↔ ltN a b = true := by
  unfold cmpN cmpI ltN
  simp only [decide_eq_true_eq]
  split <;> (try split) <;> omega
open Go.Sort in
theorem fc_sortN (l : List DItem) (hn : l.length ≤ 100000000000) (hu : UniqI DItem.item l) : FC Go.Proofs.Try.prog 33 [.row 0 l.length, .fn 38 []] (app emp [(0, .row 4 false (l.map ditT))]) (.tup []) (app emp [(0, .row 4 false ((srtN l).map ditT))]) := by
  refine fc_sortD 38 cmpN (Go.Proofs.enters_of Go.Proofs.Try.func38 (by kernel_rfl) rfl) raw3_w ⟨fun x => ?_, fun x y z h k => ?_, fun x y z h k => ?_⟩ (fun a b h k => ?_) (fun a b h k => ?_) l (srtN l) hn hu (srtO_perm ltN l) ((srtN_sorted hu).imp (fun {a b} h => cmpN_lt.2 h))
  · unfold Go.Proofs.ltOf; simp only [decide_eq_false_iff_not]; rw [cmpN_lt]; unfold ltN; simp
  · unfold Go.Proofs.ltOf at *; simp only [decide_eq_true_eq] at *; rw [cmpN_lt] at *; exact ltN_trans _ _ _ h k
  · unfold Go.Proofs.ltOf at *; simp only [decide_eq_false_iff_not] at *; rw [cmpN_lt] at *; unfold ltN at *; simp at *; omega
  · rw [cmpN_lt] at *; unfold ltN at *; simp at *; omega
  · rw [cmpN_lt] at *; unfold ltN at *; simp at *; omega
end Go.Ch
end
section
set_option linter.unusedVariables false
set_option linter.unusedSimpArgs false
set_option maxRecDepth 100000
namespace Go.Ch
open Go Go.Ab

/-- The items of a parent, in their order; those below it. -/
def kidsI (its : List DItem) (p : Int) : List DItem := srtP (its.filter fun x => x.parent == p)
def walkI (its : List DItem) : Nat → Int → List DItem
  | 0, _ => []
  | n + 1, p => (kidsI its p).flatMap fun x => x :: walkI its n x.item
theorem kidsI_mem {its : List DItem} {p : Int} {x : DItem} : x ∈ kidsI its p ↔ x ∈ its ∧ x.parent = p := by
  unfold kidsI srtP
  rw [(srtO_perm ltP _).mem_iff, List.mem_filter]
  simp
structure Its (its : List DItem) (r : Int → Nat) : Prop where
  rk : Rk its r
  uq : UniqI DItem.item its
  pos : ∀ x ∈ its, 0 < x.item
variable {its : List DItem} {r : Int → Nat}
inductive Dn (its : List DItem) (p : Int) : Int → Prop
  | base : Dn its p p
  | step (x : DItem) (hx : x ∈ its) (h : Dn its p x.parent) : Dn its p x.item
theorem Dn.inv (h : Its its r) {a k : Int} (hd : Dn its a k) {x : DItem} (hx : x ∈ its) (e : x.item = k) (hne : a ≠ k) : Dn its a x.parent := by
  cases hd with
  | base => exact absurd rfl hne
  | step y hy hb => rw [h.uq.uniq x hx y hy e]; exact hb
theorem Dn.comp (h : Its its r) {a b k : Int} (ha : Dn its a k) (hb : Dn its b k) : Dn its a b ∨ Dn its b a := by
  induction ha with
  | base => exact .inr hb
  | step x hx ha ih =>
    by_cases e : b = x.item
    · subst e; exact .inl (.step x hx ha)
    · exact ih (hb.inv h hx rfl e)
theorem Dn.rank (h : Its its r) {a k : Int} (ha : 0 < a) (hd : Dn its a k) : 0 < k ∧ r a ≤ r k := by
  induction hd with
  | base => exact ⟨ha, Nat.le_refl _⟩
  | step x hx hd ih => have := h.rk x hx ih.1; exact ⟨h.pos x hx, by omega⟩
theorem Dn.trans {a b c : Int} (h : Dn its a b) (k : Dn its b c) : Dn its a c := by
  induction k with
  | base => exact h
  | step x hx _ ih => exact .step x hx ih
theorem Dn.noback (h : Its its r) {x : DItem} (hx : x ∈ its) (hp : 0 ≤ x.parent) (hd : Dn its x.item x.parent) : False := by
  obtain ⟨h1, h2⟩ := hd.rank h (h.pos x hx)
  have := h.rk x hx h1
  omega
theorem walkI_below : ∀ (n : Nat) {p : Int} {y : DItem}, y ∈ walkI its n p → y ∈ its ∧ Dn its p y.parent
  | 0, p, y, hy => by simp [walkI] at hy
  | n + 1, p, y, hy => by
    simp only [walkI, List.mem_flatMap, List.mem_cons] at hy
    obtain ⟨x, hx, hy⟩ := hy
    obtain ⟨h1, h2⟩ := kidsI_mem.1 hx
    rcases hy with rfl | hy
    · exact ⟨h1, h2 ▸ .base⟩
    · obtain ⟨q1, q2⟩ := walkI_below n hy
      exact ⟨q1, Dn.trans (.step x h1 (h2 ▸ .base)) q2⟩
theorem walkI_item {n : Nat} {p : Int} {y : DItem} (hy : y ∈ walkI its n p) : Dn its p y.item := .step y (walkI_below n hy).1 (walkI_below n hy).2
theorem filter_uniq {l : List DItem} (h : UniqI DItem.item l) (q : DItem → Bool) : UniqI DItem.item (l.filter q) := by
  unfold UniqI at *
  exact h.sublist (List.filter_sublist.map _)
theorem kidsI_uniq (h : Its its r) (p : Int) : UniqI DItem.item (kidsI its p) := by
  have := filter_uniq h.uq (fun x => x.parent == p)
  unfold UniqI kidsI srtP at *
  exact ((srtO_perm ltP _).map _).nodup_iff.2 this
theorem walkI_nodup (h : Its its r) : ∀ (n : Nat) {p : Int}, 0 ≤ p → ((walkI its n p).map DItem.item).Nodup
  | 0, p, _ => by simp [walkI]
  | n + 1, p, hp => by
    simp only [walkI]
    have hu := kidsI_uniq h p
    have hk : ∀ x ∈ kidsI its p, x ∈ its ∧ x.parent = p := fun x hx => kidsI_mem.1 hx
    generalize kidsI its p = l at *
    induction l with
    | nil => simp
    | cons x l ih =>
      obtain ⟨h1, h2⟩ := hk x List.mem_cons_self
      simp only [UniqI, List.map_cons, List.nodup_cons] at hu
      simp only [List.flatMap_cons, List.map_append, List.map_cons]
      rw [List.nodup_append]
      refine ⟨List.nodup_cons.2 ⟨fun hm => ?_, walkI_nodup h n (Int.le_of_lt (h.pos x h1))⟩, ih hu.2 (fun y hy => hk y (List.mem_cons_of_mem _ hy)), fun a ha b hb e => ?_⟩
      · obtain ⟨y, hy, e⟩ := List.mem_map.1 hm
        obtain ⟨q1, q2⟩ := walkI_below n hy
        have := h.uq.uniq y q1 x h1 e
        subst this
        exact Dn.noback h h1 (by omega) q2
      · subst e
        obtain ⟨y, hy, rfl⟩ := List.mem_map.1 hb
        simp only [List.mem_flatMap, List.mem_cons] at hy
        obtain ⟨z, hz, hy⟩ := hy
        obtain ⟨k1, k2⟩ := hk z (List.mem_cons_of_mem _ hz)
        have d1 : Dn its x.item y.item := by
          rcases List.mem_cons.1 ha with e | ha
          · rw [e]; exact .base
          · obtain ⟨y', hy', e⟩ := List.mem_map.1 ha
            rw [← e]; exact walkI_item hy'
        have d2 : Dn its z.item y.item := by
          rcases hy with rfl | hy
          · exact .base
          · exact walkI_item hy
        have hne : x.item ≠ z.item := fun e => hu.1 (List.mem_map.2 ⟨z, hz, e.symm⟩)
        rcases d1.comp h d2 with d | d
        · have := d.inv h k1 rfl hne
          rw [k2, ← h2] at this
          exact Dn.noback h h1 (by omega) this
        · have := d.inv h h1 rfl hne.symm
          rw [h2, ← k2] at this
          exact Dn.noback h k1 (by omega) this

/-! ### How deep -/
def mu (its : List DItem) (r : Int → Nat) (p : Int) : Nat := if p = 0 then its.length + 1 else (its.filter fun x => decide (r p < r x.item)).length + 1
theorem filter_lt {l : List DItem} {p q : DItem → Bool} (h : ∀ x ∈ l, q x = true → p x = true) {x : DItem} (hx : x ∈ l) (h1 : p x = true) (h2 : q x = false) : (l.filter q).length < (l.filter p).length := by
  induction l with
  | nil => cases hx
  | cons a l ih =>
    have hle : (l.filter q).length ≤ (l.filter p).length := by
      have hs : ∀ (l : List DItem), (∀ x ∈ l, q x = true → p x = true) → (l.filter q).length ≤ (l.filter p).length := by
        intro l
        induction l with
        | nil => intro _; exact Nat.le_refl _
        | cons a l ih =>
          intro h
          have := ih (fun x hx => h x (List.mem_cons_of_mem _ hx))
          have ha := h a List.mem_cons_self
          simp only [List.filter_cons]
          split
          · rename_i hq; rw [if_pos (ha hq)]; simp only [List.length_cons]; omega
          · split <;> (try simp only [List.length_cons]) <;> omega
      exact hs l (fun x hx => h x (List.mem_cons_of_mem _ hx))
    rcases List.mem_cons.1 hx with rfl | hx
    · simp only [List.filter_cons, h1, h2, if_true]
      simp only [Bool.false_eq_true, if_false, List.length_cons]; omega
    · have := ih (fun x hx => h x (List.mem_cons_of_mem _ hx)) hx
      have ha := h a List.mem_cons_self
      simp only [List.filter_cons]
      split
      · rename_i hq; rw [if_pos (ha hq)]; simp only [List.length_cons]; omega
      · split <;> (try simp only [List.length_cons]) <;> omega
theorem mu_kid (h : Its its r) {x : DItem} (hx : x ∈ its) (hp : 0 ≤ x.parent) : mu its r x.item < mu its r x.parent := by
  have h0 := h.pos x hx
  unfold mu
  rw [if_neg (by omega)]
  split
  · have := filter_lt (l := its) (p := fun _ => true) (q := fun y => decide (r x.item < r y.item)) (fun _ _ _ => rfl) hx rfl (by simp)
    rw [filter_all] at this; omega
  · have hlt := h.rk x hx (by omega)
    have := filter_lt (l := its) (p := fun y => decide (r x.parent < r y.item)) (q := fun y => decide (r x.item < r y.item)) (fun y _ hy => by simp at hy ⊢; omega) hx (by simpa using hlt) (by simp)
    omega
theorem mu_pos (its : List DItem) (r : Int → Nat) (p : Int) : 0 < mu its r p := by unfold mu; split <;> omega

/-! ### What the maps hold on the way -/
abbrev KE := Int × Bool × List DItem
def kdM (e : KE) : Int × MV := (e.1, if e.2.1 then .im (TL 4 ditT e.2.2) else .rw 4 (e.2.2.map ditT))
def onM (k : Int) : Int × MV := (k, .im (TB true))
def findK (K : List KE) (k : Int) : Option KE := K.find? (fun e => e.1 == k)
theorem lookK {K : List KE} {k : Int} : lookE (K.map kdM) k = (findK K k).map fun e => (kdM e).2 := lookE_map (f := kdM) (key := Prod.fst) (fun _ => rfl)
theorem putKD {K : List KE} (e : KE) : putE (K.map kdM) e.1 (kdM e).2 = (putK Prod.fst K e).map kdM := putE_map (f := kdM) (key := Prod.fst) (fun _ => rfl)
theorem lookS {S : List Int} {k : Int} : lookT (S.map onM) k (TB false) = some (TB (decide (k ∈ S))) := by
  unfold lookT
  rw [lookE_map (f := onM) (key := id) (fun _ => rfl)]
  cases hf : S.find? (fun x => id x == k) with
  | none =>
    have : k ∉ S := fun hm => by have := List.find?_eq_none.1 hf k hm; simp at this
    simp [this]
  | some x =>
    obtain ⟨h1, h2⟩ := find_at (key := id) hf
    have : k ∈ S := h2 ▸ h1
    simp [this, onM]
theorem putS {S : List Int} {k : Int} : putE (S.map onM) k (.im (TB true)) = (putK id S k).map onM := putE_map (f := onM) (key := id) (fun _ => rfl)
/-- The list of a parent is put in order, and written no more. -/
def frzK (K : List KE) (p : Int) : List KE := K.map fun e => if e.1 = p then (e.1, true, srtP e.2.2) else e
def frzL (K : List KE) (l : List Int) : List KE := l.foldl frzK K
def addS (S : List Int) (l : List Int) : List Int := l.foldl (putK id) S
structure KOk (its : List DItem) (K : List KE) (V : List Int) : Prop where
  uq : UniqI Prod.fst K
  has : ∀ e ∈ K, e.1 ∉ V → e.2.1 = false ∧ e.2.2.Perm (its.filter fun x => x.parent == e.1)
  no : ∀ d, d ∉ V → (∀ e ∈ K, e.1 ≠ d) → (its.filter fun x => x.parent == d) = []
theorem frzK_keys (K : List KE) (p : Int) : (frzK K p).map Prod.fst = K.map Prod.fst := by
  unfold frzK
  rw [List.map_map]
  apply List.map_congr_left
  intro e _
  simp only [Function.comp]
  split <;> rfl
theorem KOk.frz {K : List KE} {V : List Int} (h : KOk its K V) (p : Int) : KOk its (frzK K p) (V ++ [p]) := by
  refine ⟨by have := h.uq; unfold UniqI at *; rw [frzK_keys]; exact this, fun e he hv => ?_, fun d hd hn => ?_⟩
  · simp only [List.mem_append, List.mem_singleton, not_or] at hv
    obtain ⟨e0, h0, rfl⟩ := List.mem_map.1 he
    by_cases hp : e0.1 = p
    · rw [if_pos hp] at hv; exact absurd hp hv.2
    · rw [if_neg hp] at hv ⊢
      exact h.has e0 h0 hv.1
  · simp only [List.mem_append, List.mem_singleton, not_or] at hd
    refine h.no d hd.1 (fun e he hh => ?_)
    have : (if e.1 = p then (e.1, true, srtP e.2.2) else e) ∈ frzK K p := List.mem_map.2 ⟨e, he, rfl⟩
    refine hn _ this ?_
    split <;> exact hh
theorem KOk.frzL {K : List KE} {V : List Int} (h : KOk its K V) : ∀ l, KOk its (Ch.frzL K l) (V ++ l)
  | [] => by simpa [Ch.frzL] using h
  | p :: l => by
    have := (h.frz p).frzL l
    rw [List.append_assoc] at this
    exact this
/-- At a parent that was not visited: what the map holds for it. -/
theorem KOk.at {K : List KE} {V : List Int} (h : KOk its K V) (h0 : Its its r) {p : Int} (hp : p ∉ V) :
    (findK K p = none ∧ kidsI its p = []) ∨ ∃ xs, findK K p = some (p, false, xs) ∧ srtP xs = kidsI its p ∧ xs.Perm (its.filter fun x => x.parent == p) := by
  cases hf : findK K p with
  | none =>
    refine .inl ⟨rfl, ?_⟩
    have := h.no p hp (find_not hf)
    unfold kidsI; rw [this]; rfl
  | some e =>
    obtain ⟨h1, h2⟩ := find_at hf
    obtain ⟨b1, b2⟩ := h.has e h1 (h2 ▸ hp)
    obtain ⟨k, b, xs⟩ := e
    simp only at h2 b1 b2
    subst h2 b1
    exact .inr ⟨xs, rfl, (srtP_eq b2.symm (filter_uniq h0.uq _)).symm, b2⟩
/-- What a walk from p is given: n rounds are enough, and what it comes to was not visited. -/
structure WIn (its : List DItem) (r : Int → Nat) (n : Nat) (p : Int) (K : List KE) (V : List Int) (no : Nat) : Prop where
  ok : Its its r
  p0 : 0 ≤ p
  mu : mu its r p ≤ n
  k : KOk its K V
  nd : (V ++ p :: (walkI its n p).map DItem.item).Nodup
  len : no + (walkI its n p).length ≤ 10000000000
  lenI : its.length ≤ 10000000000
/-- One item and what is below it. -/
def blkI (its : List DItem) (n : Nat) (x : DItem) : List DItem := x :: walkI its n x.item
def dneI (its : List DItem) (n : Nat) (p : Int) (i : Nat) : List DItem := ((kidsI its p).take i).flatMap (blkI its n)
theorem dneI_all (its : List DItem) (n : Nat) (p : Int) {i : Nat} (h : (kidsI its p).length ≤ i) : dneI its n p i = walkI its (n + 1) p := by
  unfold dneI
  rw [List.take_of_length_le h]
  rfl
theorem dneI_succ (its : List DItem) (n : Nat) (p : Int) {i : Nat} (h : i < (kidsI its p).length) : dneI its n p (i + 1) = dneI its n p i ++ ((kidsI its p).getD i default :: walkI its n ((kidsI its p).getD i default).item) := by
  unfold dneI
  rw [List.take_succ_eq_append_getElem h, List.flatMap_append]
  simp [blkI, List.getD, List.getElem?_eq_getElem h]
theorem dneI_pre (its : List DItem) (n : Nat) (p : Int) (i : Nat) : ∃ rest, walkI its (n + 1) p = dneI its n p i ++ rest := by
  refine ⟨((kidsI its p).drop i).flatMap (blkI its n), ?_⟩
  unfold dneI
  rw [← List.flatMap_append, List.take_append_drop]
  rfl
theorem getDI_mem {l : List DItem} {i : Nat} (h : i < l.length) : l.getD i default ∈ l := by
  rw [show l.getD i default = l[i] by simp [List.getD, List.getElem?_eq_getElem h]]
  exact List.getElem_mem h
theorem WIn.kid {n : Nat} {p : Int} {K : List KE} {V : List Int} {no : Nat} (h : WIn its r (n + 1) p K V no) {i : Nat} (hi : i < (kidsI its p).length) :
    WIn its r n ((kidsI its p).getD i default).item (frzL K (p :: (dneI its n p i).map DItem.item)) (V ++ p :: (dneI its n p i).map DItem.item) (no + (dneI its n p i).length + 1) := by
  obtain ⟨q1, q2⟩ := kidsI_mem.1 (getDI_mem hi)
  obtain ⟨rest, hr⟩ := dneI_pre its n p (i + 1)
  have hd := dneI_succ its n p hi
  have hmu := mu_kid h.ok q1 (by rw [q2]; exact h.p0)
  rw [q2] at hmu
  have := h.mu
  have hn := h.nd
  have hl := h.len
  rw [hr, hd] at hn hl
  refine ⟨h.ok, Int.le_of_lt (h.ok.pos _ q1), by omega, h.k.frzL _, ?_, ?_, h.lenI⟩
  · refine hn.sublist ?_
    simp only [List.map_append, List.map_cons, List.append_assoc, List.cons_append]
    refine List.Sublist.append_left (List.Sublist.cons_cons _ ?_) _
    refine List.Sublist.append_left ?_ _
    refine List.Sublist.cons_cons _ ?_
    exact List.sublist_append_left _ _
  · simp only [List.length_append, List.length_cons] at hl ⊢; omega
theorem WIn.notV {n : Nat} {p : Int} {K : List KE} {V : List Int} {no : Nat} (h : WIn its r n p K V no) : p ∉ V := fun hp => by
  have := List.nodup_append.1 h.nd
  exact this.2.2 p hp p List.mem_cons_self rfl
theorem frzK_found {K : List KE} (hu : UniqI Prod.fst K) {p : Int} {xs : List DItem} (hf : findK K p = some (p, false, xs)) : putK Prod.fst K (p, true, srtP xs) = frzK K p := by
  have hm := (find_at hf).1
  clear hf
  induction K with
  | nil => cases hm
  | cons e K ih =>
    have hu' := hu
    simp only [UniqI, List.map_cons, List.nodup_cons] at hu
    unfold frzK
    rw [List.map_cons]
    simp only [putK]
    by_cases he : p = e.1
    · rw [if_pos he]
      have h1 : e = (p, false, xs) := hu'.uniq e List.mem_cons_self _ hm he.symm
      subst h1
      rw [if_pos rfl]
      congr 1
      symm
      refine (List.map_congr_left (fun y hy => ?_)).trans (List.map_id _)
      rw [if_neg (fun h => hu.1 (List.mem_map.2 ⟨y, hy, h⟩))]; rfl
    · rw [if_neg he, if_neg (fun h => he h.symm)]
      congr 1
      exact ih hu.2 ((List.mem_cons.1 hm).resolve_left (fun h => he (by rw [← h])))
theorem frzK_none {K : List KE} {p : Int} (hf : findK K p = none) : frzK K p = K := by
  have := find_not hf
  unfold frzK
  refine (List.map_congr_left (fun y hy => ?_)).trans (List.map_id _)
  rw [if_neg (this y hy)]; rfl
theorem putK_twice {K : List KE} {p : Int} {b b' : Bool} {xs ys : List DItem} : putK Prod.fst (putK Prod.fst K (p, b, xs)) (p, b', ys) = putK Prod.fst K (p, b', ys) := by
  induction K with
  | nil => simp [putK]
  | cons e K ih =>
    simp only [putK]
    by_cases he : p = e.1
    · rw [if_pos he, if_pos he]; simp [putK]
    · rw [if_neg he, if_neg he]; simp only [putK]; rw [if_neg he, ih]
theorem frz_put {K : List KE} (hu : UniqI Prod.fst K) {p : Int} {xs : List DItem} (hf : findK K p = some (p, false, xs)) :
    lookE ((putK Prod.fst K (p, false, srtP xs)).map kdM) p = some (.rw 4 ((srtP xs).map ditT)) ∧ putE ((putK Prod.fst K (p, false, srtP xs)).map kdM) p (.im (TL 4 ditT (srtP xs))) = (frzK K p).map kdM := by
  constructor
  · rw [lookK]
    have : findK (putK Prod.fst K (p, false, srtP xs)) p = some (p, false, srtP xs) := find_uniq (x := (p, false, srtP xs)) hu.putK putK_self
    rw [this]; rfl
  · have := putKD (K := putK Prod.fst K (p, false, srtP xs)) (p, true, srtP xs)
    rw [putK_twice, frzK_found hu hf] at this
    exact this
@[simp] theorem srtP_len (l : List DItem) : (srtP l).length = l.length := (srtO_perm ltP l).length_eq
theorem WIn.at {n : Nat} {p : Int} {K : List KE} {V : List Int} {no : Nat} (h : WIn its r n p K V no) :
    (findK K p = none ∧ kidsI its p = []) ∨ ∃ xs, findK K p = some (p, false, xs) ∧ srtP xs = kidsI its p ∧ xs.length ≤ 10000000000 ∧ UniqI DItem.item xs := by
  rcases h.k.at h.ok h.notV with h | ⟨xs, h1, h2, h3⟩
  · exact .inl h
  · refine .inr ⟨xs, h1, h2, ?_, ?_⟩
    · rw [h3.length_eq]; exact Nat.le_trans (List.length_filter_le _ _) h.lenI
    · have := filter_uniq h.ok.uq (fun x => x.parent == p)
      unfold UniqI at *
      exact (h3.map _).nodup_iff.2 this
abbrev noD : List DItem := []
open Go.Proofs Go.RowKit Go.Shelf Go.Sort in
theorem fc_sortNil : FC Go.Proofs.Try.prog 33 [VN, .fn 34 []] emp (.tup []) emp := by
  intro F m w xs hS hl hv
  match xs, hl with
  | [x0, x1], _ =>
  have v0 := hv 0 _ _ rfl rfl
  have v1 := hv 1 _ _ rfl rfl
  cases v1 with
  | fn _ _ us hlu _ =>
  obtain rfl : us = [] := List.length_eq_zero_iff.1 hlu
  cases v0 with
  | t _ _ h =>
  cases h with
  | sc _ h =>
  have key := AnyF.slices_SortFunc_none Go.Proofs.Try.sortI none 0 (.func (.func 34) #[] #[]) w
  change Calls Go.Proofs.Try.prog 33 _ _ _ at key
  refine key.mono ?_
  rintro e' w' ⟨rfl, rfl⟩
  exact ⟨_, m, rfl, hS, FrameExt.refl F _ m _, .tup [] [] rfl (fun i v u hv => by simp at hv)⟩
end Go.Ch
end
section
set_option linter.unusedVariables false
set_option linter.unusedSimpArgs false
set_option maxRecDepth 100000
set_option maxHeartbeats 4000000
open Go Go.Proofs Go.Ab
namespace Go.Ch
theorem fc_walk1 (its : List DItem) (r : Int → Nat) (n : Nat) (ih : ∀ (p : Int) (K : List KE) (S : List Int) (o : List DItem) (V : List Int), WIn its r n p K V o.length → FC Try.prog 32 [VI p, .ptr 0 0, .ptr 1 0, .ptr 2 0, .ptr 3 0] (app emp [(0, .box [.hdl 4]), (1, .box [.row 5 o.length]), (2, .box [.hdl 6]), (3, .box [.fn 32 [.ptr 0 0, .ptr 1 0, .ptr 2 0, .ptr 3 0]]), (4, .mp (List.map kdM K) none), (5, OR 4 ditT o), (6, .mp (List.map onM S) none)]) (.tup []) (app emp [(0, .box [.hdl 4]), (1, .box [.row 5 ((o ++ walkI its n p).length)]), (2, .box [.hdl 6]), (3, .box [.fn 32 [.ptr 0 0, .ptr 1 0, .ptr 2 0, .ptr 3 0]]), (4, .mp (List.map kdM (frzL K (p :: (walkI its n p).map DItem.item))) none), (5, OR 4 ditT (o ++ walkI its n p)), (6, .mp (List.map onM (addS S ((walkI its n p).map DItem.item))) none)])) (p : Int) (K : List KE) (S : List Int) (o : List DItem) (V : List Int) (hW : WIn its r (n + 1) p K V o.length) : FC Try.prog 32 [VI p, .ptr 0 0, .ptr 1 0, .ptr 2 0, .ptr 3 0] (app emp [(0, .box [.hdl 4]), (1, .box [.row 5 o.length]), (2, .box [.hdl 6]), (3, .box [.fn 32 [.ptr 0 0, .ptr 1 0, .ptr 2 0, .ptr 3 0]]), (4, .mp (List.map kdM K) none), (5, OR 4 ditT o), (6, .mp (List.map onM S) none)]) (.tup []) (app emp [(0, .box [.hdl 4]), (1, .box [.row 5 ((o ++ walkI its (n + 1) p).length)]), (2, .box [.hdl 6]), (3, .box [.fn 32 [.ptr 0 0, .ptr 1 0, .ptr 2 0, .ptr 3 0]]), (4, .mp (List.map kdM (frzL K (p :: (walkI its (n + 1) p).map DItem.item))) none), (5, OR 4 ditT (o ++ walkI its (n + 1) p)), (6, .mp (List.map onM (addS S ((walkI its (n + 1) p).map DItem.item))) none)]) := by
 refine .go Try.f32 ?_
 have hk := hW.at
 have hu := kidsI_uniq hW.ok p
 rcases hk with ⟨hf, hnil⟩ | ⟨xs, hf, hsrt, hlx, hux⟩
 ·
  
  refine .loop (α := Nat × List KE × (List DItem) × List Int) [.r [(2, X (Xm0 (List.map kdM K) p) (by rw [lookK, hf]; rfl)), (3, X (Xc0 fc_sortNil X0))], .r [(2, X (Xm0 (List.map kdM K) p) (by rw [lookK, hf]; rfl))], .le (.nL 14 4)] 79 (fun (i, K2, o2, S2) => ([(2, .ptr 1 0), (3, .ptr 2 0), (4, .ptr 3 0), (14, VL 4 ditT noD), (15, VI 0), (16, VI (i : Int))], [(0, .box [.hdl 4]), (1, .box [.row 5 o2.length]), (2, .box [.hdl 6]), (3, .box [.fn 32 [.ptr 0 0, .ptr 1 0, .ptr 2 0, .ptr 3 0]]), (4, .mp (List.map kdM K2) none), (5, OR 4 ditT o2), (6, .mp (List.map onM S2) none)])) (fun (i, K2, o2, S2) => i ≤ (noD : List DItem).length ∧ o2 = o ++ dneI its n p i ∧ K2 = (frzL K (p :: (dneI its n p i).map DItem.item)) ∧ S2 = addS S ((dneI its n p i).map DItem.item)) (fun (i, K2, o2, S2) => (noD : List DItem).length - i) (0, K, o, S) ?_ ?_
  ·
   refine ⟨Nat.zero_le _, by simp [dneI], ?_, by simp [dneI, addS]⟩
   simp only [dneI, List.take_zero, List.flatMap_nil, List.map_nil, frzL, List.foldl_cons, List.foldl_nil]
   all_goals first | rfl | exact (frzK_none hf).symm
  rintro ⟨i, K2, o2, S2⟩ I2 ih2
  try dsimp only at I2
  refine .br [.r []] (decide ((i : Int) < 0)) (fun h2 => ?_) (fun h2 => ?_)
  ·
   (try simp only [decide_eq_true_eq, decide_eq_false_iff_not, Int.not_lt, Int.not_le] at h2)
   have hL : (noD : List DItem) = kidsI its p := by first | exact hsrt | exact hnil.symm
   have hd := dneI_succ its n p (i := i) (by rw [← hL]; first | omega | (exfalso; omega))
   rw [← hL] at hd
   have hkid : WIn its r n ((noD : List DItem).getD i default).item K2 (V ++ p :: (dneI its n p i).map DItem.item) (o2 ++ [(noD : List DItem).getD i default]).length := by
    have hq := hW.kid (i := i) (by rw [← hL]; first | omega | (exfalso; omega))
    rw [← hL, ← I2.2.2.1] at hq
    have hlen : (o2 ++ [(noD : List DItem).getD i default]).length = o.length + (dneI its n p i).length + 1 := by rw [I2.2.1]; simp; omega
    rw [hlen]; exact hq
   have hol : o2.length ≤ 1099511627775 := by have := hkid.len; rw [List.length_append] at this; omega
   have hli : (noD : List DItem).length ≤ 10000000000 := by first | (rw [srtP_len]; exact hlx) | simp
   refine .back [.r [(0, X (Xi ditT noD (i : Int)))], .r [(6, X (rowC ditT [((noD.getD i default))] (Xap 4 ditT 5 o2 [((noD.getD i default))]))), (8, X (Xmu onM S2 (putK id S2 ((noD : List DItem).getD i default).item) (((noD.getD i default)).item) 6 (.im (TB true))) putS)], .r [(3, X (Xc3 215 [(0, 0), (1, 1), (2, 2), (3, 3), (4, 4), (5, 5), (6, 6)] (ih (((noD.getD i default)).item) K2 (putK id S2 ((noD : List DItem).getD i default).item) (o2 ++ [((noD.getD i default))]) _ (by first | assumption | exact hkid)) X0))], .r [(0, X (Xn ((i : Int) + 1)))]] [(0, 0), (1, 1), (2, 2), (3, 3), (4, 4), (5, 5), (6, 6)] (ih2 ((i + 1), (frzL K2 ((((noD.getD i default)).item) :: (walkI its n (((noD.getD i default)).item)).map DItem.item)), ((o2 ++ [((noD.getD i default))]) ++ walkI its n (((noD.getD i default)).item)), (addS (putK id S2 ((noD : List DItem).getD i default).item) ((walkI its n (((noD.getD i default)).item)).map DItem.item))) ?_ ?_)
   ·
    refine ⟨by omega, ?_, ?_, ?_⟩
    · rw [hd, I2.2.1]; simp
    · rw [hd, I2.2.2.1]; simp [frzL]
    · rw [hd, I2.2.2.2]; simp [addS]
   ·
    ((try dsimp only); omega)
  ·
   (try simp only [decide_eq_true_eq, decide_eq_false_iff_not, Int.not_lt, Int.not_le] at h2)
   have e1 : ((o ++ walkI its (n + 1) p).length : Nat) = o2.length := by
    have ha := dneI_all its n p (i := i) (by first | (rw [← hsrt]; omega) | (rw [hnil]; exact Nat.zero_le _))
    rw [← ha]
    first | rw [← I2.2.1] | rw [← I2.2.2.1] | rw [← I2.2.2.2]
   have e2 : ((frzL K (p :: (walkI its (n + 1) p).map DItem.item)) : List KE) = K2 := by
    have ha := dneI_all its n p (i := i) (by first | (rw [← hsrt]; omega) | (rw [hnil]; exact Nat.zero_le _))
    rw [← ha]
    first | rw [← I2.2.1] | rw [← I2.2.2.1] | rw [← I2.2.2.2]
   have e3 : ((o ++ walkI its (n + 1) p) : List DItem) = o2 := by
    have ha := dneI_all its n p (i := i) (by first | (rw [← hsrt]; omega) | (rw [hnil]; exact Nat.zero_le _))
    rw [← ha]
    first | rw [← I2.2.1] | rw [← I2.2.2.1] | rw [← I2.2.2.2]
   have e4 : ((addS S ((walkI its (n + 1) p).map DItem.item)) : List Int) = S2 := by
    have ha := dneI_all its n p (i := i) (by first | (rw [← hsrt]; omega) | (rw [hnil]; exact Nat.zero_le _))
    rw [← ha]
    first | rw [← I2.2.1] | rw [← I2.2.2.1] | rw [← I2.2.2.2]
   exact .finE [] [(0, 0), (1, 1), (2, 2), (3, 3), (4, 4), (5, 5), (6, 6)] (fun (z0, z1, z2, z3) => (.tup [], [(0, .box [.hdl 4]), (1, .box [.row 5 z0]), (2, .box [.hdl 6]), (3, .box [.fn 32 [.ptr 0 0, .ptr 1 0, .ptr 2 0, .ptr 3 0]]), (4, .mp (List.map kdM z1) none), (5, OR 4 ditT z2), (6, .mp (List.map onM z3) none)])) ((o2.length : Nat), (K2 : List KE), (o2 : List DItem), (S2 : List Int)) (((o ++ walkI its (n + 1) p).length : Nat), ((frzL K (p :: (walkI its (n + 1) p).map DItem.item)) : List KE), ((o ++ walkI its (n + 1) p) : List DItem), ((addS S ((walkI its (n + 1) p).map DItem.item)) : List Int)) (pr e1 (pr e2 (pr e3 e4)))
 ·
  
  refine .loop (α := Nat × List KE × (List DItem) × List Int) [.r [(2, X (Xm2r (List.map kdM K) p 4 23 4 ditT xs) (by rw [lookK, hf]; rfl)), (3, X (Xc3 31 [(0, 23)] (fc_sortP xs (by omega) (by assumption)) X0))], .le (.mput 4 (List.map kdM (putK Prod.fst K (p, false, srtP xs))) [(xs.length : Nat) = (List.map ditT (srtP xs)).length, (lookE (List.map kdM K) p).isSome = true, putE (List.map kdM K) p (.rw 4 (List.map ditT (srtP xs))) = List.map kdM (putK Prod.fst K (p, false, srtP xs))] ⟨lm, (by rw [lookK, hf]; rfl), (putKD (p, false, srtP xs)), trivial⟩), .r [(2, X (Xm3 kdM (putK Prod.fst K (p, false, srtP xs)) (frzK K p) p 4 4 ditT (srtP xs)) (frz_put hW.k.uq hf)), (3, X (Xl ditT (srtP xs)))]] 79 (fun (i, K2, o2, S2) => ([(2, .ptr 1 0), (3, .ptr 2 0), (4, .ptr 3 0), (14, VL 4 ditT (srtP xs)), (15, VI ((srtP xs).length : Int)), (16, VI (i : Int))], [(0, .box [.hdl 4]), (1, .box [.row 5 o2.length]), (2, .box [.hdl 6]), (3, .box [.fn 32 [.ptr 0 0, .ptr 1 0, .ptr 2 0, .ptr 3 0]]), (4, .mp (List.map kdM K2) none), (5, OR 4 ditT o2), (6, .mp (List.map onM S2) none)])) (fun (i, K2, o2, S2) => i ≤ ((srtP xs) : List DItem).length ∧ o2 = o ++ dneI its n p i ∧ K2 = (frzL K (p :: (dneI its n p i).map DItem.item)) ∧ S2 = addS S ((dneI its n p i).map DItem.item)) (fun (i, K2, o2, S2) => ((srtP xs) : List DItem).length - i) (0, (frzK K p), o, S) ?_ ?_
  ·
   refine ⟨Nat.zero_le _, by simp [dneI], ?_, by simp [dneI, addS]⟩
   simp only [dneI, List.take_zero, List.flatMap_nil, List.map_nil, frzL, List.foldl_cons, List.foldl_nil]
   all_goals first | rfl | exact (frzK_none hf).symm
  rintro ⟨i, K2, o2, S2⟩ I2 ih2
  try dsimp only at I2
  refine .br [.r []] (decide ((i : Int) < ((srtP xs).length : Int))) (fun h2 => ?_) (fun h2 => ?_)
  ·
   (try simp only [decide_eq_true_eq, decide_eq_false_iff_not, Int.not_lt, Int.not_le] at h2)
   have hL : ((srtP xs) : List DItem) = kidsI its p := by first | exact hsrt | exact hnil.symm
   have hd := dneI_succ its n p (i := i) (by rw [← hL]; first | omega | (exfalso; omega))
   rw [← hL] at hd
   have hkid : WIn its r n (((srtP xs) : List DItem).getD i default).item K2 (V ++ p :: (dneI its n p i).map DItem.item) (o2 ++ [((srtP xs) : List DItem).getD i default]).length := by
    have hq := hW.kid (i := i) (by rw [← hL]; first | omega | (exfalso; omega))
    rw [← hL, ← I2.2.2.1] at hq
    have hlen : (o2 ++ [((srtP xs) : List DItem).getD i default]).length = o.length + (dneI its n p i).length + 1 := by rw [I2.2.1]; simp; omega
    rw [hlen]; exact hq
   have hol : o2.length ≤ 1099511627775 := by have := hkid.len; rw [List.length_append] at this; omega
   have hli : ((srtP xs) : List DItem).length ≤ 10000000000 := by first | (rw [srtP_len]; exact hlx) | simp
   refine .back [.r [(0, X (Xi ditT (srtP xs) (i : Int)))], .r [(6, X (rowC ditT [(((srtP xs).getD i default))] (Xap 4 ditT 5 o2 [(((srtP xs).getD i default))]))), (8, X (Xmu onM S2 (putK id S2 (((srtP xs) : List DItem).getD i default).item) ((((srtP xs).getD i default)).item) 6 (.im (TB true))) putS)], .r [(3, X (Xc3 215 [(0, 0), (1, 1), (2, 2), (3, 3), (4, 4), (5, 5), (6, 6)] (ih ((((srtP xs).getD i default)).item) K2 (putK id S2 (((srtP xs) : List DItem).getD i default).item) (o2 ++ [(((srtP xs).getD i default))]) _ (by first | assumption | exact hkid)) X0))], .r [(0, X (Xn ((i : Int) + 1)))]] [(0, 0), (1, 1), (2, 2), (3, 3), (4, 4), (5, 5), (6, 6)] (ih2 ((i + 1), (frzL K2 (((((srtP xs).getD i default)).item) :: (walkI its n ((((srtP xs).getD i default)).item)).map DItem.item)), ((o2 ++ [(((srtP xs).getD i default))]) ++ walkI its n ((((srtP xs).getD i default)).item)), (addS (putK id S2 (((srtP xs) : List DItem).getD i default).item) ((walkI its n ((((srtP xs).getD i default)).item)).map DItem.item))) ?_ ?_)
   ·
    refine ⟨by omega, ?_, ?_, ?_⟩
    · rw [hd, I2.2.1]; simp
    · rw [hd, I2.2.2.1]; simp [frzL]
    · rw [hd, I2.2.2.2]; simp [addS]
   ·
    ((try dsimp only); omega)
  ·
   (try simp only [decide_eq_true_eq, decide_eq_false_iff_not, Int.not_lt, Int.not_le] at h2)
   have e5 : ((o ++ walkI its (n + 1) p).length : Nat) = o2.length := by
    have ha := dneI_all its n p (i := i) (by first | (rw [← hsrt]; omega) | (rw [hnil]; exact Nat.zero_le _))
    rw [← ha]
    first | rw [← I2.2.1] | rw [← I2.2.2.1] | rw [← I2.2.2.2]
   have e6 : ((frzL K (p :: (walkI its (n + 1) p).map DItem.item)) : List KE) = K2 := by
    have ha := dneI_all its n p (i := i) (by first | (rw [← hsrt]; omega) | (rw [hnil]; exact Nat.zero_le _))
    rw [← ha]
    first | rw [← I2.2.1] | rw [← I2.2.2.1] | rw [← I2.2.2.2]
   have e7 : ((o ++ walkI its (n + 1) p) : List DItem) = o2 := by
    have ha := dneI_all its n p (i := i) (by first | (rw [← hsrt]; omega) | (rw [hnil]; exact Nat.zero_le _))
    rw [← ha]
    first | rw [← I2.2.1] | rw [← I2.2.2.1] | rw [← I2.2.2.2]
   have e8 : ((addS S ((walkI its (n + 1) p).map DItem.item)) : List Int) = S2 := by
    have ha := dneI_all its n p (i := i) (by first | (rw [← hsrt]; omega) | (rw [hnil]; exact Nat.zero_le _))
    rw [← ha]
    first | rw [← I2.2.1] | rw [← I2.2.2.1] | rw [← I2.2.2.2]
   exact .finE [] [(0, 0), (1, 1), (2, 2), (3, 3), (4, 4), (5, 5), (6, 6)] (fun (z0, z1, z2, z3) => (.tup [], [(0, .box [.hdl 4]), (1, .box [.row 5 z0]), (2, .box [.hdl 6]), (3, .box [.fn 32 [.ptr 0 0, .ptr 1 0, .ptr 2 0, .ptr 3 0]]), (4, .mp (List.map kdM z1) none), (5, OR 4 ditT z2), (6, .mp (List.map onM z3) none)])) ((o2.length : Nat), (K2 : List KE), (o2 : List DItem), (S2 : List Int)) (((o ++ walkI its (n + 1) p).length : Nat), ((frzL K (p :: (walkI its (n + 1) p).map DItem.item)) : List KE), ((o ++ walkI its (n + 1) p) : List DItem), ((addS S ((walkI its (n + 1) p).map DItem.item)) : List Int)) (pr e5 (pr e6 (pr e7 e8)))

theorem fc_walk (its : List DItem) (r : Int → Nat) : ∀ (n : Nat), ∀ (p : Int) (K : List KE) (S : List Int) (o : List DItem) (V : List Int), WIn its r n p K V o.length → FC Try.prog 32 [VI p, .ptr 0 0, .ptr 1 0, .ptr 2 0, .ptr 3 0] (app emp [(0, .box [.hdl 4]), (1, .box [.row 5 o.length]), (2, .box [.hdl 6]), (3, .box [.fn 32 [.ptr 0 0, .ptr 1 0, .ptr 2 0, .ptr 3 0]]), (4, .mp (List.map kdM K) none), (5, OR 4 ditT o), (6, .mp (List.map onM S) none)]) (.tup []) (app emp [(0, .box [.hdl 4]), (1, .box [.row 5 ((o ++ walkI its n p).length)]), (2, .box [.hdl 6]), (3, .box [.fn 32 [.ptr 0 0, .ptr 1 0, .ptr 2 0, .ptr 3 0]]), (4, .mp (List.map kdM (frzL K (p :: (walkI its n p).map DItem.item))) none), (5, OR 4 ditT (o ++ walkI its n p)), (6, .mp (List.map onM (addS S ((walkI its n p).map DItem.item))) none)])
  | 0, p, K, S, o, V, hW => absurd hW.mu (by have := mu_pos its r p; omega)
  | n + 1, p, K, S, o, V, hW => fc_walk1 its r n (fc_walk its r n) p K S o V hW
end Go.Ch
end
section
set_option linter.unusedVariables false
set_option linter.unusedSimpArgs false
set_option maxRecDepth 100000
namespace Go.Ch
open Go Go.Ab

def fullI (ats : List (Int × List Attr)) (x : DItem) : DItem := ⟨x.item, x.parent, x.place, findA ats x.item⟩
/-- The map of the items on the way: those that were come to have their attributes. -/
def itM2 (ats : List (Int × List Attr)) (e : DItem × Bool) : Int × MV := (e.1.item, .bx [TI e.1.item, TI e.1.parent, TS e.1.place, if e.2 then TL 2 attrT (findA ats e.1.item) else TL 2 attrT e.1.attrs])
def mkM (its : List DItem) (q : List Nat) : List (DItem × Bool) := its.zipIdx.map fun p => (p.1, decide (p.2 ∈ q))
@[simp] theorem mkM_len (its : List DItem) (q : List Nat) : (mkM its q).length = its.length := by simp [mkM]
theorem mkM_get {its : List DItem} {q : List Nat} {i : Nat} (h : i < its.length) : (mkM its q)[i]? = some (its.getD i default, decide (i ∈ q)) := by
  unfold mkM
  rw [List.getElem?_map, List.getElem?_zipIdx, List.getElem?_eq_getElem h]
  simp [List.getD, List.getElem?_eq_getElem h]
theorem mkM_nil (its : List DItem) (ats : List (Int × List Attr)) : its.map itM = (mkM its []).map (itM2 ats) := by
  apply List.ext_getElem? 
  intro i
  rw [List.getElem?_map, List.getElem?_map]
  by_cases h : i < its.length
  · rw [mkM_get h, List.getElem?_eq_getElem h]
    simp [itM, itM2, List.getD, List.getElem?_eq_getElem h]
  · rw [List.getElem?_eq_none (by omega), List.getElem?_eq_none (by rw [mkM_len]; omega)]; rfl
theorem mkM_entry {its : List DItem} {ats : List (Int × List Attr)} {q : List Nat} {i : Nat} (h : i < (mkM its []).length) (hq : i ∉ q) :
    (mkM its q).length = (mkM its []).length ∧ (q ++ [i]).getLast? = some i ∧ ((mkM its q).map (itM2 ats))[i]? = some ((its.getD i default).item, .bx [TI (its.getD i default).item, TI (its.getD i default).parent, TS (its.getD i default).place, TL 2 attrT (its.getD i default).attrs]) := by
  rw [mkM_len] at h
  refine ⟨by simp, by simp, ?_⟩
  rw [List.getElem?_map, mkM_get h]
  simp [itM2, hq]
theorem mkM_look {its : List DItem} {ats : List (Int × List Attr)} {q : List Nat} {i : Nat} (hu : UniqI DItem.item its) (h : i < its.length) :
    lookE ((mkM its q).map (itM2 ats)) (its.getD i default).item = some (itM2 ats (its.getD i default, decide (i ∈ q))).2 := by
  rw [lookE_map (f := itM2 ats) (key := fun e => e.1.item) (fun _ => rfl)]
  have hu2 : UniqI (fun e : DItem × Bool => e.1.item) (mkM its q) := by
    have : (mkM its q).map (fun e => e.1.item) = its.map DItem.item := by
      apply List.ext_getElem?
      intro j
      rw [List.getElem?_map, List.getElem?_map]
      by_cases hj : j < its.length
      · rw [mkM_get hj, List.getElem?_eq_getElem hj]; simp [List.getD, List.getElem?_eq_getElem hj]
      · rw [List.getElem?_eq_none (by rw [mkM_len]; omega), List.getElem?_eq_none (by omega)]; rfl
    unfold UniqI at *
    rw [this]; exact hu
  have := find_uniq (x := (its.getD i default, decide (i ∈ q))) hu2 (List.mem_of_getElem? (mkM_get h))
  rw [this]; rfl
theorem mkM_put {its : List DItem} {ats : List (Int × List Attr)} {q : List Nat} {i : Nat} (hu : UniqI DItem.item its) (h : i < its.length) :
    putE ((mkM its q).map (itM2 ats)) (its.getD i default).item (.bx [TI (its.getD i default).item, TI (its.getD i default).parent, TS (its.getD i default).place, TL 2 attrT (findA ats (its.getD i default).item)]) = (mkM its (q ++ [i])).map (itM2 ats) := by
  have hp : ∀ (l : List (Int × MV)) (k : Int) (v : MV) (i : Nat), (l.map (·.1)).Nodup → (l[i]?).map (·.1) = some k → putE l k v = l.set i (k, v) := by
    intro l
    induction l with
    | nil => intro k v i _ h; simp at h
    | cons e l ih =>
      intro k v i hn h
      simp only [List.map_cons, List.nodup_cons] at hn
      cases i with
      | zero => simp at h; simp [putE, h]
      | succ i =>
        simp at h
        have hne : ¬ e.1 = k := fun he => by
          obtain ⟨a, ha⟩ := h
          exact hn.1 (List.mem_map.2 ⟨(k, a), List.mem_of_getElem? ha, he.symm⟩)
        have := ih k v i hn.2 (by obtain ⟨a, ha⟩ := h; rw [ha]; rfl)
        simp only [putE, List.set_cons_succ]
        split
        · rename_i he; exact absurd (by first | exact he | exact he.symm) hne
        · rw [this]
  rw [hp _ _ _ i ?_ ?_]
  · apply List.ext_getElem?
    intro j
    rw [List.getElem?_set]
    split
    · rename_i hj; subst hj
      rw [if_pos (by simp; exact h), List.getElem?_map, mkM_get h]
      simp [itM2]
    · rename_i hj
      rw [List.getElem?_map, List.getElem?_map]
      by_cases hj' : j < its.length
      · rw [mkM_get hj', mkM_get hj']
        simp [Ne.symm hj]
      · rw [List.getElem?_eq_none (by rw [mkM_len]; omega), List.getElem?_eq_none (by rw [mkM_len]; omega)]
  · have : ((mkM its q).map (itM2 ats)).map (·.1) = its.map DItem.item := by
      apply List.ext_getElem?
      intro j
      rw [List.getElem?_map, List.getElem?_map, List.getElem?_map]
      by_cases hj : j < its.length
      · rw [mkM_get hj, List.getElem?_eq_getElem hj]; simp [itM2, List.getD, List.getElem?_eq_getElem hj]
      · rw [List.getElem?_eq_none (by rw [mkM_len]; omega), List.getElem?_eq_none (by omega)]; rfl
    rw [this]; exact hu
  · rw [List.getElem?_map, mkM_get h]; rfl

/-! ### The lists of the parents -/
def addKid (K : List KE) (x : DItem) : List KE := putK Prod.fst K (x.parent, false, ((findK K x.parent).map fun e => e.2.2).getD [] ++ [x])
def kidsL (l : List DItem) : List KE := l.foldl addKid []
structure KInv (l : List DItem) (K : List KE) : Prop where
  uq : UniqI Prod.fst K
  has : ∀ e ∈ K, e.2.1 = false ∧ e.2.2 = l.filter fun x => x.parent == e.1
  no : ∀ d, (∀ e ∈ K, e.1 ≠ d) → (l.filter fun x => x.parent == d) = []
theorem KInv.add {l : List DItem} {K : List KE} (h : KInv l K) (x : DItem) : KInv (l ++ [x]) (addKid K x) := by
  have hf : ((findK K x.parent).map fun e => e.2.2).getD [] = l.filter fun y => y.parent == x.parent := by
    cases hk : findK K x.parent with
    | none => exact (h.no _ (find_not hk)).symm
    | some e =>
      obtain ⟨h1, h2⟩ := find_at hk
      have := (h.has e h1).2
      rw [h2] at this
      exact this
  unfold addKid
  rw [hf]
  refine ⟨h.uq.putK, fun e he => ?_, fun d hd => ?_⟩
  · by_cases hx : e = (x.parent, false, (l.filter fun y => y.parent == x.parent) ++ [x])
    · subst hx; exact ⟨rfl, by simp⟩
    · obtain ⟨h1, h2⟩ := putK_other h.uq he hx
      obtain ⟨h3, h4⟩ := h.has e h1
      refine ⟨h3, ?_⟩
      rw [List.filter_append, ← h4]
      have : ([x].filter fun y => y.parent == e.1) = [] := by
        simp only [List.filter_cons, List.filter_nil]
        rw [if_neg (by simpa using fun hh => h2 hh.symm)]
      rw [this, List.append_nil]
  · rw [List.filter_append, h.no d (fun e he hh => ?_)]
    · have : x.parent ≠ d := hd _ putK_self
      simp [this]
    · by_cases hx : e.1 = x.parent
      · exact hd _ putK_self (by rw [← hh, hx])
      · exact hd e (putK_old he hx) hh
theorem kidsL_inv (l : List DItem) : KInv l (kidsL l) := by
  have : ∀ (l l0 : List DItem) (K : List KE), KInv l0 K → KInv (l0 ++ l) (l.foldl addKid K) := by
    intro l
    induction l with
    | nil => intro l0 K h; simpa using h
    | cons x l ih =>
      intro l0 K h
      have := ih (l0 ++ [x]) _ (h.add x)
      simpa using this
  have := this l [] [] ⟨List.nodup_nil, (fun e he => by cases he), fun d _ => rfl⟩
  simpa [kidsL] using this
theorem KInv.ok {its l : List DItem} {K : List KE} (h : KInv l K) (hp : l.Perm its) : KOk its K [] := by
  refine ⟨h.uq, fun e he _ => ⟨(h.has e he).1, by rw [(h.has e he).2]; exact hp.filter _⟩, fun d _ hd => ?_⟩
  have h1 := h.no d hd
  have h2 := hp.filter (fun x => x.parent == d)
  rw [h1] at h2
  exact h2.symm.eq_nil
theorem nodup_len : ∀ (n : Nat) (q : List Nat), q.Nodup → (∀ i ∈ q, i < n) → q.length ≤ n
  | 0, q, _, h => by
    cases q with
    | nil => simp
    | cons a q => have := h a List.mem_cons_self; omega
  | n + 1, q, hq, h => by
    have h1 := nodup_len n (q.filter fun i => decide (i ≠ n)) (hq.sublist List.filter_sublist) (fun i hi => by
      simp only [List.mem_filter, decide_eq_true_eq] at hi
      have := h i hi.1; omega)
    have h2 : q.length ≤ (q.filter fun i => decide (i ≠ n)).length + 1 := by
      clear h1 h
      induction q with
      | nil => simp
      | cons a q ih =>
        simp only [List.nodup_cons] at hq
        simp only [List.filter_cons]
        by_cases ha : a = n
        · subst ha
          have : (q.filter fun i => decide (i ≠ a)) = q := List.filter_eq_self.2 (fun i hi => by simp; intro e; subst e; exact hq.1 hi)
          rw [if_neg (by simp), this, List.length_cons]
          omega
        · have := ih hq.2
          rw [if_pos (by simpa using ha)]
          simp only [List.length_cons]; omega
    omega
theorem seen_perm {its : List DItem} {q : List Nat} (hq : q.Nodup) (h1 : ∀ i ∈ q, i < its.length) (h2 : ∀ i, i < its.length → i ∈ q) : q.Perm (List.range its.length) := by
  rw [List.perm_ext_iff_of_nodup hq List.nodup_range]
  intro i
  rw [List.mem_range]
  exact ⟨h1 i, h2 i⟩
theorem allI_perm {its : List DItem} {q : List Nat} (f : DItem → DItem) (hq : q.Nodup) (h1 : ∀ i ∈ q, i < its.length) (h2 : ∀ i, i < its.length → i ∈ q) :
    (q.map fun i => f (its.getD i default)).Perm (its.map f) := by
  have h := (seen_perm hq h1 h2).map fun i => f (its.getD i default)
  have e : (List.range its.length).map (fun i => f (its.getD i default)) = its.map f := by
    apply List.ext_getElem (by simp)
    intro i hi hj
    simp at hi
    simp [List.getD, List.getElem?_eq_getElem hi]
  rwa [e] at h

/-! ### The items -/
def itsF (l : List DOp) : List DItem := (playP l).1.map (fullI (playP l).2)
def walkF (l : List DOp) : List DItem := walkI (itsF l) ((itsF l).length + 1) 0
def rawI (l : List DOp) : List DItem := walkF l ++ (srtN (itsF l)).filter fun x => decide (x.item ∉ (walkF l).map DItem.item)
theorem playP_ok' {l : List DOp} (hl : ∀ o ∈ l, 0 < o.itm) : PlayOk (playP l) l.length := by
  have := playP_ok hl l.length (Nat.le_refl _)
  rwa [List.take_length] at this
theorem itsF_ok {l : List DOp} (hl : ∀ o ∈ l, 0 < o.itm) : ∃ r, Its (itsF l) r := by
  have h := playP_ok' hl
  obtain ⟨r, hr⟩ := h.rank
  refine ⟨r, fun x hx => ?_, ?_, fun x hx => ?_⟩
  · obtain ⟨y, hy, rfl⟩ := List.mem_map.1 hx
    exact hr y hy
  · have := h.uniq
    unfold UniqI itsF at *
    rw [List.map_map]; exact this
  · obtain ⟨y, hy, rfl⟩ := List.mem_map.1 hx
    exact h.pos y hy
theorem itsF_len {l : List DOp} (hl : ∀ o ∈ l, 0 < o.itm) : (itsF l).length ≤ l.length := by
  have h := playP_ok' hl
  have := h.len
  unfold itsF
  rw [List.length_map]; exact this
theorem walk_sub {its : List DItem} {r : Int → Nat} (h : Its its r) (n : Nat) {p : Int} (hp : 0 ≤ p) : (walkI its n p).length ≤ its.length := by
  have hn := walkI_nodup h n hp
  have hnd : (walkI its n p).Nodup := (List.pairwise_map.1 hn).imp (fun h e => h (congrArg _ e))
  have : ∀ (w its : List DItem), w.Nodup → (∀ x ∈ w, x ∈ its) → w.length ≤ its.length := by
    intro w
    induction w with
    | nil => intro its _ _; simp
    | cons a w ih =>
      intro its hn hs
      simp only [List.nodup_cons] at hn
      have ha := hs a List.mem_cons_self
      obtain ⟨s, t, rfl⟩ := List.append_of_mem ha
      have := ih (s ++ t) hn.2 (fun x hx => by
        have := hs x (List.mem_cons_of_mem _ hx)
        simp only [List.mem_append, List.mem_cons] at this ⊢
        rcases this with h | h | h
        · exact .inl h
        · subst h; exact absurd hx hn.1
        · exact .inr h)
      simp only [List.length_append, List.length_cons] at *; omega
  exact this _ _ hnd (fun x hx => (walkI_below n hx).1)
theorem WIn.start {l : List DOp} (hl : ∀ o ∈ l, 0 < o.itm) (hn : l.length ≤ 1000000000) {r : Int → Nat} (hr : Its (itsF l) r) {K : List KE} (hK : KOk (itsF l) K []) : WIn (itsF l) r ((itsF l).length + 1) 0 K [] 0 := by
  have hlen := itsF_len hl
  have hw := walk_sub hr ((itsF l).length + 1) (Int.le_refl 0)
  refine ⟨hr, Int.le_refl _, by unfold Ch.mu; rw [if_pos rfl]; exact Nat.le_refl _, hK, ?_, by omega, by omega⟩
  rw [List.nil_append, List.nodup_cons]
  refine ⟨fun hm => ?_, walkI_nodup hr _ (Int.le_refl _)⟩
  obtain ⟨y, hy, e⟩ := List.mem_map.1 hm
  have := hr.pos y (walkI_below _ hy).1
  omega
theorem addS_mem {l : List Int} {k : Int} : ∀ {S : List Int}, k ∈ addS S l ↔ k ∈ S ∨ k ∈ l := by
  induction l with
  | nil => intro S; simp [addS]
  | cons a l ih =>
    intro S
    have : addS S (a :: l) = addS (putK id S a) l := rfl
    rw [this, ih, List.mem_cons]
    have hm : k ∈ putK id S a ↔ k = a ∨ k ∈ S := by
      constructor
      · exact putK_mem
      · rintro (rfl | h)
        · exact putK_self
        · by_cases e : k = a
          · subst e; exact putK_self
          · exact putK_old h e
    rw [hm]
    constructor
    · rintro ((h | h) | h)
      · exact .inr (.inl h)
      · exact .inl h
      · exact .inr (.inr h)
    · rintro (h | h | h)
      · exact .inl (.inr h)
      · exact .inl (.inl h)
      · exact .inr h
theorem kidsL_at (l : List DItem) (p : Int) : findK (kidsL l) p = none ∨ ∃ xs, findK (kidsL l) p = some (p, false, xs) ∧ xs.length ≤ l.length := by
  cases hf : findK (kidsL l) p with
  | none => exact .inl rfl
  | some e =>
    obtain ⟨h1, h2⟩ := find_at hf
    obtain ⟨h3, h4⟩ := (kidsL_inv l).has e h1
    obtain ⟨k, b, xs⟩ := e
    simp only at h2 h3 h4
    subst h2 h3
    exact .inr ⟨xs, rfl, by rw [h4]; exact List.length_filter_le _ _⟩
theorem addK_none {K : List KE} {x : DItem} (hf : findK K x.parent = none) : putE (K.map kdM) x.parent (.rw 4 ([x].map ditT)) = (addKid K x).map kdM := by
  unfold addKid; rw [hf]; exact putKD (x.parent, false, [] ++ [x])
theorem addK_some {K : List KE} {x : DItem} {xs : List DItem} (hf : findK K x.parent = some (x.parent, false, xs)) : putE (K.map kdM) x.parent (.rw 4 ((xs ++ [x]).map ditT)) = (addKid K x).map kdM := by
  unfold addKid; rw [hf]; exact putKD (x.parent, false, xs ++ [x])
@[simp] theorem srtN_len (l : List DItem) : (srtN l).length = l.length := (srtO_perm ltN l).length_eq
theorem filt_succ {l : List DItem} {q : DItem → Bool} {i : Nat} (h : i < l.length) : (l.take (i + 1)).filter q = (l.take i).filter q ++ (if q (l.getD i default) then [l.getD i default] else []) := by
  rw [List.take_succ_eq_append_getElem h, List.filter_append]
  simp only [List.getD, List.getElem?_eq_getElem h, Option.getD_some, List.filter_cons, List.filter_nil]
end Go.Ch
end
section
set_option linter.unusedVariables false
set_option linter.unusedSimpArgs false
set_option maxRecDepth 100000
set_option maxHeartbeats 4000000
open Go Go.Proofs Go.Ab
namespace Go.Ch
theorem fc_walk0 (l : List DOp) (hl : ∀ o ∈ l, 0 < o.itm) (hn : l.length ≤ 1000000000) (r : Int → Nat) (hr : Its (itsF l) r) (K : List KE) (hK : KOk (itsF l) K []) : FC Try.prog 32 [VI 0, .ptr 0 0, .ptr 1 0, .ptr 2 0, .ptr 3 0] (app emp [(0, .box [.hdl 4]), (1, .box [.row 5 (([] : List DItem).length)]), (2, .box [.hdl 6]), (3, .box [.fn 32 [.ptr 0 0, .ptr 1 0, .ptr 2 0, .ptr 3 0]]), (4, .mp (List.map kdM K) none), (5, OR 4 ditT ([] : List DItem)), (6, .mp (List.map onM ([] : List Int)) none)]) (.tup []) (app emp [(0, .box [.hdl 4]), (1, .box [.row 5 ((walkF l).length)]), (2, .box [.hdl 6]), (3, .box [.fn 32 [.ptr 0 0, .ptr 1 0, .ptr 2 0, .ptr 3 0]]), (4, .mp (List.map kdM (frzL K (0 :: (walkF l).map DItem.item))) none), (5, OR 4 ditT (walkF l)), (6, .mp (List.map onM (addS [] ((walkF l).map DItem.item))) none)]) :=
  fc_walk (itsF l) r ((itsF l).length + 1) 0 K [] [] [] (WIn.start hl hn hr hK)

theorem fc_rawI (l : List DOp) (hn : l.length ≤ 1000000000) (ho : ∀ o ∈ l, 0 < o.itm) : FC Try.prog 22 [VL 8 dopT l] (app emp []) (VL 4 ditT (rawI l)) (app emp []) := by
 refine .go Try.f22 ?_
 refine .len 0 (fun hl0 => ?_)
 have hok := playP_ok' ho
 obtain ⟨r, hr⟩ := itsF_ok ho
 have hlen := itsF_len ho
 refine .loop (α := List (DItem × Bool) × List KE × List Nat × (List DItem)) [.r [], .r [(1, X (Xc1 16 (fc_play l (by omega) (by assumption)) X0))], .r [], .r [], .le (.me 17 (List.map itM ((playP l).1)) (List.map (itM2 (playP l).2) (mkM (playP l).1 [])) (mkM_nil _ _)), .r [(4, X (Xmg (itM2 (playP l).2) (mkM (playP l).1 []) 17 96))], .le (.nR 5 4)] 105 (fun (M, K, q, a) => ([(3, .ptr 16 0), (4, .ptr 40 0), (5, .row 104 a.length), (20, .hdl 96)], [(16, .box [.hdl 17, .hdl 18]), (17, .mp (List.map (itM2 (playP l).2) M) none), (18, .mp (List.map atM ((playP l).2)) none), (32, .mp (List.map kdM K) none), (40, .box [.hdl 32]), (96, .miter 17 ((mkM (playP l).1 []).length) q), (104, OR 4 ditT a)])) (fun (M, K, q, a) => q.Nodup ∧ (∀ i ∈ q, i < (playP l).1.length) ∧ M = mkM (playP l).1 q ∧ a = q.map (fun i => fullI (playP l).2 ((playP l).1.getD i default)) ∧ K = kidsL a) (fun (M, K, q, a) => (playP l).1.length - q.length) ((mkM (playP l).1 []), [], [], []) ?_ ?_
 ·
  exact ⟨List.nodup_nil, (fun i hi => by cases hi), rfl, rfl, rfl⟩
 rintro ⟨M, K, q, a⟩ I5 ih5
 try dsimp only at I5
 refine .next [] ((mkM (playP l).1 []).length) q (List.map (itM2 (playP l).2) M) (by rw [List.length_map, I5.2.2.1, mkM_len, mkM_len]) (fun i5 hi5 hn5 => ?_) (fun ha5 => ?_)
 ·
  have hi : i5 < (playP l).1.length := by rw [mkM_len] at hi5; exact hi5
  have hnd : (q ++ [i5]).Nodup := by
   rw [List.nodup_append]; refine ⟨I5.1, by simp, fun a ha b hb e => ?_⟩; simp at hb; subst hb e; exact hn5 ha
  have hmem : ∀ j ∈ q ++ [i5], j < (playP l).1.length := fun j hj => by
   rcases List.mem_append.1 hj with h | h
   · exact I5.2.1 j h
   · simp at h; subst h; exact hi
  have hql := nodup_len _ _ hnd hmem
  have hal : a.length ≤ 1000000000 := by
   have h1 := hok.len; rw [List.length_append] at hql; rw [I5.2.2.2.1, List.length_map]; omega
  have hkk : findK K (((playP l).1).getD i5 default).parent = none ∨ ∃ xs, findK K (((playP l).1).getD i5 default).parent = some ((((playP l).1).getD i5 default).parent, false, xs) ∧ xs.length ≤ a.length := by rw [I5.2.2.2.2]; exact kidsL_at _ _
  refine .mid [.t, .r [(0, X (Xe2 (itM2 (playP l).2) M 17 ((mkM (playP l).1 []).length) (q ++ [i5]) i5 ((((playP l).1).getD i5 default).item) [TI (((((playP l).1).getD i5 default)).item), TI (((((playP l).1).getD i5 default)).parent), TS (((((playP l).1).getD i5 default)).place), TL 2 attrT (((((playP l).1).getD i5 default)).attrs)]) (by rw [I5.2.2.1]; exact mkM_entry hi5 hn5))], .r [(6, X (Xmq (List.map atM ((playP l).2)) ((((playP l).1).getD i5 default).item) 2 attrT (findA (playP l).2 (((playP l).1).getD i5 default).item)) lookA)]] ?_
  rcases hkk with hf | ⟨xs, hf, hxl⟩
  ·
   refine .back [.r [(10, X (Xm0 (List.map kdM K) (((((playP l).1).getD i5 default)).parent)) (by rw [lookK, hf]; rfl)), (15, X (rowC ditT [({ item := ((((playP l).1).getD i5 default)).item, parent := ((((playP l).1).getD i5 default)).parent, place := ((((playP l).1).getD i5 default)).place, attrs := (findA (playP l).2 (((playP l).1).getD i5 default).item) } : DItem)] (Xan ditT 361 [({ item := ((((playP l).1).getD i5 default)).item, parent := ((((playP l).1).getD i5 default)).parent, place := ((((playP l).1).getD i5 default)).place, attrs := (findA (playP l).2 (((playP l).1).getD i5 default).item) } : DItem)]))), (16, X (Xmr kdM K (addKid K (fullI (playP l).2 (((playP l).1).getD i5 default))) (((((playP l).1).getD i5 default)).parent) 32 361 4 ([({ item := ((((playP l).1).getD i5 default)).item, parent := ((((playP l).1).getD i5 default)).parent, place := ((((playP l).1).getD i5 default)).place, attrs := (findA (playP l).2 (((playP l).1).getD i5 default).item) } : DItem)].length) ditT [({ item := ((((playP l).1).getD i5 default)).item, parent := ((((playP l).1).getD i5 default)).parent, place := ((((playP l).1).getD i5 default)).place, attrs := (findA (playP l).2 (((playP l).1).getD i5 default).item) } : DItem)]) ⟨rfl, addK_none (x := fullI (playP l).2 (((playP l).1).getD i5 default)) hf⟩)], .r [(5, X (rowC ditT [({ item := ((((playP l).1).getD i5 default)).item, parent := ((((playP l).1).getD i5 default)).parent, place := ((((playP l).1).getD i5 default)).place, attrs := (findA (playP l).2 (((playP l).1).getD i5 default).item) } : DItem)] (Xap 4 ditT 104 a [({ item := ((((playP l).1).getD i5 default)).item, parent := ((((playP l).1).getD i5 default)).parent, place := ((((playP l).1).getD i5 default)).place, attrs := (findA (playP l).2 (((playP l).1).getD i5 default).item) } : DItem)])))], .le (.mput 17 (List.map (itM2 (playP l).2) (mkM (playP l).1 (q ++ [i5]))) [(lookE (List.map (itM2 (playP l).2) M) ((((playP l).1).getD i5 default).item)).isSome = true, putE (List.map (itM2 (playP l).2) M) ((((playP l).1).getD i5 default).item) (.bx [TI (((((playP l).1).getD i5 default)).item), TI (((((playP l).1).getD i5 default)).parent), TS (((((playP l).1).getD i5 default)).place), TL 2 attrT (findA (playP l).2 (((playP l).1).getD i5 default).item)]) = List.map (itM2 (playP l).2) (mkM (playP l).1 (q ++ [i5]))] ⟨(by rw [I5.2.2.1, mkM_look hok.uniq hi]; rfl), (by rw [I5.2.2.1]; exact mkM_put hok.uniq hi), trivial⟩)] [(16, 16), (17, 17), (18, 18), (32, 32), (40, 40), (96, 96), (104, 104)] (ih5 ((mkM (playP l).1 (q ++ [i5])), (addKid K (fullI (playP l).2 (((playP l).1).getD i5 default))), (q ++ [i5]), (a ++ [({ item := ((((playP l).1).getD i5 default)).item, parent := ((((playP l).1).getD i5 default)).parent, place := ((((playP l).1).getD i5 default)).place, attrs := (findA (playP l).2 (((playP l).1).getD i5 default).item) } : DItem)])) ?_ ?_)
   ·
    exact ⟨hnd, hmem, rfl, by rw [List.map_append, ← I5.2.2.2.1]; rfl, by rw [I5.2.2.2.2]; unfold kidsL; rw [List.foldl_append]; rfl⟩
   ·
    (try dsimp only); rw [List.length_append, List.length_singleton] at *; omega
  ·
   refine .back [.r [(10, X (Xm2r (List.map kdM K) (((((playP l).1).getD i5 default)).parent) 32 321 4 ditT xs) (by rw [lookK, hf]; rfl)), (15, X (rowC ditT [({ item := ((((playP l).1).getD i5 default)).item, parent := ((((playP l).1).getD i5 default)).parent, place := ((((playP l).1).getD i5 default)).place, attrs := (findA (playP l).2 (((playP l).1).getD i5 default).item) } : DItem)] (Xap 4 ditT 321 xs [({ item := ((((playP l).1).getD i5 default)).item, parent := ((((playP l).1).getD i5 default)).parent, place := ((((playP l).1).getD i5 default)).place, attrs := (findA (playP l).2 (((playP l).1).getD i5 default).item) } : DItem)]))), (16, X (Xmrh kdM K (addKid K (fullI (playP l).2 (((playP l).1).getD i5 default))) (((((playP l).1).getD i5 default)).parent) (((((playP l).1).getD i5 default)).parent) 32 321 4 ((xs ++ [({ item := ((((playP l).1).getD i5 default)).item, parent := ((((playP l).1).getD i5 default)).parent, place := ((((playP l).1).getD i5 default)).place, attrs := (findA (playP l).2 (((playP l).1).getD i5 default).item) } : DItem)]).length) ditT (xs ++ [({ item := ((((playP l).1).getD i5 default)).item, parent := ((((playP l).1).getD i5 default)).parent, place := ((((playP l).1).getD i5 default)).place, attrs := (findA (playP l).2 (((playP l).1).getD i5 default).item) } : DItem)])) ⟨rfl, rfl, addK_some (x := fullI (playP l).2 (((playP l).1).getD i5 default)) hf⟩)], .r [(5, X (rowC ditT [({ item := ((((playP l).1).getD i5 default)).item, parent := ((((playP l).1).getD i5 default)).parent, place := ((((playP l).1).getD i5 default)).place, attrs := (findA (playP l).2 (((playP l).1).getD i5 default).item) } : DItem)] (Xap 4 ditT 104 a [({ item := ((((playP l).1).getD i5 default)).item, parent := ((((playP l).1).getD i5 default)).parent, place := ((((playP l).1).getD i5 default)).place, attrs := (findA (playP l).2 (((playP l).1).getD i5 default).item) } : DItem)])))], .le (.mput 17 (List.map (itM2 (playP l).2) (mkM (playP l).1 (q ++ [i5]))) [(lookE (List.map (itM2 (playP l).2) M) ((((playP l).1).getD i5 default).item)).isSome = true, putE (List.map (itM2 (playP l).2) M) ((((playP l).1).getD i5 default).item) (.bx [TI (((((playP l).1).getD i5 default)).item), TI (((((playP l).1).getD i5 default)).parent), TS (((((playP l).1).getD i5 default)).place), TL 2 attrT (findA (playP l).2 (((playP l).1).getD i5 default).item)]) = List.map (itM2 (playP l).2) (mkM (playP l).1 (q ++ [i5]))] ⟨(by rw [I5.2.2.1, mkM_look hok.uniq hi]; rfl), (by rw [I5.2.2.1]; exact mkM_put hok.uniq hi), trivial⟩)] [(16, 16), (17, 17), (18, 18), (32, 32), (40, 40), (96, 96), (104, 104)] (ih5 ((mkM (playP l).1 (q ++ [i5])), (addKid K (fullI (playP l).2 (((playP l).1).getD i5 default))), (q ++ [i5]), (a ++ [({ item := ((((playP l).1).getD i5 default)).item, parent := ((((playP l).1).getD i5 default)).parent, place := ((((playP l).1).getD i5 default)).place, attrs := (findA (playP l).2 (((playP l).1).getD i5 default).item) } : DItem)])) ?_ ?_)
   ·
    exact ⟨hnd, hmem, rfl, by rw [List.map_append, ← I5.2.2.2.1]; rfl, by rw [I5.2.2.2.2]; unfold kidsL; rw [List.foldl_append]; rfl⟩
   ·
    (try dsimp only); rw [List.length_append, List.length_singleton] at *; omega
 ·
  have hsl := srtN_len a
  have hwl : (walkF l).length ≤ (itsF l).length := walk_sub hr _ (Int.le_refl 0)
  have hp : a.Perm (itsF l) := by rw [I5.2.2.2.1]; exact allI_perm _ I5.1 I5.2.1 (fun i hi => ha5 i (by rw [mkM_len]; exact hi))
  have hK : KOk (itsF l) K [] := by rw [I5.2.2.2.2]; exact (kidsL_inv a).ok hp
  have hua : UniqI DItem.item a := by (have := hr.uq; unfold UniqI at *; exact (hp.map _).nodup_iff.2 this)
  have hla : a.length ≤ 1000000000 := by rw [hp.length_eq]; omega
  have hsa : srtN a = srtN (itsF l) := srtN_eq hp hua
  refine .loop (α := Nat × (List DItem)) [.f, .r [], .r [], .r [], .r [], .le (.nB 121 0 4), .r [(1, X (Xc3 186 [(0, 40), (1, 121), (2, 137), (3, 153), (4, 32), (5, 177), (6, 129)] (fc_walk0 l ho hn r hr K hK) X0))], .r [(1, X (Xc3 202 [(0, 104)] (fc_sortN a (by first | assumption | omega) (by assumption)) X0))], .r []] 234 (fun (i, o2) => ([(8, .ptr 121 0), (9, .ptr 137 0), (63, .row 104 a.length), (64, VI (a.length : Int)), (65, VI (i : Int))], [(104, OR 4 ditT (srtN a)), (121, .box [.row 177 o2.length]), (129, .mp (List.map onM (addS [] ((walkF l).map DItem.item))) none), (137, .box [.hdl 129]), (177, OR 4 ditT o2)])) (fun (i, o2) => i ≤ a.length ∧ o2 = walkF l ++ ((srtN a).take i).filter fun x => decide (x.item ∉ (walkF l).map DItem.item)) (fun (i, o2) => a.length - i) (0, (walkF l)) ?_ ?_
  ·
   exact ⟨Nat.zero_le _, by simp⟩
  rintro ⟨i, o2⟩ I17 ih17
  try dsimp only at I17
  refine .br [.r []] (decide ((i : Int) < (a.length : Int))) (fun h17 => ?_) (fun h17 => ?_)
  ·
   (try simp only [decide_eq_true_eq, decide_eq_false_iff_not, Int.not_lt, Int.not_le] at h17)
   have hol : o2.length ≤ 1099511627775 := by
    have := List.length_filter_le (fun x => decide (x.item ∉ (walkF l).map DItem.item)) ((srtN a).take i)
    rw [List.length_take] at this; rw [I17.2, List.length_append]; omega
   refine .br [.r [(0, X (Xpn a.length ditT (srtN a) (i : Int))), (1, X (Xen a.length ditT (srtN a) i))], .r [(3, X (Xmt (List.map onM (addS [] ((walkF l).map DItem.item))) ((((srtN a).getD i default)).item) (TB false) (TB (decide (((srtN a).getD i default).item ∈ addS [] ((walkF l).map DItem.item))))) lookS)]] (!(decide (((srtN a).getD i default).item ∈ addS [] ((walkF l).map DItem.item)))) (fun h19 => ?_) (fun h19 => ?_)
   ·
    (try simp only [decide_eq_true_eq, decide_eq_false_iff_not, Int.not_lt, Int.not_le, Bool.not_eq_true', Bool.not_eq_false'] at h19)
    refine .back [.r [(3, X (rowC ditT [(((srtN a).getD i default))] (Xap 4 ditT 177 o2 [(((srtN a).getD i default))])))], .r [(0, X (Xn ((i : Int) + 1)))]] [(104, 104), (121, 121), (129, 129), (137, 137), (177, 177)] (ih17 ((i + 1), (o2 ++ [(((srtN a).getD i default))])) ?_ ?_)
    ·
     simp only [addS_mem, List.not_mem_nil, false_or] at h19
     refine ⟨by omega, ?_⟩
     rw [I17.2, filt_succ (by omega)]
     first
      | rw [if_pos (by simpa using h19), List.append_assoc]
      | rw [if_neg (by simpa using h19), List.append_nil]
    ·
     ((try dsimp only); omega)
   ·
    (try simp only [decide_eq_true_eq, decide_eq_false_iff_not, Int.not_lt, Int.not_le, Bool.not_eq_true', Bool.not_eq_false'] at h19)
    refine .back [.r [(0, X (Xn ((i : Int) + 1)))]] [(104, 104), (121, 121), (129, 129), (137, 137), (177, 177)] (ih17 ((i + 1), o2) ?_ ?_)
    ·
     simp only [addS_mem, List.not_mem_nil, false_or] at h19
     refine ⟨by omega, ?_⟩
     rw [I17.2, filt_succ (by omega)]
     first
      | rw [if_pos (by simpa using h19), List.append_assoc]
      | rw [if_neg (by simpa using h19), List.append_nil]
    ·
     ((try dsimp only); omega)
  ·
   (try simp only [decide_eq_true_eq, decide_eq_false_iff_not, Int.not_lt, Int.not_le] at h17)
   have e1 : ((rawI l) : List DItem) = o2 := by
    have hi : i = (srtN a).length := by omega
    rw [I17.2, hi, List.take_length, hsa]; rfl
   exact .finE [.r [], .le (.fr 2 [(o2.length : Nat) = (List.map ditT o2).length] ⟨lm, trivial⟩)] [] (fun z0 => (VL 4 ditT z0, [])) (o2 : List DItem) ((rawI l) : List DItem) e1
end Go.Ch
end
section
set_option linter.unusedVariables false
set_option linter.unusedSimpArgs false
set_option maxRecDepth 100000
namespace Go.Ch
open Go Go.Ab

def sameI (a b : DItem) : Bool := decide (a.item = b.item) && decide (a.parent = b.parent) && seq a.place b.place && sameL a.attrs b.attrs
def sameIF (a b : List DItem) (i : Nat) : Bool :=
  if i < a.length then if sameI (a.getD i default) (b.getD i default) = true then sameIF a b (i + 1) else false else true
termination_by a.length - i
def sameIs (a b : List DItem) : Bool := decide (a.length = b.length) && sameIF a b 0
def sameOF (a b : List DOp) (i : Nat) : Bool :=
  if i < a.length then if a.getD i default = b.getD i default then sameOF a b (i + 1) else false else true
termination_by a.length - i
def sameOs (a b : List DOp) : Bool := decide (a.length = b.length) && sameOF a b 0
def findX (l : List DItem) (k : Int) (i : Nat) : Int := if i < l.length then if (l.getD i default).item = k then (i : Int) else findX l k (i + 1) else -1
termination_by l.length - i
/-- Items up to the first whose parent is none of those before it. -/
def shownF (l : List DItem) (i : Nat) : Nat := if i < l.length then if (l.getD i default).parent ∈ 0 :: (l.take i).map DItem.item then shownF l (i + 1) else i else l.length
termination_by l.length - i
/-! ### Dice -/
def withinI (x lo hi : Int) : Int := lo + ((x.tmod (hi - lo + 1)) + (hi - lo + 1)).tmod (hi - lo + 1)
theorem tmod_bd (x : Int) {n : Int} (hn : 0 < n) : -n < x.tmod n ∧ x.tmod n < n := by
  have h1 := Int.tmod_lt_of_pos x hn
  have h2 : -n < x.tmod n := by
    rcases Int.le_total 0 x with h | h
    · have := Int.tmod_nonneg n h; omega
    · have h3 := Int.tmod_lt_of_pos (-x) hn
      rw [Int.neg_tmod] at h3; omega
  exact ⟨h2, h1⟩
theorem withinI_bd (x : Int) {lo hi : Int} (h : lo ≤ hi) : lo ≤ withinI x lo hi ∧ withinI x lo hi ≤ hi := by
  unfold withinI
  have h1 := tmod_bd x (n := hi - lo + 1) (by omega)
  have h2 := Int.tmod_nonneg (hi - lo + 1) (a := (x.tmod (hi - lo + 1)) + (hi - lo + 1)) (by omega)
  have h3 := Int.tmod_lt_of_pos ((x.tmod (hi - lo + 1)) + (hi - lo + 1)) (b := hi - lo + 1) (by omega)
  omega
def rollV (raw : List Int) (used n : Int) : Int := if raw.length = 0 then 0 else withinI (IntKind.i64.wrap (raw.getD ((used + 1 - 1) % (raw.length : Int)).toNat default + (used + 1) / (raw.length : Int))) 0 (n - 1)
def rollU (raw : List Int) (used : Int) : Int := if raw.length = 0 then used else used + 1
theorem rollV_bd (raw : List Int) (used : Int) {n : Int} (h : 1 ≤ n) : 0 ≤ rollV raw used n ∧ rollV raw used n < n := by
  unfold rollV
  split
  · omega
  · have := withinI_bd (IntKind.i64.wrap (raw.getD ((used + 1 - 1) % (raw.length : Int)).toNat default + (used + 1) / (raw.length : Int))) (lo := 0) (hi := n - 1) (by omega)
    omega
theorem idx_bd {u : Int} {l : List Int} (h : 0 < l.length) (hu : 0 ≤ u) : 0 ≤ u % (l.length : Int) ∧ u % (l.length : Int) < l.length := by
  exact ⟨Int.emod_nonneg _ (by omega), Int.emod_lt_of_pos _ (by omega)⟩
theorem rollU_one {raw : List Int} (h : 0 < raw.length) (u : Int) : rollU raw u = u + 1 := by unfold rollU; rw [if_neg (by omega)]
theorem seq_refl (s : ByteArray) : seq s s = true := seq_iff.2 rfl
theorem sameA_refl (a : List Attr) : ∀ (d i : Nat), a.length - i = d → sameA a a i = true
  | 0, i, h => by rw [sameA, if_neg (by omega)]
  | d + 1, i, h => by
    rw [sameA, if_pos (by omega), if_pos ⟨rfl, rfl⟩]
    exact sameA_refl a d (i + 1) (by omega)
theorem sameL_refl (a : List Attr) : sameL a a = true := by unfold sameL; simp [sameA_refl a _ 0 rfl]
theorem sameI_refl (a : DItem) : sameI a a = true := by unfold sameI; simp [seq_refl, sameL_refl]
/-! ### Valid operations -/
theorem drawE_iff {l : List DOp} : drawE l 0 = 0 ↔ (∀ i, i < l.length → opE (l.getD i default) = 0) ∧ ∀ i, i + 1 < l.length → ltO (l.getD i default) (l.getD (i + 1) default) := by
  have key : ∀ (d i : Nat), l.length - i = d → (drawE l i = 0 ↔ (∀ j, i ≤ j → j < l.length → opE (l.getD j default) = 0) ∧ ∀ j, i ≤ j → 0 < j → j < l.length → ltO (l.getD (j - 1) default) (l.getD j default)) := by
    intro d
    induction d with
    | zero =>
      intro i h
      rw [drawE, if_neg (by omega)]
      exact ⟨fun _ => ⟨fun j _ _ => by omega, fun j _ _ _ => by omega⟩, fun _ => rfl⟩
    | succ d ih =>
      intro i h
      rw [drawE, if_pos (by omega)]
      by_cases h1 : opE (l.getD i default) = 0
      · rw [if_neg (fun hh => hh h1)]
        by_cases h2 : 0 < i ∧ ¬ ltO (l.getD (i - 1) default) (l.getD i default)
        · rw [if_pos h2]
          exact ⟨fun h => by omega, fun h => absurd (h.2 i (Nat.le_refl _) h2.1 (by omega)) h2.2⟩
        · rw [if_neg h2, ih (i + 1) (by omega)]
          constructor
          · rintro ⟨a, b⟩
            refine ⟨fun j hj hl => ?_, fun j hj h0 hl => ?_⟩
            · by_cases e : j = i
              · rw [e]; exact h1
              · exact a j (by omega) hl
            · by_cases e : j = i
              · subst e; exact Decidable.not_not.1 (fun hh => h2 ⟨h0, hh⟩)
              · exact b j (by omega) h0 hl
          · rintro ⟨a, b⟩
            exact ⟨fun j hj hl => a j (by omega) hl, fun j hj h0 hl => b j (by omega) h0 hl⟩
      · rw [if_pos h1]
        exact ⟨fun h => absurd h h1, fun h => h.1 i (Nat.le_refl _) (by omega)⟩
  rw [key _ 0 rfl]
  constructor
  · rintro ⟨a, b⟩
    exact ⟨fun i hi => a i (Nat.zero_le _) hi, fun i hi => by have := b (i + 1) (Nat.zero_le _) (by omega) hi; simpa using this⟩
  · rintro ⟨a, b⟩
    refine ⟨fun i _ hi => a i hi, fun i _ h0 hi => ?_⟩
    have := b (i - 1) (by omega)
    rwa [show i - 1 + 1 = i by omega] at this
theorem opE_pos {o : DOp} (h : opE o = 0) : 0 < o.itm := by
  unfold opE at h
  split at h
  · cases h
  · split at h
    · cases h
    · rename_i h2; omega
theorem drawE_pos {l : List DOp} (h : drawE l 0 = 0) : ∀ o ∈ l, 0 < o.itm := by
  intro o ho
  obtain ⟨i, hi, rfl⟩ := List.mem_iff_getElem.1 ho
  have := (drawE_iff.1 h).1 i hi
  rw [show l.getD i default = l[i] by simp [List.getD, List.getElem?_eq_getElem hi]] at this
  exact opE_pos this
end Go.Ch
end
section
set_option linter.unusedVariables false
set_option linter.unusedSimpArgs false
set_option maxRecDepth 100000
set_option maxHeartbeats 4000000
open Go Go.Proofs Go.Ab
namespace Go.Ch
theorem fc_items (l : List DOp) (hn : l.length ≤ 1000000000) : FC Try.prog 11 [VL 8 dopT l] (app emp []) (.tup [VL 4 ditT (if drawE l 0 = 0 then rawI l else []), VI (drawE l 0)]) (app emp []) := by
 refine .go Try.f11 ?_
 refine .len 0 (fun hl0 => ?_)
 refine .br [.r [], .r [(1, X (Xc0 (fc_dcheck l) X0))], .r []] ((drawE l 0) != 0) (fun h2 => ?_) (fun h2 => ?_)
 ·
  (try simp only [bne_iff_ne, bne_eq_false_iff_eq, ne_eq] at h2)
  have e1 : ((if drawE l 0 = 0 then rawI l else []) : List DItem) = [] := by
   (repeat' split) <;> first | rfl | omega
  exact .finE [.r [], .le (.nL 2 4)] [] (fun z0 => (.tup [VL 4 ditT z0, VI (drawE l 0)], [])) ([] : List DItem) ((if drawE l 0 = 0 then rawI l else []) : List DItem) e1
 ·
  (try simp only [bne_iff_ne, bne_eq_false_iff_eq, ne_eq] at h2)
  have ho := drawE_pos h2
  have e2 : ((if drawE l 0 = 0 then rawI l else []) : List DItem) = (rawI l) := by
   (repeat' split) <;> first | rfl | omega
  have e3 : ((drawE l 0) : Int) = 0 := by
   (repeat' split) <;> first | rfl | omega
  exact .finE [.r [(1, X (Xc1 64 (fc_rawI l (by omega) (by assumption)) X0))]] [] (fun (z0, z1) => (.tup [VL 4 ditT z0, VI z1], [])) (((rawI l) : List DItem), (0 : Int)) (((if drawE l 0 = 0 then rawI l else []) : List DItem), ((drawE l 0) : Int)) (pr e2 e3)

theorem fc_findX (l : List DItem) (k : Int) : FC Try.prog 29 [VL 4 ditT l, VI k] (app emp []) (VI (findX l k 0)) (app emp []) := by
 refine .go Try.f29 ?_
 refine .len 0 (fun hl0 => ?_)
 refine .loop (α := Nat) [.r [], .r [(1, X (Xl ditT l))]] 32 (fun i => ([(0, VL 4 ditT l), (1, VI k), (7, VI (l.length : Int)), (8, VI (i : Int))], [])) (fun i => i ≤ l.length ∧ findX l k 0 = findX l k i) (fun i => l.length - i) (0 : Nat) ?_ ?_
 ·
  exact ⟨by omega, rfl⟩
 rintro i I2 ih2
 try dsimp only at I2
 refine .br [.r []] (decide ((i : Int) < (l.length : Int))) (fun h2 => ?_) (fun h2 => ?_)
 ·
  (try simp only [decide_eq_true_eq, decide_eq_false_iff_not, Int.not_lt, Int.not_le] at h2)
  refine .br [.r [], .r [(2, X (Xi ditT l (i : Int)))]] ((((l.getD i default)).item) == k) (fun h4 => ?_) (fun h4 => ?_)
  ·
   (try simp only [beq_iff_eq, beq_eq_false_iff_ne, ne_eq] at h4)
   have e1 : ((findX l k 0) : Int) = (i : Int) := by
    rw [I2.2, findX, if_pos (by omega), if_pos (by simpa using h4)]
   exact .finE [.r []] [] (fun z0 => (VI z0, [])) ((i : Int) : Int) ((findX l k 0) : Int) e1
  ·
   (try simp only [beq_iff_eq, beq_eq_false_iff_ne, ne_eq] at h4)
   refine .back [.r [(0, X (Xn ((i : Int) + 1)))]] [] (ih2 ((i + 1) : Nat) ?_ ?_)
   ·
    refine ⟨by omega, ?_⟩; rw [I2.2, findX, if_pos (by omega), if_neg (by simpa using h4)]
   ·
    ((try dsimp only); omega)
 ·
  (try simp only [decide_eq_true_eq, decide_eq_false_iff_not, Int.not_lt, Int.not_le] at h2)
  have e2 : ((findX l k 0) : Int) = -1 := by
   rw [I2.2, findX, if_neg (by omega)]
  exact .finE [.r []] [] (fun z0 => (VI z0, [])) (-1 : Int) ((findX l k 0) : Int) e2

theorem fc_sameI (a b : DItem) : FC Try.prog 23 [.t (ditT a), .t (ditT b)] (app emp []) (VB (sameI a b)) (app emp []) := by
 refine .go Try.f23 ?_
 have e1 : ((sameI a b) : Bool) = ((((a.item == b.item) && (a.parent == b.parent)) && seq a.place b.place) && (sameL a.attrs b.attrs)) := by
  rfl
 exact .finE [.r [], .r [(7, Xv 1 (a.item == b.item) X0), (9, Xv 1 (a.item == b.item) X0), (10, Xv 2 (a.item == b.item) X0), (11, X (Xk (a.item == b.item))), (14, Xv 1 ((a.item == b.item) && (a.parent == b.parent)) X0), (16, Xv 1 ((a.item == b.item) && (a.parent == b.parent)) X0), (17, Xv 2 ((a.item == b.item) && (a.parent == b.parent)) X0), (18, X (Xk ((a.item == b.item) && (a.parent == b.parent)))), (21, Xv 1 (((a.item == b.item) && (a.parent == b.parent)) && seq a.place b.place) X0), (23, Xv 1 (((a.item == b.item) && (a.parent == b.parent)) && seq a.place b.place) X0), (24, Xv 2 (((a.item == b.item) && (a.parent == b.parent)) && seq a.place b.place) (Xc0 (fc_sameAttrs a.attrs b.attrs) X0)), (25, X (Xk (((a.item == b.item) && (a.parent == b.parent)) && seq a.place b.place)))]] [] (fun z0 => (VB z0, [])) (((((a.item == b.item) && (a.parent == b.parent)) && seq a.place b.place) && (sameL a.attrs b.attrs)) : Bool) ((sameI a b) : Bool) e1

theorem fc_within (x lo hi : Int) (hl : -1000000000000 ≤ lo ∧ lo ≤ hi ∧ hi ≤ 1000000000000) : FC Try.prog 10 [VI x, VI lo, VI hi] (app emp []) (VI (withinI x lo hi)) (app emp []) := by
 refine .go Try.f10 ?_
 have e1 : ((withinI x lo hi) : Int) = (lo + (((x.tmod ((hi - lo) + 1)) + ((hi - lo) + 1)).tmod ((hi - lo) + 1))) := by
  rfl
 exact .finE [.r [], .r [(2, X (Xn (hi - lo))), (3, X (Xn ((hi - lo) + 1)))], .r [(3, X (Xc ((((hi - lo) + 1) : Int) ≠ 0))), (5, X (Xn ((x.tmod ((hi - lo) + 1)) + ((hi - lo) + 1))) (by have h1 := tmod_bd x (n := hi - lo + 1) (by omega); omega)), (7, X (Xc ((((hi - lo) + 1) : Int) ≠ 0))), (8, X (Xn (lo + (((x.tmod ((hi - lo) + 1)) + ((hi - lo) + 1)).tmod ((hi - lo) + 1)))) (by have h1 := withinI_bd x (lo := lo) (hi := hi) (by omega); unfold withinI at h1; omega))]] [] (fun z0 => (VI z0, [])) ((lo + (((x.tmod ((hi - lo) + 1)) + ((hi - lo) + 1)).tmod ((hi - lo) + 1))) : Int) ((withinI x lo hi) : Int) e1

theorem fc_roll (raw : List Int) (used n : Int) (hu : 0 ≤ used ∧ used ≤ 1000000000000) (hn : 1 ≤ n ∧ n ≤ 1000000000000) (hll : raw.length ≤ 9223372036854775807) : FC Try.prog 14 [.ptr 0 0, VI n] (app emp [(0, .box [VL 1 intT raw, VI used])]) (VI (rollV raw used n)) (app emp [(0, .box [VL 1 intT raw, VI (rollU raw used)])]) := by
 refine .go Try.f14 ?_
 refine .br [.r [], .r [(4, X (Xl intT raw))]] ((raw.length : Int) == 0) (fun h1 => ?_) (fun h1 => ?_)
 ·
  (try simp only [beq_iff_eq, beq_eq_false_iff_ne, ne_eq] at h1)
  have e1 : ((rollU raw used) : Int) = used := by
   unfold rollU; ((repeat' split) <;> first | rfl | omega | (simp_all; done) | (simp_all; omega))
  have e2 : ((rollV raw used n) : Int) = 0 := by
   unfold rollV; ((repeat' split) <;> first | rfl | omega | (simp_all; done) | (simp_all; omega))
  exact .finE [.r []] [(0, 0)] (fun (z0, z1) => (VI z1, [(0, .box [VL 1 intT raw, VI z0])])) ((used : Int), (0 : Int)) (((rollU raw used) : Int), ((rollV raw used n) : Int)) (pr e1 e2)
 ·
  (try simp only [beq_iff_eq, beq_eq_false_iff_ne, ne_eq] at h1)
  have hr := idx_bd (l := raw) (u := used + 1 - 1) (by omega) (by omega)
  have e3 : ((rollU raw used) : Int) = (used + 1) := by
   unfold rollU; ((repeat' split) <;> first | rfl | omega | (simp_all; done) | (simp_all; omega))
  have e4 : ((rollV raw used n) : Int) = (withinI (IntKind.i64.wrap ((raw.getD (Int.toNat (((used + 1) - 1) % (raw.length : Int))) default) + ((used + 1) / (raw.length : Int)))) 0 (n - 1)) := by
   unfold rollV; ((repeat' split) <;> first | rfl | omega | (simp_all; done) | (simp_all; omega))
  exact .finE [.r [(4, X (Xn (used + 1)))], .r [(8, X (Xn ((used + 1) - 1))), (13, X (Xl intT raw)), (14, X (Xrem ((used + 1) - 1) (raw.length : Int))), (15, X (Xi intT raw (((used + 1) - 1) % (raw.length : Int)))), (25, X (Xl intT raw)), (26, X (Xquo (used + 1) (raw.length : Int)) (by refine ⟨by omega, by omega, by omega⟩)), (29, X (Xn (n - 1))), (30, X (Xc0 (fc_within (IntKind.i64.wrap ((raw.getD (Int.toNat (((used + 1) - 1) % (raw.length : Int))) default) + ((used + 1) / (raw.length : Int)))) 0 (n - 1) (by omega)) X0))]] [(0, 0)] (fun (z0, z1) => (VI z1, [(0, .box [VL 1 intT raw, VI z0])])) (((used + 1) : Int), ((withinI (IntKind.i64.wrap ((raw.getD (Int.toNat (((used + 1) - 1) % (raw.length : Int))) default) + ((used + 1) / (raw.length : Int)))) 0 (n - 1)) : Int)) (((rollU raw used) : Int), ((rollV raw used n) : Int)) (pr e3 e4)
end Go.Ch
end
section
set_option linter.unusedVariables false
set_option linter.unusedSimpArgs false
set_option maxRecDepth 100000
namespace Go.Ch
open Go Go.Ab

def chS (n : UInt8) : ByteArray := ⟨#[n]⟩
def pkN (v : Int) : ByteArray := [chS 120, chS 121].getD v.toNat default
def pkV (v : Int) : ByteArray := [mt, chS 49, chS 50].getD v.toNat default
def pkP (v : Int) : ByteArray := [chS 98, chS 99, chS 100].getD v.toNat default
/-- Operation i, from five rolls. -/
def paintO (raw : List Int) (site : Int) (i : Nat) : DOp :=
  if rollV raw (5 * i + 2) 3 = 0 then ⟨1 + i * 2 + rollV raw (5 * i) 2, site, 1, 1 + rollV raw (5 * i + 1) 6, 0, mt, pkN (rollV raw (5 * i + 3) 2), pkV (rollV raw (5 * i + 4) 3)⟩
  else ⟨1 + i * 2 + rollV raw (5 * i) 2, site, 0, 1 + rollV raw (5 * i + 1) 6, rollV raw (5 * i + 3) 8 - 1, pkP (rollV raw (5 * i + 4) 3), mt, mt⟩
def paintL (raw : List Int) (site : Int) (n : Nat) : List DOp := (List.range n).map (paintO raw site)
def paintI (raw : List Int) (site : Int) : List DOp := paintL raw site (min raw.length 12)
theorem paintL_succ (raw : List Int) (site : Int) (n : Nat) : paintL raw site (n + 1) = paintL raw site n ++ [paintO raw site n] := by
  unfold paintL; rw [List.range_succ, List.map_append]; rfl
@[simp] theorem paintL_len (raw : List Int) (site : Int) (n : Nat) : (paintL raw site n).length = n := by simp [paintL]
theorem paintI_len (raw : List Int) (site : Int) : (paintI raw site).length ≤ 12 := by unfold paintI; rw [paintL_len]; omega
end Go.Ch
end
