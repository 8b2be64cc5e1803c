/- Plain law of lists of attributes: sorted lists as functions from names to values. -/
import Derived.Test.YtbdbibmbfmlobaaAbGen
set_option linter.unusedVariables false
set_option linter.unusedSimpArgs false
namespace Go.Ch
open Go Go.Ab

structure Attr where
  name : ByteArray
  val : ByteArray
abbrev mt : ByteArray := { data := #[] }
instance : Inhabited Attr := ⟨⟨mt, mt⟩⟩
def attrT (a : Attr) : Tree := .agg [.sc (.string a.name), .sc (.string a.val)]

/-! ### The order of strings -/
theorem byt_ext {a b : ByteArray} (h : a.toList = b.toList) : a = b := by
  rw [ByteArray.toList_eq, ByteArray.toList_eq] at h
  obtain ⟨⟨x⟩⟩ := a
  obtain ⟨⟨y⟩⟩ := b
  simpa using h
theorem seq_iff {a b : ByteArray} : seq a b = true ↔ a = b := by
  unfold seq
  rw [beq_iff_eq]
  exact ⟨byt_ext, fun h => by rw [h]⟩
theorem seq_no {a b : ByteArray} : seq a b = false ↔ a ≠ b := by
  rw [← Bool.not_eq_true, seq_iff]
theorem bl_irr : ∀ x : List UInt8, Op.bytesLess x x = false
  | [] => rfl
  | a :: x => by simp [Op.bytesLess, bl_irr x]
theorem bl_trans : ∀ x y z : List UInt8, Op.bytesLess x y = true → Op.bytesLess y z = true → Op.bytesLess x z = true
  | _, _, [], _, h => by cases ‹List UInt8› <;> simp [Op.bytesLess] at h
  | [], _, _ :: _, _, _ => rfl
  | a :: x, [], _ :: _, h, _ => by simp [Op.bytesLess] at h
  | a :: x, b :: y, c :: z, h1, h2 => by
    simp only [Op.bytesLess, Bool.or_eq_true, decide_eq_true_eq, Bool.and_eq_true, beq_iff_eq, UInt8.lt_iff_toNat_lt, ← UInt8.toNat_inj] at h1 h2 ⊢
    rcases h1 with h1 | ⟨h1, h1'⟩
    · rcases h2 with h2 | ⟨h2, h2'⟩ <;> (left; omega)
    · rcases h2 with h2 | ⟨h2, h2'⟩
      · left; omega
      · right; exact ⟨by omega, bl_trans x y z h1' h2'⟩
theorem bl_tri : ∀ x y : List UInt8, Op.bytesLess x y = false → Op.bytesLess y x = false → x = y
  | [], [], _, _ => rfl
  | [], _ :: _, h, _ => by simp [Op.bytesLess] at h
  | _ :: _, [], _, h => by simp [Op.bytesLess] at h
  | a :: x, b :: y, h1, h2 => by
    simp only [Op.bytesLess, Bool.or_eq_false_iff, decide_eq_false_iff_not, Bool.and_eq_false_iff, beq_eq_false_iff_ne, UInt8.lt_iff_toNat_lt, ne_eq, ← UInt8.toNat_inj] at h1 h2
    have e : a.toNat = b.toNat := by omega
    have h1' : Op.bytesLess x y = false := by rcases h1.2 with h | h; exact absurd e h; exact h
    have h2' : Op.bytesLess y x = false := by rcases h2.2 with h | h; exact absurd e.symm h; exact h
    rw [UInt8.toNat_inj.1 e, bl_tri x y h1' h2']
theorem slt_irr (a : ByteArray) : slt a a = false := bl_irr _
theorem slt_trans {a b c : ByteArray} (h : slt a b = true) (k : slt b c = true) : slt a c = true := bl_trans _ _ _ h k
theorem slt_tri {a b : ByteArray} (h : slt a b = false) (k : slt b a = false) : a = b := byt_ext (bl_tri _ _ h k)
theorem slt_ne {a b : ByteArray} (h : slt a b = true) : a ≠ b := fun e => by subst e; rw [slt_irr] at h; cases h
theorem slt_asymm {a b : ByteArray} (h : slt a b = true) : slt b a = false := by
  cases k : slt b a with
  | false => rfl
  | true => have := slt_trans h k; rw [slt_irr] at this; cases this
/-! ### Lists in order -/
/-- All names are greater than n. -/
def Above (n : ByteArray) (l : List Attr) : Prop := ∀ a ∈ l, slt n a.name = true
def Sorted : List Attr → Prop
  | [] => True
  | a :: l => Above a.name l ∧ Sorted l
def look : List Attr → ByteArray → Option ByteArray
  | [], _ => none
  | a :: l, n => if a.name = n then some a.val else look l n
theorem look_above {l : List Attr} {n : ByteArray} (h : ∀ a ∈ l, a.name ≠ n) : look l n = none := by
  induction l with
  | nil => rfl
  | cons a l ih => rw [look, if_neg (h a (by simp))]; exact ih (fun b hb => h b (by simp [hb]))
theorem look_mem {l : List Attr} {n v : ByteArray} (h : look l n = some v) : (⟨n, v⟩ : Attr) ∈ l := by
  induction l with
  | nil => cases h
  | cons a l ih =>
    rw [look] at h
    split at h
    · rename_i hn
      cases h
      subst hn
      exact List.mem_cons_self
    · exact List.mem_cons_of_mem _ (ih h)
theorem look_of_mem {l : List Attr} (hs : Sorted l) {a : Attr} (h : a ∈ l) : look l a.name = some a.val := by
  induction l with
  | nil => cases h
  | cons b l ih =>
    rw [look]
    rcases List.mem_cons.1 h with rfl | h
    · rw [if_pos rfl]
    · rw [if_neg (slt_ne (hs.1 a h))]; exact ih hs.2 h
theorem sorted_ext : ∀ {a b : List Attr}, Sorted a → Sorted b → (∀ n, look a n = look b n) → a = b
  | [], [], _, _, _ => rfl
  | [], y :: b, _, _, h => by have := h y.name; simp [look] at this
  | x :: a, [], _, _, h => by have := h x.name; simp [look] at this
  | x :: a, y :: b, ha, hb, h => by
    have hxy : x.name = y.name := by
      refine slt_tri ?_ ?_
      · cases k : slt x.name y.name with
        | false => rfl
        | true =>
          have h1 := h x.name
          rw [look, if_pos rfl, look, if_neg (fun e => slt_ne k e.symm), look_above (fun z hz e => slt_ne (slt_trans k (hb.1 z hz)) e.symm)] at h1
          cases h1
      · cases k : slt y.name x.name with
        | false => rfl
        | true =>
          have h1 := h y.name
          rw [look, if_neg (fun e => slt_ne k e.symm), look_above (fun z hz e => slt_ne (slt_trans k (ha.1 z hz)) e.symm), look, if_pos rfl] at h1
          cases h1
    have hv : x.val = y.val := by
      have h1 := h x.name
      rw [look, if_pos rfl, look, if_pos hxy.symm] at h1
      exact Option.some.inj h1
    have e : x = y := by cases x; cases y; simp_all
    subst e
    rw [sorted_ext ha.2 hb.2 (fun n => ?_)]
    by_cases hn : x.name = n
    · subst hn
      rw [look_above (fun z hz e => slt_ne (ha.1 z hz) e.symm), look_above (fun z hz e => slt_ne (hb.1 z hz) e.symm)]
    · have h1 := h n
      rwa [look, if_neg hn, look, if_neg hn] at h1

/-! ### Two lists at once -/
def bothL : List Attr → List Attr → List (Attr × Attr)
  | [], [] => []
  | [], y :: b => (default, y) :: bothL [] b
  | x :: a, [] => (x, default) :: bothL a []
  | x :: a, y :: b =>
    if slt x.name y.name = true then (x, default) :: bothL a (y :: b)
    else if slt y.name x.name = true then (default, y) :: bothL (x :: a) b
    else (x, y) :: bothL a b
termination_by a b => a.length + b.length
theorem bothL_len : ∀ a b : List Attr, (bothL a b).length ≤ a.length + b.length := by
  intro a b
  induction a, b using bothL.induct with
  | case1 => simp [bothL]
  | case2 y b ih => simp only [bothL, List.length_cons] at ih ⊢; omega
  | case3 x a ih => simp only [bothL, List.length_cons] at ih ⊢; omega
  | case4 x a y b h ih => rw [bothL, if_pos h]; simp only [List.length_cons] at ih ⊢; omega
  | case5 x a y b h k ih => rw [bothL, if_neg h, if_pos k]; simp only [List.length_cons] at ih ⊢; omega
  | case6 x a y b h k ih => rw [bothL, if_neg h, if_neg k]; simp only [List.length_cons] at ih ⊢; omega

def Named (l : List Attr) : Prop := ∀ a ∈ l, a.name ≠ mt
/-- What a visitor may make of a pair: nothing, or an attribute of that name. -/
def Fair (g : Attr → Attr → Option Attr) : Prop := ∀ x y z, g x y = some z → z.name = if y.name = mt then x.name else y.name
def fm (g : Attr → Attr → Option Attr) (a b : List Attr) : List Attr := (bothL a b).filterMap fun p => g p.1 p.2
/-- What the visitor makes of what both lists have under a name. -/
def at2 (g : Attr → Attr → Option Attr) (n : ByteArray) : Option ByteArray → Option ByteArray → Option ByteArray
  | none, none => none
  | some v, none => (g ⟨n, v⟩ default).map (·.val)
  | none, some w => (g default ⟨n, w⟩).map (·.val)
  | some v, some w => (g ⟨n, v⟩ ⟨n, w⟩).map (·.val)

theorem fm_cons {g : Attr → Attr → Option Attr} {x y : Attr} {l : List (Attr × Attr)} : ((x, y) :: l).filterMap (fun p => g p.1 p.2) = (g x y).toList ++ l.filterMap (fun p => g p.1 p.2) := by
  rw [List.filterMap_cons]
  cases g x y <;> rfl
theorem look_opt {o : Option Attr} {l : List Attr} {k n : ByteArray} (h : ∀ z, o = some z → z.name = k) : look (o.toList ++ l) n = if k = n then (o.map (·.val)).or (look l n) else look l n := by
  cases o with
  | none => simp
  | some z =>
    have := h z rfl
    subst this
    simp [look]
theorem above_opt {o : Option Attr} {l : List Attr} {k n : ByteArray} (h : ∀ z, o = some z → z.name = k) (hn : slt n k = true) (hl : Above n l) : Above n (o.toList ++ l) := by
  intro a ha
  rcases List.mem_append.1 ha with ha | ha
  · rw [h a (by simpa using ha)]; exact hn
  · exact hl a ha
theorem sorted_opt {o : Option Attr} {l : List Attr} {k : ByteArray} (h : ∀ z, o = some z → z.name = k) (hl : Above k l) (hs : Sorted l) : Sorted (o.toList ++ l) := by
  cases o with
  | none => exact hs
  | some z => exact ⟨by rw [h z rfl]; exact hl, hs⟩

theorem look_hd {a : Attr} {l : List Attr} : look (a :: l) a.name = some a.val := by rw [look, if_pos rfl]
theorem look_tl {a : Attr} {l : List Attr} {n : ByteArray} (h : a.name ≠ n) : look (a :: l) n = look l n := by rw [look, if_neg h]
theorem fm_main {g : Attr → Attr → Option Attr} (hg : Fair g) : ∀ (a b : List Attr), Sorted a → Sorted b → Named a → Named b →
    Sorted (fm g a b) ∧ (∀ n, Above n a → Above n b → Above n (fm g a b)) ∧ ∀ n, look (fm g a b) n = at2 g n (look a n) (look b n) := by
  intro a b
  induction a, b using bothL.induct with
  | case1 => intro _ _ _ _; exact ⟨by simp [fm, bothL, Sorted], fun n _ _ => by simp [fm, bothL, Above], fun n => by simp [fm, bothL, look, at2]⟩
  | case2 y b ih =>
    intro _ hb _ nb
    obtain ⟨i1, i2, i3⟩ := ih trivial hb.2 (fun _ h => by cases h) (fun a h => nb a (by simp [h]))
    have hk : ∀ z, g default y = some z → z.name = y.name := fun z hz => by rw [hg _ _ z hz, if_neg (nb y (by simp))]
    have e : fm g [] (y :: b) = (g default y).toList ++ fm g [] b := by unfold fm; rw [bothL, fm_cons]
    rw [e]
    refine ⟨sorted_opt hk (i2 _ (fun _ h => by cases h) hb.1) i1, fun n h1 h2 => above_opt hk (h2 y (by simp)) (i2 n h1 (fun a h => h2 a (by simp [h]))), fun n => ?_⟩
    rw [look_opt hk, i3]
    simp only [look]
    by_cases h : y.name = n
    · subst h
      rw [look_above (l := b) (fun z hz e => slt_ne (hb.1 z hz) e.symm)]
      simp [at2]
    · simp only [if_neg h]
  | case3 x a ih =>
    intro ha _ na _
    obtain ⟨i1, i2, i3⟩ := ih ha.2 trivial (fun a h => na a (by simp [h])) (fun _ h => by cases h)
    have hk : ∀ z, g x default = some z → z.name = x.name := fun z hz => by rw [hg _ _ z hz]; exact if_pos rfl
    have e : fm g (x :: a) [] = (g x default).toList ++ fm g a [] := by unfold fm; rw [bothL, fm_cons]
    rw [e]
    refine ⟨sorted_opt hk (i2 _ ha.1 (fun _ h => by cases h)) i1, fun n h1 h2 => above_opt hk (h1 x (by simp)) (i2 n (fun a h => h1 a (by simp [h])) h2), fun n => ?_⟩
    rw [look_opt hk, i3]
    simp only [look]
    by_cases h : x.name = n
    · subst h
      rw [look_above (l := a) (fun z hz e => slt_ne (ha.1 z hz) e.symm)]
      simp [at2]
    · simp only [if_neg h]
  | case4 x a y b h ih =>
    intro ha hb na nb
    obtain ⟨i1, i2, i3⟩ := ih ha.2 hb (fun a h => na a (by simp [h])) nb
    have hk : ∀ z, g x default = some z → z.name = x.name := fun z hz => by rw [hg _ _ z hz]; exact if_pos rfl
    have e : fm g (x :: a) (y :: b) = (g x default).toList ++ fm g a (y :: b) := by unfold fm; rw [bothL, if_pos h, fm_cons]
    have hxb : Above x.name (y :: b) := fun z hz => by
      rcases List.mem_cons.1 hz with rfl | hz
      · exact h
      · exact slt_trans h (hb.1 z hz)
    rw [e]
    refine ⟨sorted_opt hk (i2 _ ha.1 hxb) i1, fun n h1 h2 => above_opt hk (h1 x (by simp)) (i2 n (fun a h => h1 a (by simp [h])) h2), fun n => ?_⟩
    rw [look_opt hk, i3]
    by_cases hn : x.name = n
    · subst hn
      rw [look_above (l := y :: b) (fun z hz e => slt_ne (hxb z hz) e.symm), look_above (l := a) (fun z hz e => slt_ne (ha.1 z hz) e.symm), look_hd]
      simp [at2]
    · rw [if_neg hn, look_tl hn]
  | case5 x a y b h k ih =>
    intro ha hb na nb
    obtain ⟨i1, i2, i3⟩ := ih ha hb.2 na (fun a h => nb a (by simp [h]))
    have hk : ∀ z, g default y = some z → z.name = y.name := fun z hz => by rw [hg _ _ z hz, if_neg (nb y (by simp))]
    have e : fm g (x :: a) (y :: b) = (g default y).toList ++ fm g (x :: a) b := by unfold fm; rw [bothL, if_neg h, if_pos k, fm_cons]
    have hya : Above y.name (x :: a) := fun z hz => by
      rcases List.mem_cons.1 hz with rfl | hz
      · exact k
      · exact slt_trans k (ha.1 z hz)
    rw [e]
    refine ⟨sorted_opt hk (i2 _ hya hb.1) i1, fun n h1 h2 => above_opt hk (h2 y (by simp)) (i2 n h1 (fun a h => h2 a (by simp [h]))), fun n => ?_⟩
    rw [look_opt hk, i3]
    by_cases hn : y.name = n
    · subst hn
      rw [look_above (l := x :: a) (fun z hz e => slt_ne (hya z hz) e.symm), look_above (l := b) (fun z hz e => slt_ne (hb.1 z hz) e.symm), look_hd]
      simp [at2]
    · rw [if_neg hn, look_tl (a := y) hn]
  | case6 x a y b h k ih =>
    intro ha hb na nb
    obtain ⟨i1, i2, i3⟩ := ih ha.2 hb.2 (fun a h => na a (by simp [h])) (fun a h => nb a (by simp [h]))
    have hxy : x.name = y.name := slt_tri (by simpa using h) (by simpa using k)
    have hk : ∀ z, g x y = some z → z.name = x.name := fun z hz => by rw [hg _ _ z hz, if_neg (nb y (by simp)), hxy]
    have e : fm g (x :: a) (y :: b) = (g x y).toList ++ fm g a b := by unfold fm; rw [bothL, if_neg h, if_neg k, fm_cons]
    rw [e]
    refine ⟨sorted_opt hk (i2 _ ha.1 (by rw [hxy]; exact hb.1)) i1, fun n h1 h2 => above_opt hk (h1 x (by simp)) (i2 n (fun a h => h1 a (by simp [h])) (fun a h => h2 a (by simp [h]))), fun n => ?_⟩
    rw [look_opt hk, i3]
    by_cases hn : x.name = n
    · subst hn
      have ey : (⟨x.name, y.val⟩ : Attr) = y := by rw [hxy]
      have hl : look (y :: b) x.name = some y.val := by rw [hxy]; exact look_hd
      rw [hl, look_hd, look_above (l := a) (fun z hz e => slt_ne (ha.1 z hz) e.symm), look_above (l := b) (fun z hz e => slt_ne (hb.1 z hz) (by rw [← hxy, e]))]
      simp [at2, ey]
    · rw [if_neg hn, look_tl hn, look_tl (a := y) (by rw [← hxy]; exact hn)]


/-! ### The four visitors -/
theorem dflt : (default : Attr) = ⟨mt, mt⟩ := rfl
def rawG (x y : Attr) : Option Attr := if y.name = mt then some x else if y.val = mt then none else some y
def chgG (x y : Attr) : Option Attr := if y.name = mt then some ⟨x.name, mt⟩ else if x.name = y.name ∧ x.val = y.val then none else some y
def botG (x y : Attr) : Option Attr := some (if y.name = mt then x else y)
def wioG (x y : Attr) : Option Attr := if y.name = mt then some x else none
theorem fair_raw : Fair rawG := by intro x y z h; unfold rawG at h; (repeat' split at h) <;> simp_all
theorem fair_chg : Fair chgG := by intro x y z h; unfold chgG at h; (repeat' split at h) <;> simp_all <;> subst h <;> simp_all
section
variable (NP VP : ByteArray → Prop)
/-- A value that may stand under a name: in a list (e = false) or in a change (e = true). -/
def Q (e : Bool) (n v : ByteArray) : Prop := NP n ∧ (VP v ∨ (e = true ∧ v = mt))
def V (e : Bool) (l : List Attr) : Prop := Sorted l ∧ ∀ a ∈ l, Q NP VP e a.name a.val
end
section
variable {NP VP : ByteArray → Prop} (hN : ¬ NP mt) (hV : ¬ VP mt)
include hN
theorem V.named {e : Bool} {l : List Attr} (h : V NP VP e l) : Named l := fun a ha e' => hN (by have := (h.2 a ha).1; rwa [e'] at this)
omit hN in
theorem V.look {e : Bool} {l : List Attr} (h : V NP VP e l) {n v : ByteArray} (hl : look l n = some v) : Q NP VP e n v := h.2 ⟨n, v⟩ (look_mem hl)
theorem fm_look {e1 e2 : Bool} {g : Attr → Attr → Option Attr} (hg : Fair g) {a b : List Attr} (ha : V NP VP e1 a) (hb : V NP VP e2 b) (n : ByteArray) :
    Go.Ch.look (fm g a b) n = at2 g n (Go.Ch.look a n) (Go.Ch.look b n) := (fm_main hg a b ha.1 hb.1 (ha.named hN) (hb.named hN)).2.2 n
theorem fm_V {e1 e2 e3 : Bool} {g : Attr → Attr → Option Attr} (hg : Fair g) {a b : List Attr} (ha : V NP VP e1 a) (hb : V NP VP e2 b)
    (h1 : ∀ n v z, n ≠ mt → Q NP VP e1 n v → at2 g n (some v) none = some z → Q NP VP e3 n z)
    (h2 : ∀ n v z, n ≠ mt → Q NP VP e2 n v → at2 g n none (some v) = some z → Q NP VP e3 n z)
    (h3 : ∀ n v w z, n ≠ mt → Q NP VP e1 n v → Q NP VP e2 n w → at2 g n (some v) (some w) = some z → Q NP VP e3 n z) : V NP VP e3 (fm g a b) := by
  have hm := fm_main hg a b ha.1 hb.1 (ha.named hN) (hb.named hN)
  refine ⟨hm.1, fun z hz => ?_⟩
  have hl := look_of_mem hm.1 hz
  rw [hm.2.2] at hl
  have hq : ∀ {e v}, Q NP VP e z.name v → z.name ≠ mt := fun q e => hN (e ▸ q.1)
  cases h4 : Go.Ch.look a z.name with
  | none =>
    cases h5 : Go.Ch.look b z.name with
    | none => rw [h4, h5] at hl; cases hl
    | some w => rw [h4, h5] at hl; exact h2 _ _ _ (hq (hb.look h5)) (hb.look h5) hl
  | some v =>
    cases h5 : Go.Ch.look b z.name with
    | none => rw [h4, h5] at hl; exact h1 _ _ _ (hq (ha.look h4)) (ha.look h4) hl
    | some w => rw [h4, h5] at hl; exact h3 _ _ _ _ (hq (ha.look h4)) (ha.look h4) (hb.look h5) hl
theorem q_ne {e : Bool} {n v : ByteArray} (h : Q NP VP e n v) : n ≠ mt := fun e => hN (e ▸ h.1)
theorem raw_V {l c : List Attr} (hl : V NP VP false l) (hc : V NP VP true c) : V NP VP false (fm rawG l c) := by
  refine fm_V hN fair_raw hl hc (fun n v z hn q h => ?_) (fun n v z hn q h => ?_) (fun n v w z hn q r h => ?_)
  · simp [at2, rawG, dflt] at h; subst h; exact q
  · simp [at2, rawG, dflt, hn] at h; obtain ⟨_, ⟨h1, rfl⟩, rfl⟩ := h; simp_all [Q]
  · simp [at2, rawG, dflt, hn] at h; obtain ⟨_, ⟨h1, rfl⟩, rfl⟩ := h; simp_all [Q]
theorem chg_V {a b : List Attr} (ha : V NP VP false a) (hb : V NP VP false b) : V NP VP true (fm chgG a b) := by
  refine fm_V hN fair_chg ha hb (fun n v z hn q h => ?_) (fun n v z hn q h => ?_) (fun n v w z hn q r h => ?_)
  · simp [at2, chgG, dflt] at h; subst h; exact ⟨q.1, .inr ⟨rfl, rfl⟩⟩
  · simp [at2, chgG, dflt, hn] at h; obtain ⟨_, ⟨h1, rfl⟩, rfl⟩ := h; simp_all [Q]
  · simp [at2, chgG, dflt, hn] at h; obtain ⟨_, ⟨h1, rfl⟩, rfl⟩ := h; simp_all [Q]
include hV
omit hN in
theorem q_val {n v : ByteArray} (h : Q NP VP false n v) : v ≠ mt := fun e => by
  rcases h.2 with h | h
  · exact hV (e ▸ h)
  · cases h.1
/-- A change and its Undo leave the list. -/
theorem undo_back {l c : List Attr} (hl : V NP VP false l) (hc : V NP VP true c) : fm rawG (fm rawG l c) (fm chgG (fm rawG l c) l) = l := by
  have hm := raw_V hN hl hc
  have hu := chg_V hN hm hl
  refine sorted_ext (raw_V hN hm hu).1 hl.1 (fun n => ?_)
  rw [fm_look hN fair_raw hm hu, fm_look hN fair_chg hm hl, fm_look hN fair_raw hl hc]
  cases h1 : look l n with
  | none =>
    cases h2 : look c n with
    | none => rfl
    | some w =>
      have hn := q_ne hN (hc.look h2)
      by_cases hw : w = mt
      · subst hw; simp [at2, rawG, chgG, dflt, hn]
      · simp [at2, rawG, chgG, dflt, hn, hw]
  | some v =>
    have hn := q_ne hN (hl.look h1)
    have hv := q_val hV (hl.look h1)
    cases h2 : look c n with
    | none => simp [at2, rawG, chgG, dflt, hn, hv]
    | some w =>
      by_cases hw : w = mt
      · subst hw; simp [at2, rawG, chgG, dflt, hn, hv, Ne.symm hn]
      · by_cases hwv : w = v
        · subst hwv; simp [at2, rawG, chgG, dflt, hn, hv]
        · simp [at2, rawG, chgG, dflt, hn, hv, hw, hwv]
omit hV in
omit hV in
end

end Go.Ch
