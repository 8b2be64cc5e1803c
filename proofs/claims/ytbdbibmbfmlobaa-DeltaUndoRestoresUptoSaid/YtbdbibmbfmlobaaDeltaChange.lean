/- The changes that the laws draw. -/
import Derived.Test.YtbdbibmbfmlobaaDeltaAct
import Derived.Test.YtbdbibmbfmlobaaChAxis
set_option linter.unusedVariables false
set_option linter.unusedSimpArgs false
namespace Go.Ch
open Go Go.Ab

def onB : ByteArray := { data := #[111, 110] }
def boldB : ByteArray := { data := #[98, 111, 108, 100] }
def insE (tag : ByteArray) (i j : Nat) : Elem := ⟨65 + ((i : Int) + (j : Int)) % 26, 0, [⟨tag, { data := #[111, 110] }⟩]⟩
def insL (tag : ByteArray) (i k : Nat) : List Elem := (List.range k).map (insE tag i)
def setL (tag : ByteArray) (v : Int) : List Attr :=
  if v = 1 then [⟨{ data := #[98, 111, 108, 100] }, { data := #[111, 110] }⟩]
  else if v = 2 then [⟨{ data := #[98, 111, 108, 100] }, { data := #[] }⟩]
  else if v = 3 then [⟨{ data := #[98, 111, 108, 100] }, tag⟩, ⟨tag, { data := #[111, 110] }⟩] else []
def insK (raw : List Int) (used : Int) : Nat := (max 0 (rollV raw used 8 - 5)).toNat
def chgF (raw : List Int) (tag : ByteArray) (n : Nat) : Nat → Int → Act → Act
  | 0, used, x => ⟨x.ins ++ [insL tag n (insK raw used)], x.cut, x.set⟩
  | k + 1, used, x => chgF raw tag n k (rollU raw (rollU raw (rollU raw used)))
      ⟨x.ins ++ [insL tag (n - (k + 1)) (insK raw used)], x.cut ++ [rollV raw (rollU raw (rollU raw used)) 8 == 0], x.set ++ [setL tag (rollV raw (rollU raw used) 8)]⟩
def chgX (raw : List Int) (tag : ByteArray) (n : Nat) : Act := chgF raw tag n n 0 ⟨[], [], []⟩
def TagOk (tag : ByteArray) : Prop := (∀ v, VG true (setL tag v)) ∧ VG false [⟨tag, { data := #[111, 110] }⟩]
theorem rollU_le (raw : List Int) (used : Int) : used ≤ rollU raw used ∧ rollU raw used ≤ used + 1 := by unfold rollU; split <;> omega
structure ActOk (x : Act) : Prop where
  ins : ∀ e ∈ x.ins, e.length ≤ 2 ∧ ∀ y ∈ e, elemE y = 0 ∧ y.attrs.length ≤ 100
  set : ∀ c ∈ x.set, VG true c ∧ c.length ≤ 100
theorem insE_ok {tag : ByteArray} (h : TagOk tag) (i j : Nat) : elemE (insE tag i j) = 0 := by
  have h1 := Int.emod_nonneg ((i : Int) + (j : Int)) (b := 26) (by decide)
  have h2 := Int.emod_lt_of_pos ((i : Int) + (j : Int)) (b := 26) (by decide)
  refine (elemE_c ?_ (.inr ?_) (.inl rfl)).trans (chk_iff.2 h.2)
  · show ¬ (65 + ((i : Int) + (j : Int)) % 26 = 0 ↔ (0 : Int) = 0)
    intro q; have := q.2 rfl; omega
  · show CharP (65 + ((i : Int) + (j : Int)) % 26)
    unfold CharP; omega
theorem insL_ok {tag : ByteArray} (h : TagOk tag) (i : Nat) {k : Nat} (hk : k ≤ 2) : (insL tag i k).length ≤ 2 ∧ ∀ y ∈ insL tag i k, elemE y = 0 ∧ y.attrs.length ≤ 100 := by
  refine ⟨by simp [insL]; exact hk, fun y hy => ?_⟩
  obtain ⟨j, _, rfl⟩ := List.mem_map.1 hy
  exact ⟨insE_ok h i j, by simp [insE]⟩
theorem setL_len (tag : ByteArray) (v : Int) : (setL tag v).length ≤ 100 := by
  unfold setL; repeat' split
  all_goals simp
theorem insK_le (raw : List Int) (used : Int) : insK raw used ≤ 2 := by
  have := rollV_bd raw used (n := 8) (by decide)
  unfold insK; omega
theorem chgF_ok {raw : List Int} {tag : ByteArray} (h : TagOk tag) (n : Nat) : ∀ (k : Nat) (used : Int) (x : Act), k ≤ n → ActOk x → x.ins.length = n - k → x.cut.length = n - k → x.set.length = n - k →
    ActOk (chgF raw tag n k used x) ∧ (chgF raw tag n k used x).ins.length = n + 1 ∧ (chgF raw tag n k used x).cut.length = n ∧ (chgF raw tag n k used x).set.length = n
  | 0, used, x, hk, ho, h1, h2, h3 => by
    simp only [chgF]
    refine ⟨⟨fun e he => ?_, ho.set⟩, by simp [h1], by omega, by omega⟩
    rcases List.mem_append.1 he with he | he
    · exact ho.ins e he
    · rw [List.mem_singleton] at he; subst he; exact insL_ok h _ (insK_le raw used)
  | k + 1, used, x, hk, ho, h1, h2, h3 => by
    simp only [chgF]
    refine chgF_ok h n k _ _ (by omega) ⟨fun e he => ?_, fun c hc => ?_⟩ (by simp [h1]; omega) (by simp [h2]; omega) (by simp [h3]; omega)
    · rcases List.mem_append.1 he with he | he
      · exact ho.ins e he
      · rw [List.mem_singleton] at he; subst he; exact insL_ok h _ (insK_le raw used)
    · rcases List.mem_append.1 hc with hc | hc
      · exact ho.set c hc
      · rw [List.mem_singleton] at hc; subst hc; exact ⟨h.1 _, setL_len _ _⟩
theorem chgX_ok {raw : List Int} {tag : ByteArray} (h : TagOk tag) (n : Nat) : ActOk (chgX raw tag n) ∧ (chgX raw tag n).ins.length = n + 1 ∧ (chgX raw tag n).cut.length = n ∧ (chgX raw tag n).set.length = n :=
  chgF_ok h n n 0 _ (Nat.le_refl _) ⟨fun e he => (by cases he), fun c hc => (by cases hc)⟩ (by simp) (by simp) (by simp)
def UnitS : DU → Prop
  | .K c => VG true c ∧ c.length ≤ 100
  | .A e => elemE e = 0 ∧ e.attrs.length ≤ 100
  | .C => True
theorem UnitS.ok {u : DU} (h : UnitS u) : UnitOk u := by
  cases u with
  | K c => exact ⟨h.1, by have := h.2; omega⟩
  | A e => exact ⟨h.1, by have := h.2; omega⟩
  | C => trivial
theorem getD_mem' {α : Type} [Inhabited α] {l : List α} {k : Nat} (h : k < l.length) : l.getD k default ∈ l := by
  rw [show l.getD k default = l[k] by simp [List.getD, List.getElem?_eq_getElem h]]
  exact List.getElem_mem h
theorem actR_facts {x : Act} (h : ActOk x) {n : Nat} (h1 : x.ins.length = n + 1) (h2 : x.cut.length = n) (h3 : x.set.length = n) : ∀ (m i : Nat), n - i = m → i ≤ n →
    (∀ u ∈ actR x i, UnitS u) ∧ oldN (actR x i) = n - i ∧ newN (actR x i) ≤ 3 * (n - i) + 2
  | 0, i, hm, hi => by
    obtain ⟨q1, q2⟩ := h.ins _ (getD_mem' (l := x.ins) (k := i) (by omega))
    rw [actR, if_neg (by omega)]
    refine ⟨fun u hu => ?_, ?_, ?_⟩
    · obtain ⟨e, he, rfl⟩ := List.mem_map.1 hu; exact q2 e he
    · rw [(lens_As _).1]; omega
    · rw [(lens_As _).2]; omega
  | m + 1, i, hm, hi => by
    obtain ⟨q1, q2⟩ := h.ins _ (getD_mem' (l := x.ins) (k := i) (by omega))
    have q3 := h.set _ (getD_mem' (l := x.set) (k := i) (by omega))
    obtain ⟨r1, r2, r3⟩ := actR_facts h h1 h2 h3 m (i + 1) (by omega) (by omega)
    rw [actR, if_pos (by omega)]
    refine ⟨fun u hu => ?_, ?_, ?_⟩
    · rcases List.mem_append.1 hu with hu | hu
      · obtain ⟨e, he, rfl⟩ := List.mem_map.1 hu; exact q2 e he
      · rcases List.mem_cons.1 hu with rfl | hu
        · split
          · trivial
          · exact q3
        · exact r1 u hu
    · rw [oldN_app, (lens_As _).1]
      split <;> simp only [oldN] <;> omega
    · rw [newN_app, (lens_As _).2]
      split <;> simp only [newN] <;> omega
theorem dsw_mem {u v : List DU} (h : DSw u v) : ∀ x, x ∈ u ↔ x ∈ v := by
  induction h with
  | refl u => exact fun x => Iff.rfl
  | cons y _ ih => intro x; simp [ih x]
  | swap e u => intro x; simp only [List.mem_cons]; constructor <;> rintro (h | h | h) <;> simp [h]
  | symm _ ih => exact fun x => (ih x).symm
  | trans _ _ a b => exact fun x => (a x).trans (b x)
theorem exD_mem {l : List DStep} {s : DStep} (h : s ∈ l) {u : DU} (hu : u ∈ exS s) : u ∈ exD l := by
  induction l with
  | nil => cases h
  | cons t l ih =>
    simp only [exD, List.mem_append]
    rcases List.mem_cons.1 h with rfl | h
    · exact .inl hu
    · exact .inr (ih h)
theorem newD_mem : ∀ {l : List DStep}, (∀ s ∈ l, DOk s) → ∀ s ∈ l, nS s ≤ newD l
  | [], _, s, h => by cases h
  | t :: l, h, s, hs => by
    have h1 := oS_nn (h t (by simp))
    have h2 := sums_nn (l := l) (fun t ht => h t (by simp [ht]))
    simp only [newD]
    rcases List.mem_cons.1 hs with rfl | hs
    · omega
    · have := newD_mem (l := l) (fun t ht => h t (by simp [ht])) s hs; omega
theorem dn_of {l : List DStep} {us : List DU} (hv : DValid l) (hs : DSw (exD l) us) (hu : ∀ u ∈ us, UnitS u) : DN 100000000000 l := by
  intro s hs'
  have ho := hv.1.all s hs'
  have hn := newD_mem hv.1.all s hs'
  have v2 := hv.2.2
  have hm := fun u hu' => hu u ((dsw_mem hs u).1 (exD_mem hs' (u := u) hu'))
  unfold exS at hm
  unfold nS szD at hn
  rcases ho with ⟨k, n, a, e, q⟩ | ⟨k, a, b, n1, n2, v⟩
  · rw [if_neg (by omega), if_pos k] at hn
    rw [if_pos k] at hm
    refine ⟨by omega, by rw [a]; simp, fun x hx => ?_⟩
    have := (hm (.A x) (List.mem_map.2 ⟨x, hx, rfl⟩)).2
    omega
  · rw [if_neg (by omega)] at hm
    refine ⟨by rw [a]; simp, ?_, fun x hx => by rw [a] at hx; cases hx⟩
    by_cases k2 : s.kind = 2
    · rw [b k2]; simp
    · rw [if_neg k2] at hm
      have := (hm (.K s.attrs) (by rw [List.mem_replicate]; exact ⟨by omega, rfl⟩)).2
      omega
theorem change_ok {raw : List Int} {tag : ByteArray} (h : TagOk tag) {n : Nat} (hn : n ≤ 100000000) :
    (chgX raw tag n).ins.length = (chgX raw tag n).cut.length + 1 ∧ (chgX raw tag n).set.length = (chgX raw tag n).cut.length ∧ (∀ u ∈ actR (chgX raw tag n) 0, UnitOk u) ∧ (actR (chgX raw tag n) 0).length ≤ 8589934592 ∧
    DValid (doneD (actR (chgX raw tag n) 0)) ∧ oldD (doneD (actR (chgX raw tag n) 0)) = n ∧ DN 100000000000 (doneD (actR (chgX raw tag n) 0)) ∧ newD (doneD (actR (chgX raw tag n) 0)) ≤ 3 * n + 2 ∧
    DSw (exD (doneD (actR (chgX raw tag n) 0))) (actR (chgX raw tag n) 0) := by
  obtain ⟨a1, a2, a3, a4⟩ := chgX_ok (raw := raw) h n
  obtain ⟨f1, f2, f3⟩ := actR_facts a1 a2 a3 a4 n 0 (by omega) (by omega)
  have hl := len_sum (actR (chgX raw tag n) 0)
  have ho : ∀ u ∈ actR (chgX raw tag n) 0, UnitOk u := fun u hu => (f1 u hu).ok
  obtain ⟨d1, d2, d3, d4⟩ := doneD_ok ho (by omega) (by omega)
  exact ⟨by omega, by omega, ho, by omega, d1, by omega, dn_of d1 d2 f1, by omega, d2⟩
theorem tag_x : TagOk { data := #[120] } := by
  refine ⟨fun v => ?_, chk_iff.1 (by decide +kernel)⟩
  unfold setL
  split
  · exact chk_iff.1 (by decide +kernel)
  · split
    · exact chk_iff.1 (by decide +kernel)
    · split
      · exact chk_iff.1 (by decide +kernel)
      · exact vg_nil
end Go.Ch
