/- Parts of the proof: ChAxis, DeltaChange, ChDelta7, DeltaLaws, DeltaJoin, DeltaPair, ChDelta9, ChDelta10, DeltaRead, DeltaRuns, DeltaJD, DeltaJF, DeltaPD, DeltaTidy, DeltaTB, DeltaTL, AttrPut, AfterPlain, TidyU, DiffPlain, DiffPath, MergePlain, MergeDef. -/
import Derived.Test.YtbdbibmbfmlobaaM1
import Derived.Test.YtbdbibmbfmlobaaM2
import Derived.Test.YtbdbibmbfmlobaaM3
import Derived.Test.YtbdbibmbfmlobaaM4
import Derived.Test.YtbdbibmbfmlobaaM5
import Derived.Test.YtbdbibmbfmlobaaProg
section
set_option linter.unusedVariables false
set_option linter.unusedSimpArgs false
set_option maxRecDepth 100000
set_option maxHeartbeats 4000000
open Go Go.Proofs Go.Ab
namespace Go.Ch
def intT (z : Int) : Tree := .sc (.int .i64 z)
def withinI (x lo hi : Int) : Int := lo + ((x.tmod (hi - lo + 1)) + (hi - lo + 1)).tmod (hi - lo + 1)
theorem tmod_bd (x : Int) {n : Int} (hn : 0 < n) : -n < x.tmod n ∧ x.tmod n < n := by
  have h1 := Int.tmod_lt_of_pos x hn
  have h2 : -n < x.tmod n := by
    rcases Int.le_total 0 x with h | h
    · have := Int.tmod_nonneg n h; omega
    · have h3 := Int.tmod_lt_of_pos (-x) hn
      rw [Int.neg_tmod] at h3; omega
  exact ⟨h2, h1⟩
theorem withinI_bd (x : Int) {lo hi : Int} (h : lo ≤ hi) : lo ≤ withinI x lo hi ∧ withinI x lo hi ≤ hi := by
  unfold withinI
  have h1 := tmod_bd x (n := hi - lo + 1) (by omega)
  have h2 := Int.tmod_nonneg (hi - lo + 1) (a := (x.tmod (hi - lo + 1)) + (hi - lo + 1)) (by omega)
  have h3 := Int.tmod_lt_of_pos ((x.tmod (hi - lo + 1)) + (hi - lo + 1)) (b := hi - lo + 1) (by omega)
  omega
def rollV (raw : List Int) (used n : Int) : Int := if raw.length = 0 then 0 else withinI (IntKind.i64.wrap (raw.getD ((used + 1 - 1) % (raw.length : Int)).toNat default + (used + 1) / (raw.length : Int))) 0 (n - 1)
def rollU (raw : List Int) (used : Int) : Int := if raw.length = 0 then used else used + 1
theorem rollV_bd (raw : List Int) (used : Int) {n : Int} (h : 1 ≤ n) : 0 ≤ rollV raw used n ∧ rollV raw used n < n := by
  unfold rollV
  split
  · omega
  · have := withinI_bd (IntKind.i64.wrap (raw.getD ((used + 1 - 1) % (raw.length : Int)).toNat default + (used + 1) / (raw.length : Int))) (lo := 0) (hi := n - 1) (by omega)
    omega
theorem idx_bd {u : Int} {l : List Int} (h : 0 < l.length) (hu : 0 ≤ u) : 0 ≤ u % (l.length : Int) ∧ u % (l.length : Int) < l.length := by
  exact ⟨Int.emod_nonneg _ (by omega), Int.emod_lt_of_pos _ (by omega)⟩

theorem fc_within (x lo hi : Int) (hl : -1000000000000 ≤ lo ∧ lo ≤ hi ∧ hi ≤ 1000000000000) : FC Try.prog 37 [VI x, VI lo, VI hi] (app emp []) (VI (withinI x lo hi)) (app emp []) := by
 refine .go Try.f37 ?_
 have e1 : ((withinI x lo hi) : Int) = (lo + (((x.tmod ((hi - lo) + 1)) + ((hi - lo) + 1)).tmod ((hi - lo) + 1))) := by
  rfl
 exact .finE [.r [], .r [(2, X (Xn (hi - lo))), (3, X (Xn ((hi - lo) + 1)))], .r [(3, X (Xc ((((hi - lo) + 1) : Int) ≠ 0))), (5, X (Xn ((x.tmod ((hi - lo) + 1)) + ((hi - lo) + 1))) (by have h1 := tmod_bd x (n := hi - lo + 1) (by omega); omega)), (7, X (Xc ((((hi - lo) + 1) : Int) ≠ 0))), (8, X (Xn (lo + (((x.tmod ((hi - lo) + 1)) + ((hi - lo) + 1)).tmod ((hi - lo) + 1)))) (by have h1 := withinI_bd x (lo := lo) (hi := hi) (by omega); unfold withinI at h1; omega))]] [] (fun z0 => (VI z0, [])) ((lo + (((x.tmod ((hi - lo) + 1)) + ((hi - lo) + 1)).tmod ((hi - lo) + 1))) : Int) ((withinI x lo hi) : Int) e1

theorem fc_roll (raw : List Int) (used n : Int) (hu : 0 ≤ used ∧ used ≤ 1000000000000) (hn : 1 ≤ n ∧ n ≤ 1000000000000) (hll : raw.length ≤ 9223372036854775807) : FC Try.prog 87 [.ptr 0 0, VI n] (app emp [(0, .box [VL 1 intT raw, VI used])]) (VI (rollV raw used n)) (app emp [(0, .box [VL 1 intT raw, VI (rollU raw used)])]) := by
 refine .go Try.f87 ?_
 refine .br [.r [], .r [(4, X (Xl intT raw))]] ((raw.length : Int) == 0) (fun h1 => ?_) (fun h1 => ?_)
 ·
  (try simp only [beq_iff_eq, beq_eq_false_iff_ne, ne_eq] at h1)
  have e1 : ((rollU raw used) : Int) = used := by
   unfold rollU; ((repeat' split) <;> first | rfl | omega | (simp_all; done) | (simp_all; omega))
  have e2 : ((rollV raw used n) : Int) = 0 := by
   unfold rollV; ((repeat' split) <;> first | rfl | omega | (simp_all; done) | (simp_all; omega))
  exact .finE [.r []] [(0, 0)] (fun (z0, z1) => (VI z1, [(0, .box [VL 1 intT raw, VI z0])])) ((used : Int), (0 : Int)) (((rollU raw used) : Int), ((rollV raw used n) : Int)) (pr e1 e2)
 ·
  (try simp only [beq_iff_eq, beq_eq_false_iff_ne, ne_eq] at h1)
  have hr := idx_bd (l := raw) (u := used + 1 - 1) (by omega) (by omega)
  have e3 : ((rollU raw used) : Int) = (used + 1) := by
   unfold rollU; ((repeat' split) <;> first | rfl | omega | (simp_all; done) | (simp_all; omega))
  have e4 : ((rollV raw used n) : Int) = (withinI (IntKind.i64.wrap ((raw.getD (Int.toNat (((used + 1) - 1) % (raw.length : Int))) default) + ((used + 1) / (raw.length : Int)))) 0 (n - 1)) := by
   unfold rollV; ((repeat' split) <;> first | rfl | omega | (simp_all; done) | (simp_all; omega))
  exact .finE [.r [(4, X (Xn (used + 1)))], .r [(8, X (Xn ((used + 1) - 1))), (13, X (Xl intT raw)), (14, X (Xrem ((used + 1) - 1) (raw.length : Int))), (15, X (Xi intT raw (((used + 1) - 1) % (raw.length : Int)))), (25, X (Xl intT raw)), (26, X (Xquo (used + 1) (raw.length : Int)) (by refine ⟨by omega, by omega, by omega⟩)), (29, X (Xn (n - 1))), (30, X (Xc0 (fc_within (IntKind.i64.wrap ((raw.getD (Int.toNat (((used + 1) - 1) % (raw.length : Int))) default) + ((used + 1) / (raw.length : Int)))) 0 (n - 1) (by omega)) X0))]] [(0, 0)] (fun (z0, z1) => (VI z1, [(0, .box [VL 1 intT raw, VI z0])])) (((used + 1) : Int), ((withinI (IntKind.i64.wrap ((raw.getD (Int.toNat (((used + 1) - 1) % (raw.length : Int))) default) + ((used + 1) / (raw.length : Int)))) 0 (n - 1)) : Int)) (((rollU raw used) : Int), ((rollV raw used n) : Int)) (pr e3 e4)

def segE (u : List Int) (i k : Nat) : Nat := if k < u.length ∧ (u.getD k default = 0 ↔ u.getD i default = 0) then segE u i (k + 1) else k
termination_by u.length - k
def cntX (u : List Int) (i k : Nat) (x : Int) : Nat := ((u.drop i).take (k - i)).countP (fun y => decide (y = x))
def o1 (k : Int) (n : Nat) : List AxStep := if 0 < n then [⟨k, (n : Int)⟩] else []
def o3 (a b c : Nat) : List AxStep := o1 0 a ++ (o1 1 b ++ o1 2 c)
theorem segE_ge (u : List Int) (i k : Nat) : k ≤ segE u i k := by
  induction k using segE.induct (u := u) (i := i) with
  | case1 k h ih => rw [segE, if_pos h]; omega
  | case2 k h => rw [segE, if_neg h]; omega
theorem segE_gt (u : List Int) (i : Nat) (h : i < u.length) : i < segE u i i := by
  rw [segE, if_pos ⟨h, Iff.rfl⟩]; exact segE_ge _ _ _
def stepsL (u : List Int) (i : Nat) (out : List AxStep) : List AxStep :=
  if h : i < u.length then stepsL u (segE u i i) (out ++ o3 (cntX u i (segE u i i) 0) (cntX u i (segE u i i) 1) (cntX u i (segE u i i) 2)) else out
termination_by u.length - i
decreasing_by have := segE_gt u i h; omega
end Go.Ch
end
section
set_option linter.unusedVariables false
set_option linter.unusedSimpArgs false
namespace Go.Ch
open Go Go.Ab

def onB : ByteArray := { data := #[111, 110] }
def boldB : ByteArray := { data := #[98, 111, 108, 100] }
def insE (tag : ByteArray) (i j : Nat) : Elem := ⟨65 + ((i : Int) + (j : Int)) % 26, 0, [⟨tag, { data := #[111, 110] }⟩]⟩
def insL (tag : ByteArray) (i k : Nat) : List Elem := (List.range k).map (insE tag i)
def setL (tag : ByteArray) (v : Int) : List Attr :=
  if v = 1 then [⟨{ data := #[98, 111, 108, 100] }, { data := #[111, 110] }⟩]
  else if v = 2 then [⟨{ data := #[98, 111, 108, 100] }, { data := #[] }⟩]
  else if v = 3 then [⟨{ data := #[98, 111, 108, 100] }, tag⟩, ⟨tag, { data := #[111, 110] }⟩] else []
def insK (raw : List Int) (used : Int) : Nat := (max 0 (rollV raw used 8 - 5)).toNat
def chgF (raw : List Int) (tag : ByteArray) (n : Nat) : Nat → Int → Act → Act
  | 0, used, x => ⟨x.ins ++ [insL tag n (insK raw used)], x.cut, x.set⟩
  | k + 1, used, x => chgF raw tag n k (rollU raw (rollU raw (rollU raw used)))
      ⟨x.ins ++ [insL tag (n - (k + 1)) (insK raw used)], x.cut ++ [rollV raw (rollU raw (rollU raw used)) 8 == 0], x.set ++ [setL tag (rollV raw (rollU raw used) 8)]⟩
def chgX (raw : List Int) (tag : ByteArray) (n : Nat) : Act := chgF raw tag n n 0 ⟨[], [], []⟩
def TagOk (tag : ByteArray) : Prop := (∀ v, VG true (setL tag v)) ∧ VG false [⟨tag, { data := #[111, 110] }⟩]
theorem rollU_le (raw : List Int) (used : Int) : used ≤ rollU raw used ∧ rollU raw used ≤ used + 1 := by unfold rollU; split <;> omega
structure ActOk (x : Act) : Prop where
  ins : ∀ e ∈ x.ins, e.length ≤ 2 ∧ ∀ y ∈ e, elemE y = 0 ∧ y.attrs.length ≤ 100
  set : ∀ c ∈ x.set, VG true c ∧ c.length ≤ 100
theorem insE_ok {tag : ByteArray} (h : TagOk tag) (i j : Nat) : elemE (insE tag i j) = 0 := by
  have h1 := Int.emod_nonneg ((i : Int) + (j : Int)) (b := 26) (by decide)
  have h2 := Int.emod_lt_of_pos ((i : Int) + (j : Int)) (b := 26) (by decide)
  refine (elemE_c ?_ (.inr ?_) (.inl rfl)).trans (chk_iff.2 h.2)
  · show ¬ (65 + ((i : Int) + (j : Int)) % 26 = 0 ↔ (0 : Int) = 0)
    intro q; have := q.2 rfl; omega
  · show CharP (65 + ((i : Int) + (j : Int)) % 26)
    unfold CharP; omega
theorem insL_ok {tag : ByteArray} (h : TagOk tag) (i : Nat) {k : Nat} (hk : k ≤ 2) : (insL tag i k).length ≤ 2 ∧ ∀ y ∈ insL tag i k, elemE y = 0 ∧ y.attrs.length ≤ 100 := by
  refine ⟨by simp [insL]; exact hk, fun y hy => ?_⟩
  obtain ⟨j, _, rfl⟩ := List.mem_map.1 hy
  exact ⟨insE_ok h i j, by simp [insE]⟩
theorem setL_len (tag : ByteArray) (v : Int) : (setL tag v).length ≤ 100 := by
  unfold setL; repeat' split
  all_goals simp
theorem insK_le (raw : List Int) (used : Int) : insK raw used ≤ 2 := by
  have := rollV_bd raw used (n := 8) (by decide)
  unfold insK; omega
theorem chgF_ok {raw : List Int} {tag : ByteArray} (h : TagOk tag) (n : Nat) : ∀ (k : Nat) (used : Int) (x : Act), k ≤ n → ActOk x → x.ins.length = n - k → x.cut.length = n - k → x.set.length = n - k →
    ActOk (chgF raw tag n k used x) ∧ (chgF raw tag n k used x).ins.length = n + 1 ∧ (chgF raw tag n k used x).cut.length = n ∧ (chgF raw tag n k used x).set.length = n
  | 0, used, x, hk, ho, h1, h2, h3 => by
    simp only [chgF]
    refine ⟨⟨fun e he => ?_, ho.set⟩, by simp [h1], by omega, by omega⟩
    rcases List.mem_append.1 he with he | he
    · exact ho.ins e he
    · rw [List.mem_singleton] at he; subst he; exact insL_ok h _ (insK_le raw used)
  | k + 1, used, x, hk, ho, h1, h2, h3 => by
    simp only [chgF]
    refine chgF_ok h n k _ _ (by omega) ⟨fun e he => ?_, fun c hc => ?_⟩ (by simp [h1]; omega) (by simp [h2]; omega) (by simp [h3]; omega)
    · rcases List.mem_append.1 he with he | he
      · exact ho.ins e he
      · rw [List.mem_singleton] at he; subst he; exact insL_ok h _ (insK_le raw used)
    · rcases List.mem_append.1 hc with hc | hc
      · exact ho.set c hc
      · rw [List.mem_singleton] at hc; subst hc; exact ⟨h.1 _, setL_len _ _⟩
theorem chgX_ok {raw : List Int} {tag : ByteArray} (h : TagOk tag) (n : Nat) : ActOk (chgX raw tag n) ∧ (chgX raw tag n).ins.length = n + 1 ∧ (chgX raw tag n).cut.length = n ∧ (chgX raw tag n).set.length = n :=
  chgF_ok h n n 0 _ (Nat.le_refl _) ⟨fun e he => (by cases he), fun c hc => (by cases hc)⟩ (by simp) (by simp) (by simp)
def UnitS : DU → Prop
  | .K c => VG true c ∧ c.length ≤ 100
  | .A e => elemE e = 0 ∧ e.attrs.length ≤ 100
  | .C => True
theorem UnitS.ok {u : DU} (h : UnitS u) : UnitOk u := by
  cases u with
  | K c => exact ⟨h.1, by have := h.2; omega⟩
  | A e => exact ⟨h.1, by have := h.2; omega⟩
  | C => trivial
theorem getD_mem' {α : Type} [Inhabited α] {l : List α} {k : Nat} (h : k < l.length) : l.getD k default ∈ l := by
  rw [show l.getD k default = l[k] by simp [List.getD, List.getElem?_eq_getElem h]]
  exact List.getElem_mem h
theorem actR_facts {x : Act} (h : ActOk x) {n : Nat} (h1 : x.ins.length = n + 1) (h2 : x.cut.length = n) (h3 : x.set.length = n) : ∀ (m i : Nat), n - i = m → i ≤ n →
    (∀ u ∈ actR x i, UnitS u) ∧ oldN (actR x i) = n - i ∧ newN (actR x i) ≤ 3 * (n - i) + 2
  | 0, i, hm, hi => by
    obtain ⟨q1, q2⟩ := h.ins _ (getD_mem' (l := x.ins) (k := i) (by omega))
    rw [actR, if_neg (by omega)]
    refine ⟨fun u hu => ?_, ?_, ?_⟩
    · obtain ⟨e, he, rfl⟩ := List.mem_map.1 hu; exact q2 e he
    · rw [(lens_As _).1]; omega
    · rw [(lens_As _).2]; omega
  | m + 1, i, hm, hi => by
    obtain ⟨q1, q2⟩ := h.ins _ (getD_mem' (l := x.ins) (k := i) (by omega))
    have q3 := h.set _ (getD_mem' (l := x.set) (k := i) (by omega))
    obtain ⟨r1, r2, r3⟩ := actR_facts h h1 h2 h3 m (i + 1) (by omega) (by omega)
    rw [actR, if_pos (by omega)]
    refine ⟨fun u hu => ?_, ?_, ?_⟩
    · rcases List.mem_append.1 hu with hu | hu
      · obtain ⟨e, he, rfl⟩ := List.mem_map.1 hu; exact q2 e he
      · rcases List.mem_cons.1 hu with rfl | hu
        · split
          · trivial
          · exact q3
        · exact r1 u hu
    · rw [oldN_app, (lens_As _).1]
      split <;> simp only [oldN] <;> omega
    · rw [newN_app, (lens_As _).2]
      split <;> simp only [newN] <;> omega
theorem dsw_mem {u v : List DU} (h : DSw u v) : ∀ x, x ∈ u ↔ x ∈ v := by
  induction h with
  | refl u => exact fun x => Iff.rfl
  | cons y _ ih => intro x; simp [ih x]
  | swap e u => intro x; simp only [List.mem_cons]; constructor <;> rintro (h | h | h) <;> simp [h]
  | symm _ ih => exact fun x => (ih x).symm
  | trans _ _ a b => exact fun x => (a x).trans (b x)
theorem exD_mem {l : List DStep} {s : DStep} (h : s ∈ l) {u : DU} (hu : u ∈ exS s) : u ∈ exD l := by
  induction l with
  | nil => cases h
  | cons t l ih =>
    simp only [exD, List.mem_append]
    rcases List.mem_cons.1 h with rfl | h
    · exact .inl hu
    · exact .inr (ih h)
theorem newD_mem : ∀ {l : List DStep}, (∀ s ∈ l, DOk s) → ∀ s ∈ l, nS s ≤ newD l
  | [], _, s, h => by cases h
  | t :: l, h, s, hs => by
    have h1 := oS_nn (h t (by simp))
    have h2 := sums_nn (l := l) (fun t ht => h t (by simp [ht]))
    simp only [newD]
    rcases List.mem_cons.1 hs with rfl | hs
    · omega
    · have := newD_mem (l := l) (fun t ht => h t (by simp [ht])) s hs; omega
theorem dn_of {l : List DStep} {us : List DU} (hv : DValid l) (hs : DSw (exD l) us) (hu : ∀ u ∈ us, UnitS u) : DN 100000000000 l := by
  intro s hs'
  have ho := hv.1.all s hs'
  have hn := newD_mem hv.1.all s hs'
  have v2 := hv.2.2
  have hm := fun u hu' => hu u ((dsw_mem hs u).1 (exD_mem hs' (u := u) hu'))
  unfold exS at hm
  unfold nS szD at hn
  rcases ho with ⟨k, n, a, e, q⟩ | ⟨k, a, b, n1, n2, v⟩
  · rw [if_neg (by omega), if_pos k] at hn
    rw [if_pos k] at hm
    refine ⟨by omega, by rw [a]; simp, fun x hx => ?_⟩
    have := (hm (.A x) (List.mem_map.2 ⟨x, hx, rfl⟩)).2
    omega
  · rw [if_neg (by omega)] at hm
    refine ⟨by rw [a]; simp, ?_, fun x hx => by rw [a] at hx; cases hx⟩
    by_cases k2 : s.kind = 2
    · rw [b k2]; simp
    · rw [if_neg k2] at hm
      have := (hm (.K s.attrs) (by rw [List.mem_replicate]; exact ⟨by omega, rfl⟩)).2
      omega
theorem change_ok {raw : List Int} {tag : ByteArray} (h : TagOk tag) {n : Nat} (hn : n ≤ 100000000) :
    (chgX raw tag n).ins.length = (chgX raw tag n).cut.length + 1 ∧ (chgX raw tag n).set.length = (chgX raw tag n).cut.length ∧ (∀ u ∈ actR (chgX raw tag n) 0, UnitOk u) ∧ (actR (chgX raw tag n) 0).length ≤ 8589934592 ∧
    DValid (doneD (actR (chgX raw tag n) 0)) ∧ oldD (doneD (actR (chgX raw tag n) 0)) = n ∧ DN 100000000000 (doneD (actR (chgX raw tag n) 0)) ∧ newD (doneD (actR (chgX raw tag n) 0)) ≤ 3 * n + 2 ∧
    DSw (exD (doneD (actR (chgX raw tag n) 0))) (actR (chgX raw tag n) 0) := by
  obtain ⟨a1, a2, a3, a4⟩ := chgX_ok (raw := raw) h n
  obtain ⟨f1, f2, f3⟩ := actR_facts a1 a2 a3 a4 n 0 (by omega) (by omega)
  have hl := len_sum (actR (chgX raw tag n) 0)
  have ho : ∀ u ∈ actR (chgX raw tag n) 0, UnitOk u := fun u hu => (f1 u hu).ok
  obtain ⟨d1, d2, d3, d4⟩ := doneD_ok ho (by omega) (by omega)
  exact ⟨by omega, by omega, ho, by omega, d1, by omega, dn_of d1 d2 f1, by omega, d2⟩
end Go.Ch
end
section
set_option linter.unusedVariables false
set_option linter.unusedSimpArgs false
set_option maxRecDepth 100000
set_option maxHeartbeats 4000000
open Go Go.Proofs Go.Ab
namespace Go.Ch
theorem fc_draw (n : Int) (raw : List Int) (tag : ByteArray) (ht : TagOk tag) (hn : 0 ≤ n ∧ n ≤ 10000000) : FC Try.prog 48 [VI n, VL 1 intT raw, VS tag] (app emp []) (VL 4 dstepT (doneD (actR (chgX raw tag n.toNat) 0))) (app emp []) := by
 refine .go Try.f48 ?_
 refine .len 1 (fun hl1 => ?_)
 obtain ⟨hc1, hc2, hc3, hc4, hc5, hc6, hc7, hc8, hc9⟩ := change_ok (raw := raw) ht (n := n.toNat) (by omega)
 refine .loop (α := Nat × Int × (List (List Elem)) × (List Bool) × (List (List Attr))) [.r [], .r [], .r [], .le (.nB 8 0 1), .le (.nB 8 1 1), .le (.nB 8 2 1), .r []] 59 (fun (i, used, I, C, S) => ([(0, VI n), (2, VS tag), (7, .ptr 8 0), (8, .ptr 32 0), (9, VI (i : Int))], [(8, .box [.row 48 I.length, .row 49 C.length, .row 50 S.length]), (32, .box [VL 1 intT raw, VI used]), (48, OR 1 elemsT I), (49, OR 1 boolT C), (50, OR 1 attrsT S)])) (fun (i, used, I, C, S) => (i : Int) ≤ n ∧ 0 ≤ used ∧ used ≤ 3 * i ∧ I.length = i ∧ C.length = i ∧ S.length = i ∧ chgX raw tag n.toNat = chgF raw tag n.toNat (n.toNat - i) used ⟨I, C, S⟩) (fun (i, used, I, C, S) => n.toNat + 1 - i) (0, 0, [], [], []) ?_ ?_
 ·
  exact ⟨by omega, by decide, by omega, rfl, rfl, rfl, rfl⟩
 rintro ⟨i, used, I, C, S⟩ I4 ih4
 try dsimp only at I4
 have r1 := rollU_le raw used
 have r2 := rollU_le raw (rollU raw used)
 have r3 := rollU_le raw (rollU raw (rollU raw used))
 have v1 := rollV_bd raw used (n := 8) (by decide)
 have v2 := rollV_bd raw (rollU raw used) (n := 8) (by decide)
 have v3 := rollV_bd raw (rollU raw (rollU raw used)) (n := 8) (by decide)
 refine .br [.r []] (decide ((i : Int) ≤ n)) (fun h4 => ?_) (fun h4 => ?_)
 ·
  (try simp only [decide_eq_true_eq, decide_eq_false_iff_not, Int.not_lt, Int.not_le] at h4)
  refine .loop (α := Nat × (List Elem)) [.r [], .r [(1, X (Xc3 99 [(0, 32)] (fc_roll raw used 8 (by omega) (by omega) (by omega)) X0)), (2, X (Xn ((rollV raw used 8) - 5))), (3, X (Xmax 0 ((rollV raw used 8) - 5)))], .le (.nR 10 3)] 132 (fun (j, e) => ([(0, VI n), (2, VS tag), (7, .ptr 8 0), (8, .ptr 32 0), (9, VI (i : Int)), (10, .row 131 e.length), (24, VI (max 0 ((rollV raw used 8) - 5))), (25, VI (j : Int))], [(8, .box [.row 48 I.length, .row 49 C.length, .row 50 S.length]), (32, .box [VL 1 intT raw, VI (rollU raw used)]), (48, OR 1 elemsT I), (49, OR 1 boolT C), (50, OR 1 attrsT S), (131, OR 3 elemT e)])) (fun (j, e) => (j : Int) ≤ (max 0 ((rollV raw used 8) - 5)) ∧ e = insL tag i j) (fun (j, e) => ((max 0 ((rollV raw used 8) - 5))).toNat - j) (0, []) ?_ ?_
  ·
   exact ⟨by omega, rfl⟩
  rintro ⟨j, e⟩ I8 ih8
  try dsimp only at I8
  have el : e.length = j := by rw [I8.2]; simp [insL]
  refine .br [.r []] (decide ((j : Int) < (max 0 ((rollV raw used 8) - 5)))) (fun h8 => ?_) (fun h8 => ?_)
  ·
   (try simp only [decide_eq_true_eq, decide_eq_false_iff_not, Int.not_lt, Int.not_le] at h8)
   refine .back [.r [], .r [(3, X (Xn ((i : Int) + (j : Int)))), (4, X (Xrem ((i : Int) + (j : Int)) 26)), (5, X (Xn (65 + (((i : Int) + (j : Int)) % 26)))), (7, X (Xc1 212 (fc_on tag) X0)), (10, X (rowC elemT [({ char := (65 + (((i : Int) + (j : Int)) % 26)), ref := 0, attrs := [({ name := tag, val := { data := #[111, 110] } } : Attr)] } : Elem)] (Xap 3 elemT 131 e [({ char := (65 + (((i : Int) + (j : Int)) % 26)), ref := 0, attrs := [({ name := tag, val := { data := #[111, 110] } } : Attr)] } : Elem)])))], .r [(0, X (Xn ((j : Int) + 1)))]] [(8, 8), (32, 32), (48, 48), (49, 49), (50, 50), (131, 131)] (ih8 ((j + 1), (e ++ [({ char := (65 + (((i : Int) + (j : Int)) % 26)), ref := 0, attrs := [({ name := tag, val := { data := #[111, 110] } } : Attr)] } : Elem)])) ?_ ?_)
   ·
    refine ⟨by omega, ?_⟩
    rw [I8.2]
    unfold insL
    rw [List.range_succ, List.map_append]
    rfl
   ·
    ((try dsimp only); omega)
  ·
   (try simp only [decide_eq_true_eq, decide_eq_false_iff_not, Int.not_lt, Int.not_le] at h8)
   refine .br [.r [(3, X (rowC elemT e X0)), (4, X (rowC elemsT [e] (Xap 1 elemsT 48 I [e])))], .r []] ((i : Int) == n) (fun h13 => ?_) (fun h13 => ?_)
   ·
    (try simp only [beq_iff_eq, beq_eq_false_iff_ne, ne_eq] at h13)
    have hj : insK raw used = j := by unfold insK; omega
    have hX : chgX raw tag n.toNat = ⟨I ++ [e], C, S⟩ := by rw [I4.2.2.2.2.2.2, show n.toNat - i = 0 by omega, chgF, hj, show n.toNat = i by omega, ← I8.2]
    rw [hX] at hc1 hc2 hc3 hc4
    have e1 : ((doneD (actR (chgX raw tag n.toNat) 0)) : List DStep) = (doneD (actR ({ ins := (I ++ [e]), cut := C, set := S } : Act) 0)) := by
     rw [hX]
    exact .finE [.r [(1, X (Xc1 228 (fc_deltaOf ({ ins := (I ++ [e]), cut := C, set := S } : Act) (by assumption) (by assumption) (by assumption) (by assumption)) (rowC elemsT (I ++ [e]) (rowC boolT C (rowC attrsT S X0)))))]] [] (fun z0 => (VL 4 dstepT z0, [])) ((doneD (actR ({ ins := (I ++ [e]), cut := C, set := S } : Act) 0)) : List DStep) ((doneD (actR (chgX raw tag n.toNat) 0)) : List DStep) e1
   ·
    (try simp only [beq_iff_eq, beq_eq_false_iff_ne, ne_eq] at h13)
    have hj : insK raw used = j := by unfold insK; omega
    refine .br [.r [], .r [(1, X (Xc3 236 [(0, 32)] (fc_roll raw (rollU raw used) 8 (by omega) (by omega) (by omega)) X0))], .r []] ((rollV raw (rollU raw used) 8) == 1) (fun h16 => ?_) (fun h16 => ?_)
    ·
     (try simp only [beq_iff_eq, beq_eq_false_iff_ne, ne_eq] at h16)
     refine .back [.r [(0, X (Xc1 260 (fc_on ({ data := #[98, 111, 108, 100] })) X0))], .r [(3, X (Xc3 300 [(0, 32)] (fc_roll raw (rollU raw (rollU raw used)) 8 (by omega) (by omega) (by omega)) X0)), (6, X (rowC boolT [((rollV raw (rollU raw (rollU raw used)) 8) == 0)] (Xap 1 boolT 49 C [((rollV raw (rollU raw (rollU raw used)) 8) == 0)]))), (11, X (rowC attrsT [[({ name := ({ data := #[98, 111, 108, 100] }), val := { data := #[111, 110] } } : Attr)]] (Xap 1 attrsT 50 S [[({ name := ({ data := #[98, 111, 108, 100] }), val := { data := #[111, 110] } } : Attr)]])))], .r [(1, X (Xn ((i : Int) + 1)))]] [(8, 8), (32, 32), (48, 48), (49, 49), (50, 50)] (ih4 ((i + 1), (rollU raw (rollU raw (rollU raw used))), (I ++ [e]), (C ++ [((rollV raw (rollU raw (rollU raw used)) 8) == 0)]), (S ++ [[({ name := ({ data := #[98, 111, 108, 100] }), val := { data := #[111, 110] } } : Attr)]])) ?_ ?_)
     ·
      refine ⟨by omega, by omega, by omega, by simp; omega, by simp; omega, by simp; omega, ?_⟩
      rw [I4.2.2.2.2.2.2, show n.toNat - i = (n.toNat - (i + 1)) + 1 by omega, chgF, show n.toNat - ((n.toNat - (i + 1)) + 1) = i by omega, hj, ← I8.2]
      unfold setL
      (repeat (first | rw [if_pos (by omega)] | rw [if_neg (by omega)]))
     ·
      ((try dsimp only); omega)
    ·
     (try simp only [beq_iff_eq, beq_eq_false_iff_ne, ne_eq] at h16)
     refine .br [.r []] ((rollV raw (rollU raw used) 8) == 2) (fun h18 => ?_) (fun h18 => ?_)
     ·
      (try simp only [beq_iff_eq, beq_eq_false_iff_ne, ne_eq] at h18)
      refine .back [.r [], .r [(3, X (Xc3 324 [(0, 32)] (fc_roll raw (rollU raw (rollU raw used)) 8 (by omega) (by omega) (by omega)) X0)), (6, X (rowC boolT [((rollV raw (rollU raw (rollU raw used)) 8) == 0)] (Xap 1 boolT 49 C [((rollV raw (rollU raw (rollU raw used)) 8) == 0)]))), (10, X (rowC attrT [({ name := { data := #[98, 111, 108, 100] }, val := { data := #[] } } : Attr)] X0)), (11, X (rowC attrsT [[({ name := { data := #[98, 111, 108, 100] }, val := { data := #[] } } : Attr)]] (Xap 1 attrsT 50 S [[({ name := { data := #[98, 111, 108, 100] }, val := { data := #[] } } : Attr)]])))], .r [(1, X (Xn ((i : Int) + 1)))]] [(8, 8), (32, 32), (48, 48), (49, 49), (50, 50)] (ih4 ((i + 1), (rollU raw (rollU raw (rollU raw used))), (I ++ [e]), (C ++ [((rollV raw (rollU raw (rollU raw used)) 8) == 0)]), (S ++ [[({ name := { data := #[98, 111, 108, 100] }, val := { data := #[] } } : Attr)]])) ?_ ?_)
      ·
       refine ⟨by omega, by omega, by omega, by simp; omega, by simp; omega, by simp; omega, ?_⟩
       rw [I4.2.2.2.2.2.2, show n.toNat - i = (n.toNat - (i + 1)) + 1 by omega, chgF, show n.toNat - ((n.toNat - (i + 1)) + 1) = i by omega, hj, ← I8.2]
       unfold setL
       (repeat (first | rw [if_pos (by omega)] | rw [if_neg (by omega)]))
      ·
       ((try dsimp only); omega)
     ·
      (try simp only [beq_iff_eq, beq_eq_false_iff_ne, ne_eq] at h18)
      refine .br [.r []] ((rollV raw (rollU raw used) 8) == 3) (fun h20 => ?_) (fun h20 => ?_)
      ·
       (try simp only [beq_iff_eq, beq_eq_false_iff_ne, ne_eq] at h20)
       refine .back [.r [], .r [(3, X (Xc3 364 [(0, 32)] (fc_roll raw (rollU raw (rollU raw used)) 8 (by omega) (by omega) (by omega)) X0)), (6, X (rowC boolT [((rollV raw (rollU raw (rollU raw used)) 8) == 0)] (Xap 1 boolT 49 C [((rollV raw (rollU raw (rollU raw used)) 8) == 0)]))), (10, X (rowC attrT [({ name := { data := #[98, 111, 108, 100] }, val := tag } : Attr), ({ name := tag, val := { data := #[111, 110] } } : Attr)] X0)), (11, X (rowC attrsT [[({ name := { data := #[98, 111, 108, 100] }, val := tag } : Attr), ({ name := tag, val := { data := #[111, 110] } } : Attr)]] (Xap 1 attrsT 50 S [[({ name := { data := #[98, 111, 108, 100] }, val := tag } : Attr), ({ name := tag, val := { data := #[111, 110] } } : Attr)]])))], .r [(1, X (Xn ((i : Int) + 1)))]] [(8, 8), (32, 32), (48, 48), (49, 49), (50, 50)] (ih4 ((i + 1), (rollU raw (rollU raw (rollU raw used))), (I ++ [e]), (C ++ [((rollV raw (rollU raw (rollU raw used)) 8) == 0)]), (S ++ [[({ name := { data := #[98, 111, 108, 100] }, val := tag } : Attr), ({ name := tag, val := { data := #[111, 110] } } : Attr)]])) ?_ ?_)
       ·
        refine ⟨by omega, by omega, by omega, by simp; omega, by simp; omega, by simp; omega, ?_⟩
        rw [I4.2.2.2.2.2.2, show n.toNat - i = (n.toNat - (i + 1)) + 1 by omega, chgF, show n.toNat - ((n.toNat - (i + 1)) + 1) = i by omega, hj, ← I8.2]
        unfold setL
        (repeat (first | rw [if_pos (by omega)] | rw [if_neg (by omega)]))
       ·
        ((try dsimp only); omega)
      ·
       (try simp only [beq_iff_eq, beq_eq_false_iff_ne, ne_eq] at h20)
       refine .back [.le (.nL 12 2), .r [(3, X (Xc3 316 [(0, 32)] (fc_roll raw (rollU raw (rollU raw used)) 8 (by omega) (by omega) (by omega)) X0)), (6, X (rowC boolT [((rollV raw (rollU raw (rollU raw used)) 8) == 0)] (Xap 1 boolT 49 C [((rollV raw (rollU raw (rollU raw used)) 8) == 0)]))), (11, X (rowC attrsT [[]] (Xap 1 attrsT 50 S [[]])))], .r [(1, X (Xn ((i : Int) + 1)))]] [(8, 8), (32, 32), (48, 48), (49, 49), (50, 50)] (ih4 ((i + 1), (rollU raw (rollU raw (rollU raw used))), (I ++ [e]), (C ++ [((rollV raw (rollU raw (rollU raw used)) 8) == 0)]), (S ++ [[]])) ?_ ?_)
       ·
        refine ⟨by omega, by omega, by omega, by simp; omega, by simp; omega, by simp; omega, ?_⟩
        rw [I4.2.2.2.2.2.2, show n.toNat - i = (n.toNat - (i + 1)) + 1 by omega, chgF, show n.toNat - ((n.toNat - (i + 1)) + 1) = i by omega, hj, ← I8.2]
        unfold setL
        (repeat (first | rw [if_pos (by omega)] | rw [if_neg (by omega)]))
       ·
        ((try dsimp only); omega)
 ·
  (try simp only [decide_eq_true_eq, decide_eq_false_iff_not, Int.not_lt, Int.not_le] at h4)
  exfalso
  omega
end Go.Ch
end
section
set_option linter.unusedVariables false
set_option linter.unusedSimpArgs false
namespace Go.Ch
open Go Go.Ab

variable {w G : DWr} {us : List DU} {T : Nat}
theorem DI.all : ∀ {us : List DU} {w : DWr}, DI w us T G → DI G [] T G
  | [], w, h => by have := h.done; subst this; exact h
  | .K c :: us, w, h => DI.all h.keep1
  | .A e :: us, w, h => DI.all (DI.elems (e := [e]) h)
  | .C :: us, w, h => DI.all h.cut1
theorem doneD_dn (hu : ∀ u ∈ us, UnitOk u) (hs : us.length ≤ 8589934592) : DN 400000000000 (doneD us) := (DI.start hu hs).all.fl.2
theorem eok_of {f : List Elem} (hp : partE f 0 = 0) (ha : AN 100000000000 f) : EOk f := fun x hx => ⟨part_iff.1 hp x hx, ha x hx⟩
theorem undo_law {f : List Elem} {l : List DStep} (hp : partE f 0 = 0) (hv : DValid l) (hd : DN 100000000000 l) (ha : AN 100000000000 f) (hlen : oldD l = f.length) :
    EOk f ∧ DN 400000000000 l ∧ AN 400000000000 f ∧ DValid (undoD f l) ∧ DN 400000000000 (undoD f l) ∧ partE (rawD f l) 0 = 0 ∧ AN 400000000000 (rawD f l) ∧ oldD (undoD f l) = (rawD f l).length ∧ sameF (rawD (rawD f l) (undoD f l)) f = true := by
  have hf := eok_of hp ha
  obtain ⟨q1, q2, q3, q4, q5, q6, q7, q8, q9, q10, q11⟩ := undo_final hv hd hf hlen
  refine ⟨hf, hd.mono (by decide), hf.an, q6, doneD_dn q4 q5, part_iff.2 (fun x hx => (q9 x hx).1), fun x hx => by have := (q9 x hx).2; omega, by omega, ?_⟩
  rw [q11]; exact sameF_self _
theorem an_take {m : Nat} {f : List Elem} (h : AN m f) (n : Nat) : AN m (f.take n) := fun x hx => h x (List.mem_of_mem_take hx)
theorem ltr_an (s : ByteArray) (n : Nat) : AN n (lettersL s) := fun x hx => by
  obtain ⟨i, _, rfl⟩ := List.mem_map.1 hx
  simp [ltr]
def probeD : List DStep := [⟨1, 0, [], lettersL { data := #[120] }⟩, ⟨2, 1, [], []⟩, ⟨0, 1, [], []⟩]
end Go.Ch
end
section
set_option linter.unusedVariables false
set_option linter.unusedSimpArgs false
namespace Go.Ch
open Go Go.Ab

def joinDU : List DU → List DU → List DU
  | .C :: p, q => .C :: joinDU p q
  | p, .A e :: q => .A e :: joinDU p q
  | .K c :: p, .K d :: q => .K (fm botG c d) :: joinDU p q
  | .K _ :: p, .C :: q => .C :: joinDU p q
  | .A e :: p, .K d :: q => .A (chgE d e) :: joinDU p q
  | .A _ :: p, .C :: q => joinDU p q
  | p, [] => p
  | [], _ => []
termination_by p q => p.length + q.length
end Go.Ch
end
section
set_option linter.unusedVariables false
set_option linter.unusedSimpArgs false
namespace Go.Ch
open Go Go.Ab

theorem raw_nil : ∀ l : List Attr, fm rawG l [] = l
  | [] => by simp [fm, bothL]
  | x :: l => by
    have ih := raw_nil l
    unfold fm at ih ⊢
    rw [bothL, fm_cons, ih]
    have : rawG x default = some x := by unfold rawG; rw [if_pos (show (default : Attr).name = mt from rfl)]
    rw [this]; rfl
def pairDU : List DU → List DU → List DU × List DU
  | .A e :: p, q => (.A e :: (pairDU p q).1, .K [] :: (pairDU p q).2)
  | [], .A e :: q => (.K [] :: (pairDU [] q).1, .A e :: (pairDU [] q).2)
  | .K c :: p, .A e :: q => (.K [] :: (pairDU (.K c :: p) q).1, .A e :: (pairDU (.K c :: p) q).2)
  | .C :: p, .A e :: q => (.K [] :: (pairDU (.C :: p) q).1, .A e :: (pairDU (.C :: p) q).2)
  | .K c :: p, .K d :: q => (.K (fm wioG c d) :: (pairDU p q).1, .K d :: (pairDU p q).2)
  | .K _ :: p, .C :: q => ((pairDU p q).1, .C :: (pairDU p q).2)
  | .C :: p, .K _ :: q => (.C :: (pairDU p q).1, (pairDU p q).2)
  | .C :: p, .C :: q => pairDU p q
  | _, [] => ([], [])
  | [], _ => ([], [])
termination_by p q => p.length + q.length
end Go.Ch
namespace Go.Ch
open Go Go.Ab
theorem tag_one : TagOk { data := #[111, 110, 101] } := by
  refine ⟨fun v => ?_, chk_iff.1 (by decide +kernel)⟩
  unfold setL
  split
  · exact chk_iff.1 (by decide +kernel)
  · split
    · exact chk_iff.1 (by decide +kernel)
    · split
      · exact chk_iff.1 (by decide +kernel)
      · exact vg_nil
theorem tag_two : TagOk { data := #[116, 119, 111] } := by
  refine ⟨fun v => ?_, chk_iff.1 (by decide +kernel)⟩
  unfold setL
  split
  · exact chk_iff.1 (by decide +kernel)
  · split
    · exact chk_iff.1 (by decide +kernel)
    · split
      · exact chk_iff.1 (by decide +kernel)
      · exact vg_nil
/-! ### Readers -/
def kindD (l : List DStep) : Int := if l.length = 0 then -1 else (l.getD 0 default).kind
end Go.Ch
end
section
set_option linter.unusedVariables false
set_option linter.unusedSimpArgs false
set_option maxRecDepth 100000
set_option maxHeartbeats 4000000
open Go Go.Proofs Go.Ab
namespace Go.Ch
end Go.Ch
end
section
set_option linter.unusedVariables false
set_option linter.unusedSimpArgs false
set_option maxRecDepth 100000
set_option maxHeartbeats 4000000
open Go Go.Proofs Go.Ab
namespace Go.Ch
def tkE (l : List DStep) (u n : Int) : DStep := if (l.getD 0 default).kind = 1 then ⟨(l.getD 0 default).kind, (l.getD 0 default).n, (l.getD 0 default).attrs, ((l.getD 0 default).elems.take (u + n).toNat).drop u.toNat⟩ else ⟨(l.getD 0 default).kind, n, (l.getD 0 default).attrs, (l.getD 0 default).elems⟩
def tkL (l : List DStep) (u n : Int) : List DStep := if u + n = szD (l.getD 0 default) then l.drop 1 else l
def tkN (l : List DStep) (u n : Int) : Int := if u + n = szD (l.getD 0 default) then 0 else u + n

end Go.Ch
end
section
set_option linter.unusedVariables false
set_option linter.unusedSimpArgs false
namespace Go.Ch
open Go Go.Ab

def ruD (l : List DStep) (u : Int) : List DU := (exD l).drop u.toNat
structure GoodRD (l : List DStep) (u : Int) : Prop where
  ok : ∀ s ∈ l, DOk s
  pos : 0 ≤ u
  lt : 0 < l.length → u < szD (l.getD 0 default)
  nil : l.length = 0 → u = 0
theorem exS_sz {s : DStep} (h : DOk s) : ((exS s).length : Int) = szD s := by
  unfold exS szD
  rcases h with ⟨k, _⟩ | ⟨k, _, _, n1, _⟩
  · rw [if_pos k, if_pos k, List.length_map]
  · have k1 : ¬ s.kind = 1 := by omega
    rw [if_neg k1, if_neg k1]
    split <;> rw [List.length_replicate] <;> omega
theorem ruD0 (l : List DStep) : ruD l 0 = exD l := rfl
theorem ruD_nil {l : List DStep} {u : Int} (h : l.length = 0) : ruD l u = [] := by
  rw [List.length_eq_zero_iff.1 h]; unfold ruD; simp [exD]
theorem tkE_split {l : List DStep} {u n : Int} (ho : DOk (l.getD 0 default)) (hu : 0 ≤ u) (hn : 0 ≤ n) (hl : u + n ≤ szD (l.getD 0 default)) :
    (exS (l.getD 0 default)).drop u.toNat = exS (tkE l u n) ++ (exS (l.getD 0 default)).drop (u + n).toNat := by
  unfold tkE
  generalize l.getD 0 default = s at *
  have hz : (u + n).toNat = u.toNat + n.toNat := by omega
  unfold szD at hl
  by_cases k1 : s.kind = 1
  · rw [if_pos k1] at hl ⊢
    unfold exS
    simp only [if_pos k1]
    rw [← List.map_drop, ← List.map_drop, ← List.map_append]
    congr 1
    conv => lhs; rw [← List.take_append_drop (u + n).toNat s.elems]
    rw [List.drop_append_of_le_length (by rw [List.length_take]; omega)]
  · rw [if_neg k1] at hl ⊢
    unfold exS
    simp only [if_neg k1]
    split
    · rw [List.drop_replicate, List.drop_replicate, List.replicate_append_replicate]; congr 1; omega
    · rw [List.drop_replicate, List.drop_replicate, List.replicate_append_replicate]; congr 1; omega
theorem tkD_ok {l : List DStep} {u n : Int} (h : GoodRD l u) (h0 : 0 < l.length) (hn : 0 ≤ n) (hl : u + n ≤ szD (l.getD 0 default)) :
    GoodRD (tkL l u n) (tkN l u n) ∧ ruD l u = exS (tkE l u n) ++ ruD (tkL l u n) (tkN l u n) := by
  have ho : DOk (l.getD 0 default) := h.ok _ (getD_mem' h0)
  have hz := exS_sz ho
  have hp := h.pos
  have hs := tkE_split ho hp hn hl
  have hd := dropD (l := l) (i := 0) h0
  rw [List.drop_zero] at hd
  have he : exD l = exS (l.getD 0 default) ++ exD (l.drop 1) := by conv => lhs; rw [hd, exD]
  have hlt := h.lt h0
  unfold tkL tkN
  by_cases e : u + n = szD (l.getD 0 default)
  · rw [if_pos e, if_pos e]
    refine ⟨⟨fun s hs => h.ok s (List.mem_of_mem_drop hs), Int.le_refl _, fun h1 => ?_, fun _ => rfl⟩, ?_⟩
    · have := stepD_sz (step_iff.2 (h.ok _ (List.mem_of_mem_drop (getD_mem' h1))))
      omega
    · rw [ruD0]
      unfold ruD
      rw [he, List.drop_append_of_le_length (by omega), hs, List.drop_eq_nil_of_le (show (exS (l.getD 0 default)).length ≤ (u + n).toNat by omega), List.append_nil]
  · rw [if_neg e, if_neg e]
    refine ⟨⟨h.ok, by omega, fun _ => by omega, fun h1 => by omega⟩, ?_⟩
    unfold ruD
    rw [he, List.drop_append_of_le_length (by omega), List.drop_append_of_le_length (by omega), hs, List.append_assoc]
end Go.Ch
end
section
set_option linter.unusedVariables false
set_option linter.unusedSimpArgs false
namespace Go.Ch
open Go Go.Ab

theorem jd_C (n : Nat) (p q : List DU) : joinDU (List.replicate n .C ++ p) q = List.replicate n .C ++ joinDU p q := by
  induction n with
  | zero => rfl
  | succ n ih => rw [List.replicate_succ, List.cons_append, joinDU, ih, List.cons_append]
def NoCD : List DU → Prop
  | .C :: _ => False
  | _ => True
theorem jd_A1 {p : List DU} (hp : NoCD p) (e : Elem) (q : List DU) : joinDU p (.A e :: q) = .A e :: joinDU p q := by
  rw [joinDU]
  intro p' h
  subst h
  exact hp
theorem jd_A (e : List Elem) {p : List DU} (hp : NoCD p) (q : List DU) : joinDU p (e.map .A ++ q) = e.map .A ++ joinDU p q := by
  induction e with
  | nil => rfl
  | cons x e ih => rw [List.map_cons, List.cons_append, jd_A1 hp, ih, List.cons_append]
theorem jd_KK (n : Nat) (c d : List Attr) (p q : List DU) : joinDU (List.replicate n (.K c) ++ p) (List.replicate n (.K d) ++ q) = List.replicate n (.K (fm botG c d)) ++ joinDU p q := by
  induction n with
  | zero => rfl
  | succ n ih => rw [List.replicate_succ, List.replicate_succ, List.replicate_succ, List.cons_append, List.cons_append, joinDU, ih, List.cons_append]
theorem jd_KC (n : Nat) (c : List Attr) (p q : List DU) : joinDU (List.replicate n (.K c) ++ p) (List.replicate n .C ++ q) = List.replicate n .C ++ joinDU p q := by
  induction n with
  | zero => rfl
  | succ n ih => rw [List.replicate_succ, List.replicate_succ, List.cons_append, List.cons_append, joinDU, ih, List.cons_append]
theorem jd_AK (e : List Elem) (d : List Attr) (p q : List DU) : joinDU (e.map .A ++ p) (List.replicate e.length (.K d) ++ q) = (e.map (chgE d)).map .A ++ joinDU p q := by
  induction e with
  | nil => rfl
  | cons x e ih => rw [List.map_cons, List.length_cons, List.replicate_succ, List.cons_append, List.cons_append, joinDU, ih]; rfl
theorem jd_AC (e : List Elem) (p q : List DU) : joinDU (e.map .A ++ p) (List.replicate e.length .C ++ q) = joinDU p q := by
  induction e with
  | nil => rfl
  | cons x e ih => rw [List.map_cons, List.length_cons, List.replicate_succ, List.cons_append, List.cons_append, joinDU, ih]
end Go.Ch
end
section
set_option linter.unusedVariables false
set_option linter.unusedSimpArgs false
namespace Go.Ch
open Go Go.Ab

structure JD (w : DWr) (ps : List DStep) (pu : Int) (qs : List DStep) (qu : Int) (T : Nat) (G : DWr) : Prop where
  gp : GoodRD ps pu
  gq : GoodRD qs qu
  dp : DN 100000000000 ps
  dq : DN 100000000000 qs
  eq : newN (ruD ps pu) = oldN (ruD qs qu)
  di : DI w (joinDU (ruD ps pu) (ruD qs qu)) T G
def jmD (ps : List DStep) (pu : Int) (qs : List DStep) (qu : Int) : Nat := (ruD ps pu).length + (ruD qs qu).length
theorem dn_tk {m : Nat} {l : List DStep} {u n : Int} (h : DN m l) : DN m (tkL l u n) := by
  unfold tkL; split
  · exact fun s hs => h s (List.mem_of_mem_drop hs)
  · exact h
theorem exS_C {l : List DStep} {u n : Int} (k : (l.getD 0 default).kind = 2) : exS (tkE l u n) = List.replicate n.toNat .C := by
  unfold tkE
  rw [if_neg (by omega)]
  unfold exS
  simp only
  rw [if_neg (by omega), if_pos k]
theorem exS_A {l : List DStep} {u n : Int} (k : (l.getD 0 default).kind = 1) : exS (tkE l u n) = (tkE l u n).elems.map .A := by
  unfold tkE
  rw [if_pos k]
  unfold exS
  simp only
  rw [if_pos k]
theorem exS_K {l : List DStep} {u n : Int} (k : (l.getD 0 default).kind = 0) : exS (tkE l u n) = List.replicate n.toNat (.K (l.getD 0 default).attrs) := by
  unfold tkE
  rw [if_neg (by omega)]
  unfold exS
  simp only
  rw [if_neg (by omega), if_neg (by omega)]
section
variable {w : DWr} {ps qs : List DStep} {pu qu : Int} {T : Nat} {G : DWr}
theorem JD.cut (h : JD w ps pu qs qu T G) (h0 : 0 < ps.length) (hk : (ps.getD 0 default).kind = 2) {n : Int} (hn : n = szD (ps.getD 0 default) - pu) :
    JD ⟨w.out, w.add, w.cut + n⟩ (tkL ps pu n) (tkN ps pu n) qs qu T G ∧ jmD (tkL ps pu n) (tkN ps pu n) qs qu < jmD ps pu qs qu := by
  have hl := h.gp.lt h0
  obtain ⟨g, e⟩ := tkD_ok (n := n) h.gp h0 (by omega) (by omega)
  rw [exS_C hk] at e
  have hd := h.di
  have he := h.eq
  rw [e, jd_C] at hd
  rw [e, newN_app, (lens_Cs _).2] at he
  have hd2 := hd.cuts
  rw [show ((n.toNat : Nat) : Int) = n by omega] at hd2
  refine ⟨⟨g, h.gq, dn_tk h.dp, h.dq, by omega, hd2⟩, ?_⟩
  unfold jmD
  rw [e, List.length_append, List.length_replicate]
  omega
theorem noCD {l : List DStep} {u : Int} (h : GoodRD l u) (hk : 0 < l.length → (l.getD 0 default).kind ≠ 2) : NoCD (ruD l u) := by
  by_cases h0 : 0 < l.length
  · have hl := h.lt h0
    have hp := h.pos
    have k2 := hk h0
    obtain ⟨g, e⟩ := tkD_ok (n := 1) h h0 (by decide) (by omega)
    have hs := (stepD_sz (step_iff.2 (h.ok _ (getD_mem' h0)))).1
    rcases hs with k | k | k
    · rw [e, exS_K k]; trivial
    · rw [e, exS_A k]
      have hem : (tkE l u 1).elems.length = 1 := by
        unfold tkE
        rw [if_pos k]
        simp only [List.length_drop, List.length_take]
        have : szD (l.getD 0 default) = (l.getD 0 default).elems.length := by unfold szD; rw [if_pos k]
        omega
      generalize (tkE l u 1).elems = z at hem
      cases z with
      | nil => simp at hem
      | cons x r => trivial
    · exact absurd k k2
  · rw [ruD_nil (by omega)]; trivial
theorem JD.add (h : JD w ps pu qs qu T G) (hp : 0 < ps.length → (ps.getD 0 default).kind ≠ 2) (h0 : 0 < qs.length) (hk : (qs.getD 0 default).kind = 1) {n : Int} (hn : n = szD (qs.getD 0 default) - qu) :
    JD ⟨w.out, w.add ++ (tkE qs qu n).elems, w.cut⟩ ps pu (tkL qs qu n) (tkN qs qu n) T G := by
  have hl := h.gq.lt h0
  obtain ⟨g, e⟩ := tkD_ok (n := n) h.gq h0 (by omega) (by omega)
  rw [exS_A hk] at e
  have hd := h.di
  have he := h.eq
  rw [e, jd_A _ (noCD h.gp hp)] at hd
  rw [e, oldN_app, (lens_As _).1] at he
  exact ⟨h.gp, g, h.dp, dn_tk h.dq, by omega, hd.elems⟩
theorem tkE_len {l : List DStep} {u n : Int} (k : (l.getD 0 default).kind = 1) (hu : 0 ≤ u) (hn : 0 ≤ n) (hl : u + n ≤ szD (l.getD 0 default)) : (tkE l u n).elems.length = n.toNat := by
  unfold tkE
  rw [if_pos k]
  simp only [List.length_drop, List.length_take]
  have : szD (l.getD 0 default) = (l.getD 0 default).elems.length := by unfold szD; rw [if_pos k]
  omega
theorem JD.both (h : JD w ps pu qs qu T G) (a : 0 < ps.length) (b : 0 < qs.length) (kp : (ps.getD 0 default).kind ≠ 2) (kq : (qs.getD 0 default).kind ≠ 1) {n : Int} (hn : n = min (szD (ps.getD 0 default) - pu) (szD (qs.getD 0 default) - qu)) :
    (((ps.getD 0 default).kind = 0 ∧ (qs.getD 0 default).kind = 0 → JD ⟨keepD (flushD w) n (fm botG (ps.getD 0 default).attrs (qs.getD 0 default).attrs), [], 0⟩ (tkL ps pu n) (tkN ps pu n) (tkL qs qu n) (tkN qs qu n) T G) ∧
    ((ps.getD 0 default).kind = 0 ∧ (qs.getD 0 default).kind = 2 → JD ⟨w.out, w.add, w.cut + n⟩ (tkL ps pu n) (tkN ps pu n) (tkL qs qu n) (tkN qs qu n) T G) ∧
    ((ps.getD 0 default).kind = 1 ∧ (qs.getD 0 default).kind = 0 → JD ⟨w.out, w.add ++ (tkE ps pu n).elems.map (chgE (qs.getD 0 default).attrs), w.cut⟩ (tkL ps pu n) (tkN ps pu n) (tkL qs qu n) (tkN qs qu n) T G) ∧
    ((ps.getD 0 default).kind = 1 ∧ (qs.getD 0 default).kind = 2 → JD w (tkL ps pu n) (tkN ps pu n) (tkL qs qu n) (tkN qs qu n) T G)) ∧
    jmD (tkL ps pu n) (tkN ps pu n) (tkL qs qu n) (tkN qs qu n) < jmD ps pu qs qu := by
  have l1 := h.gp.lt a
  have l2 := h.gq.lt b
  have p1 := h.gp.pos
  have p2 := h.gq.pos
  obtain ⟨g1, e1⟩ := tkD_ok (n := n) h.gp a (by omega) (by omega)
  obtain ⟨g2, e2⟩ := tkD_ok (n := n) h.gq b (by omega) (by omega)
  have hd := h.di
  have he := h.eq
  have k1 := (stepD_sz (step_iff.2 (h.gp.ok _ (getD_mem' a)))).1
  have k2 := (stepD_sz (step_iff.2 (h.gq.ok _ (getD_mem' b)))).1
  refine ⟨⟨fun k => ?_, fun k => ?_, fun k => ?_, fun k => ?_⟩, ?_⟩
  · rw [e1, e2, exS_K k.1, exS_K k.2] at hd he
    rw [jd_KK, show n.toNat = (n.toNat - 1) + 1 by omega] at hd
    rw [newN_app, oldN_app, (lens_Ks _ _).1, (lens_Ks _ _).2] at he
    have hd2 := hd.keep
    rw [show (((n.toNat - 1 + 1 : Nat)) : Int) = n by omega] at hd2
    exact ⟨g1, g2, dn_tk h.dp, dn_tk h.dq, by omega, hd2⟩
  · rw [e1, e2, exS_K k.1, exS_C k.2] at hd he
    rw [jd_KC] at hd
    rw [newN_app, oldN_app, (lens_Cs _).1, (lens_Ks _ _).2] at he
    have hd2 := hd.cuts
    rw [show ((n.toNat : Nat) : Int) = n by omega] at hd2
    exact ⟨g1, g2, dn_tk h.dp, dn_tk h.dq, by omega, hd2⟩
  · have hz := tkE_len (n := n) k.1 p1 (by omega) (by omega)
    rw [e1, e2, exS_A k.1, exS_K k.2] at hd he
    rw [newN_app, oldN_app, (lens_Ks _ _).1, (lens_As _).2] at he
    rw [← hz, jd_AK] at hd
    exact ⟨g1, g2, dn_tk h.dp, dn_tk h.dq, by omega, hd.elems⟩
  · have hz := tkE_len (n := n) k.1 p1 (by omega) (by omega)
    rw [e1, e2, exS_A k.1, exS_C k.2] at hd he
    rw [newN_app, oldN_app, (lens_Cs _).1, (lens_As _).2] at he
    rw [← hz, jd_AC] at hd
    exact ⟨g1, g2, dn_tk h.dp, dn_tk h.dq, by omega, hd⟩
  · have hs := exS_sz (h.gp.ok _ (getD_mem' a))
    have hl := congrArg List.length (tkE_split (n := n) (h.gp.ok _ (getD_mem' a)) p1 (by omega) (by omega))
    simp only [List.length_append, List.length_drop] at hl
    unfold jmD
    rw [e1, e2, List.length_append, List.length_append]
    omega
end
end Go.Ch
end
section
set_option linter.unusedVariables false
set_option linter.unusedSimpArgs false
namespace Go.Ch
open Go Go.Ab

def joinD (a b : List DStep) : List DStep := doneD (joinDU (exD a) (exD b))
theorem rd_one {l : List DStep} {u : Int} (h : GoodRD l u) (h0 : 0 < l.length) : ((l.getD 0 default).kind ≠ 1 → 1 ≤ oldN (ruD l u)) ∧ ((l.getD 0 default).kind ≠ 2 → 1 ≤ newN (ruD l u)) := by
  have hl := h.lt h0
  have hp := h.pos
  obtain ⟨g, e⟩ := tkD_ok (n := 1) h h0 (by decide) (by omega)
  have hs := (stepD_sz (step_iff.2 (h.ok _ (getD_mem' h0)))).1
  rcases hs with k | k | k
  · rw [e, exS_K k, oldN_app, newN_app, (lens_Ks _ _).1, (lens_Ks _ _).2]; constructor <;> intro _ <;> omega
  · have hz := tkE_len (n := 1) k hp (by omega) (by omega)
    rw [e, exS_A k, oldN_app, newN_app, (lens_As _).1, (lens_As _).2, hz]; constructor <;> intro _ <;> omega
  · rw [e, exS_C k, oldN_app, newN_app, (lens_Cs _).1, (lens_Cs _).2]; constructor <;> intro _ <;> omega
variable {w : DWr} {ps qs : List DStep} {pu qu : Int} {T : Nat} {G : DWr}
theorem JD.two (h : JD w ps pu qs qu T G) (h0 : 0 < ps.length ∨ 0 < qs.length) (hp : 0 < ps.length → (ps.getD 0 default).kind ≠ 2) (hq : 0 < qs.length → (qs.getD 0 default).kind ≠ 1) : 0 < ps.length ∧ 0 < qs.length := by
  have he := h.eq
  rcases Nat.eq_zero_or_pos ps.length with a | a
  · rcases Nat.eq_zero_or_pos qs.length with b | b
    · omega
    · have := (rd_one h.gq b).1 (hq b)
      rw [ruD_nil a] at he
      simp only [newN] at he
      omega
  · rcases Nat.eq_zero_or_pos qs.length with b | b
    · have := (rd_one h.gp a).2 (hp a)
      rw [ruD_nil b] at he
      simp only [oldN] at he
      omega
    · exact ⟨a, b⟩
theorem JD.done (h : JD w ps pu qs qu T G) (a : ps.length = 0) (b : qs.length = 0) : w = G := by
  have := h.di
  rw [ruD_nil a, ruD_nil b] at this
  exact DI.done (by simpa [joinDU] using this)
theorem an_up {m k : Nat} {l : List Elem} (h : AN m l) (hm : m ≤ k) : AN k l := fun x hx => Nat.le_trans (h x hx) hm
end Go.Ch
end
section
set_option linter.unusedVariables false
set_option linter.unusedSimpArgs false
namespace Go.Ch
open Go Go.Ab

def NoAD : List DU → Prop
  | .A _ :: _ => False
  | _ => True
theorem pd_KK (n : Nat) (c d : List Attr) (p q : List DU) : pairDU (List.replicate n (.K c) ++ p) (List.replicate n (.K d) ++ q) = (List.replicate n (.K (fm wioG c d)) ++ (pairDU p q).1, List.replicate n (.K d) ++ (pairDU p q).2) := by
  induction n with
  | zero => rfl
  | succ n ih => rw [List.replicate_succ, List.replicate_succ, List.replicate_succ, List.cons_append, List.cons_append, pairDU, ih]; rfl
theorem pd_KC (n : Nat) (c : List Attr) (p q : List DU) : pairDU (List.replicate n (.K c) ++ p) (List.replicate n .C ++ q) = ((pairDU p q).1, List.replicate n .C ++ (pairDU p q).2) := by
  induction n with
  | zero => rfl
  | succ n ih => rw [List.replicate_succ, List.replicate_succ, List.cons_append, List.cons_append, pairDU, ih]; rfl
theorem pd_CK (n : Nat) (c : List Attr) (p q : List DU) : pairDU (List.replicate n .C ++ p) (List.replicate n (.K c) ++ q) = (List.replicate n .C ++ (pairDU p q).1, (pairDU p q).2) := by
  induction n with
  | zero => rfl
  | succ n ih => rw [List.replicate_succ, List.replicate_succ, List.cons_append, List.cons_append, pairDU, ih]; rfl
theorem pd_CC (n : Nat) (p q : List DU) : pairDU (List.replicate n .C ++ p) (List.replicate n .C ++ q) = pairDU p q := by
  induction n with
  | zero => rfl
  | succ n ih => rw [List.replicate_succ, List.cons_append, List.cons_append, pairDU, ih]
def pairD1 (a b : List DStep) : List DStep := doneD (pairDU (exD a) (exD b)).1
def pairD2 (a b : List DStep) : List DStep := doneD (pairDU (exD a) (exD b)).2
structure PD (wx wy : DWr) (ps : List DStep) (pu : Int) (qs : List DStep) (qu : Int) (T U : Nat) (G H : DWr) : Prop where
  gp : GoodRD ps pu
  gq : GoodRD qs qu
  dp : DN 100000000000 ps
  dq : DN 100000000000 qs
  eq : oldN (ruD ps pu) = oldN (ruD qs qu)
  dx : DI wx (pairDU (ruD ps pu) (ruD qs qu)).1 T G
  dy : DI wy (pairDU (ruD ps pu) (ruD qs qu)).2 U H
section
variable {wx wy : DWr} {ps qs : List DStep} {pu qu : Int} {T U : Nat} {G H : DWr}
theorem PD.both (h : PD wx wy ps pu qs qu T U G H) (a : 0 < ps.length) (b : 0 < qs.length) (kp : (ps.getD 0 default).kind ≠ 1) (kq : (qs.getD 0 default).kind ≠ 1) {n : Int} (hn : n = min (szD (ps.getD 0 default) - pu) (szD (qs.getD 0 default) - qu)) :
    (((ps.getD 0 default).kind = 0 ∧ (qs.getD 0 default).kind = 0 → PD ⟨keepD (flushD wx) n (fm wioG (ps.getD 0 default).attrs (qs.getD 0 default).attrs), [], 0⟩ ⟨keepD (flushD wy) n (qs.getD 0 default).attrs, [], 0⟩ (tkL ps pu n) (tkN ps pu n) (tkL qs qu n) (tkN qs qu n) T U G H) ∧
    ((ps.getD 0 default).kind = 0 ∧ (qs.getD 0 default).kind = 2 → PD wx ⟨wy.out, wy.add, wy.cut + n⟩ (tkL ps pu n) (tkN ps pu n) (tkL qs qu n) (tkN qs qu n) T U G H) ∧
    ((ps.getD 0 default).kind = 2 ∧ (qs.getD 0 default).kind = 0 → PD ⟨wx.out, wx.add, wx.cut + n⟩ wy (tkL ps pu n) (tkN ps pu n) (tkL qs qu n) (tkN qs qu n) T U G H) ∧
    ((ps.getD 0 default).kind = 2 ∧ (qs.getD 0 default).kind = 2 → PD wx wy (tkL ps pu n) (tkN ps pu n) (tkL qs qu n) (tkN qs qu n) T U G H)) ∧
    jmD (tkL ps pu n) (tkN ps pu n) (tkL qs qu n) (tkN qs qu n) < jmD ps pu qs qu := by
  have l1 := h.gp.lt a
  have l2 := h.gq.lt b
  have p1 := h.gp.pos
  have p2 := h.gq.pos
  obtain ⟨g1, e1⟩ := tkD_ok (n := n) h.gp a (by omega) (by omega)
  obtain ⟨g2, e2⟩ := tkD_ok (n := n) h.gq b (by omega) (by omega)
  have hx := h.dx
  have hy := h.dy
  have he := h.eq
  refine ⟨⟨fun k => ?_, fun k => ?_, fun k => ?_, fun k => ?_⟩, ?_⟩
  · rw [e1, e2, exS_K k.1, exS_K k.2] at hx hy he
    rw [pd_KK, show n.toNat = (n.toNat - 1) + 1 by omega] at hx hy
    rw [oldN_app, oldN_app, (lens_Ks _ _).1, (lens_Ks _ _).1] at he
    have hx2 := hx.keep
    have hy2 := hy.keep
    rw [show (((n.toNat - 1 + 1 : Nat)) : Int) = n by omega] at hx2 hy2
    exact ⟨g1, g2, dn_tk h.dp, dn_tk h.dq, by omega, hx2, hy2⟩
  · rw [e1, e2, exS_K k.1, exS_C k.2] at hx hy he
    rw [pd_KC] at hx hy
    rw [oldN_app, oldN_app, (lens_Cs _).1, (lens_Ks _ _).1] at he
    have hy2 := hy.cuts
    rw [show ((n.toNat : Nat) : Int) = n by omega] at hy2
    exact ⟨g1, g2, dn_tk h.dp, dn_tk h.dq, by omega, hx, hy2⟩
  · rw [e1, e2, exS_C k.1, exS_K k.2] at hx hy he
    rw [pd_CK] at hx hy
    rw [oldN_app, oldN_app, (lens_Cs _).1, (lens_Ks _ _).1] at he
    have hx2 := hx.cuts
    rw [show ((n.toNat : Nat) : Int) = n by omega] at hx2
    exact ⟨g1, g2, dn_tk h.dp, dn_tk h.dq, by omega, hx2, hy⟩
  · rw [e1, e2, exS_C k.1, exS_C k.2] at hx hy he
    rw [pd_CC] at hx hy
    rw [oldN_app, oldN_app, (lens_Cs _).1] at he
    exact ⟨g1, g2, dn_tk h.dp, dn_tk h.dq, by omega, hx, hy⟩
  · have hs := exS_sz (h.gp.ok _ (getD_mem' a))
    have hl := congrArg List.length (tkE_split (n := n) (h.gp.ok _ (getD_mem' a)) p1 (by omega) (by omega))
    simp only [List.length_append, List.length_drop] at hl
    unfold jmD
    rw [e1, e2, List.length_append, List.length_append]
    omega
theorem PD.two (h : PD wx wy ps pu qs qu T U G H) (h0 : 0 < ps.length ∨ 0 < qs.length) (hp : 0 < ps.length → (ps.getD 0 default).kind ≠ 1) (hq : 0 < qs.length → (qs.getD 0 default).kind ≠ 1) : 0 < ps.length ∧ 0 < qs.length := by
  have he := h.eq
  rcases Nat.eq_zero_or_pos ps.length with a | a
  · rcases Nat.eq_zero_or_pos qs.length with b | b
    · omega
    · have := (rd_one h.gq b).1 (hq b)
      rw [ruD_nil a] at he
      simp only [oldN] at he
      omega
  · rcases Nat.eq_zero_or_pos qs.length with b | b
    · have := (rd_one h.gp a).1 (hp a)
      rw [ruD_nil b] at he
      simp only [oldN] at he
      omega
    · exact ⟨a, b⟩
theorem PD.done (h : PD wx wy ps pu qs qu T U G H) (a : ps.length = 0) (b : qs.length = 0) : wx = G ∧ wy = H := by
  have hx := h.dx
  have hy := h.dy
  rw [ruD_nil a, ruD_nil b] at hx hy
  exact ⟨DI.done (by simpa [pairDU] using hx), DI.done (by simpa [pairDU] using hy)⟩
end
end Go.Ch
end
section
set_option linter.unusedVariables false
set_option linter.unusedSimpArgs false
namespace Go.Ch
open Go Go.Ab

def lenE (s : DStep) : Int := if (s.kind = 1 ∧ s.elems.length = 0 ∧ stepD s = 11) ∨ (s.kind ≠ 1 ∧ s.n = 0 ∧ stepD s = 2) then chkA true s.attrs 0 else stepD s
def tdW (w : DWr) (s : DStep) : DWr :=
  if s.kind = 0 then (if s.n = 0 then w else ⟨keepD (flushD w) s.n s.attrs, [], 0⟩) else if s.kind = 1 then ⟨w.out, w.add ++ s.elems, w.cut⟩ else ⟨w.out, w.add, w.cut + s.n⟩
def tdBad (w : DWr) (s : DStep) : Prop := s.kind ≠ 0 ∧ s.kind ≠ 1 ∧ 2147483647 < w.cut + s.n
instance (w : DWr) (s : DStep) : Decidable (tdBad w s) := by unfold tdBad; infer_instance
def tidyG (w : DWr) : List DStep → List DStep × Int
  | [] => if checkD (flushD w) = 0 then (flushD w, 0) else ([], 3)
  | s :: l => if lenE s ≠ 0 then ([], lenE s) else if tdBad w s then ([], 3) else tidyG (tdW w s) l
def tidyL (d : List DStep) : List DStep := (tidyG ⟨[], [], 0⟩ d).1
def tidyE (d : List DStep) : Int := (tidyG ⟨[], [], 0⟩ d).2
theorem lenE_ok {s : DStep} (h : lenE s = 0) : (s.kind = 0 ∨ s.kind = 1 ∨ s.kind = 2) ∧ 0 ≤ s.n ∧ s.n ≤ 2147483647 := by
  unfold lenE at h
  split at h
  · rename_i hc
    rcases hc with ⟨k, e, q⟩ | ⟨k, n0, q⟩
    · unfold stepD at q
      rw [if_pos k] at q
      split at q
      · cases q
      · rename_i hh; exact ⟨.inr (.inl k), by omega, by omega⟩
    · unfold stepD at q
      rw [if_neg k] at q
      split at q
      · rename_i hk; exact ⟨by omega, by omega, by omega⟩
      · cases q
  · obtain ⟨a, b, c, _⟩ := stepD_sz h; exact ⟨a, b, c⟩
/-- What holds of all steps and elements that come in holds of all that go out. -/
theorem keep_all {P : List Attr → Prop} {R : Elem → Prop} {l : List DStep} {n : Int} {c : List Attr} (h : ∀ s ∈ l, P s.attrs ∧ ∀ x ∈ s.elems, R x) (hc : P c) : ∀ s ∈ keepD l n c, P s.attrs ∧ ∀ x ∈ s.elems, R x := by
  unfold keepD
  split
  · rename_i hl
    intro s hs
    rcases List.mem_or_eq_of_mem_set hs with hs | rfl
    · exact h s hs
    · exact h (l.getD (l.length - 1) default) (getD_mem' (by omega))
  · intro s hs
    rcases List.mem_append.1 hs with hs | hs
    · exact h s hs
    · rw [List.mem_singleton] at hs; subst hs; exact ⟨hc, fun x hx => by cases hx⟩
theorem flush_all {P : List Attr → Prop} {R : Elem → Prop} {w : DWr} (h0 : P []) (h : ∀ s ∈ w.out, P s.attrs ∧ ∀ x ∈ s.elems, R x) (ha : ∀ x ∈ w.add, R x) : ∀ s ∈ flushD w, P s.attrs ∧ ∀ x ∈ s.elems, R x := by
  unfold flushD
  intro s hs
  rcases List.mem_append.1 hs with hs | hs
  · rcases List.mem_append.1 hs with hs | hs
    · exact h s hs
    · split at hs
      · rw [List.mem_singleton] at hs; subst hs; exact ⟨h0, ha⟩
      · cases hs
  · split at hs
    · rw [List.mem_singleton] at hs; subst hs; exact ⟨h0, fun x hx => by cases hx⟩
    · cases hs
theorem tdW_all {P : List Attr → Prop} {R : Elem → Prop} {w : DWr} {s : DStep} (h0 : P []) (h : ∀ s ∈ w.out, P s.attrs ∧ ∀ x ∈ s.elems, R x) (ha : ∀ x ∈ w.add, R x) (hs : P s.attrs ∧ ∀ x ∈ s.elems, R x) :
    (∀ t ∈ (tdW w s).out, P t.attrs ∧ ∀ x ∈ t.elems, R x) ∧ ∀ x ∈ (tdW w s).add, R x := by
  unfold tdW
  split
  · split
    · exact ⟨h, ha⟩
    · exact ⟨keep_all (flush_all h0 h ha) hs.1, fun x hx => by cases hx⟩
  · split
    · exact ⟨h, fun x hx => by rcases List.mem_append.1 hx with hx | hx; exact ha x hx; exact hs.2 x hx⟩
    · exact ⟨h, ha⟩
theorem lenE_step {s : DStep} (h : stepD s = 0) : lenE s = 0 := by
  unfold lenE
  rw [if_neg]
  · exact h
  · rintro (⟨_, _, q⟩ | ⟨_, _, q⟩) <;> rw [h] at q <;> cases q
/-! ### A delta stays as it is -/
/-! ### Also in parts -/
def spl (s : DStep) : List DStep := List.replicate s.n.toNat ⟨s.kind, 1, s.attrs, []⟩ ++ s.elems.flatMap fun e => [⟨1, 0, [], [e]⟩, ⟨0, 0, [], []⟩]
def splitL (d : List DStep) : List DStep := d.flatMap spl
end Go.Ch
end
section
set_option linter.unusedVariables false
set_option linter.unusedSimpArgs false
namespace Go.Ch
open Go Go.Ab

def elS : List DStep → Nat
  | [] => 0
  | s :: l => s.elems.length + elS l
theorem elS_app (p q : List DStep) : elS (p ++ q) = elS p + elS q := by
  induction p with
  | nil => simp [elS]
  | cons s p ih => simp only [List.cons_append, elS, ih]; omega
theorem elS_take {d : List DStep} {i : Nat} (h : i < d.length) : elS (d.take (i + 1)) = elS (d.take i) + (d.getD i default).elems.length ∧ elS (d.take (i + 1)) ≤ elS d := by
  constructor
  · rw [List.take_succ_eq_append_getElem h, elS_app, show d.getD i default = d[i] by simp [List.getD, List.getElem?_eq_getElem h]]; simp [elS]
  · conv => rhs; rw [← List.take_append_drop (i + 1) d, elS_app]
    omega
structure TB (d : List DStep) (i : Nat) (w : DWr) : Prop where
  out : w.out.length ≤ 3 * i
  add : w.add.length ≤ elS (d.take i)
  cut : 0 ≤ w.cut ∧ w.cut ≤ 2147483647
  n : ∀ s ∈ w.out, 0 ≤ s.n ∧ s.n ≤ 2147483647 * ((i : Int) + 1)
  dn : ∀ s ∈ w.out, s.attrs.length ≤ 100000000000 ∧ ∀ x ∈ s.elems, x.attrs.length ≤ 100000000000
  an : ∀ x ∈ w.add, x.attrs.length ≤ 100000000000
  el : ∀ s ∈ w.out, s.elems.length ≤ elS (d.take i)
theorem TB.start (d : List DStep) : TB d 0 ⟨[], [], 0⟩ := ⟨by simp, by simp, ⟨by simp, by simp⟩, fun s h => absurd h List.not_mem_nil, fun s h => absurd h List.not_mem_nil, fun s h => absurd h List.not_mem_nil, fun s h => absurd h List.not_mem_nil⟩
theorem flush_n {w : DWr} {B : Int} (hB : 2147483647 ≤ B) (hc : 0 ≤ w.cut ∧ w.cut ≤ 2147483647) (h : ∀ s ∈ w.out, 0 ≤ s.n ∧ s.n ≤ B) : ∀ s ∈ flushD w, 0 ≤ s.n ∧ s.n ≤ B := by
  unfold flushD
  intro s hs
  rcases List.mem_append.1 hs with hs | hs
  · rcases List.mem_append.1 hs with hs | hs
    · exact h s hs
    · split at hs
      · rw [List.mem_singleton] at hs; subst hs; simp only; omega
      · cases hs
  · split at hs
    · rw [List.mem_singleton] at hs; subst hs; simp only; omega
    · cases hs
theorem flush_el {w : DWr} {B : Nat} (ha : w.add.length ≤ B) (h : ∀ s ∈ w.out, s.elems.length ≤ B) : ∀ s ∈ flushD w, s.elems.length ≤ B := by
  unfold flushD
  intro s hs
  rcases List.mem_append.1 hs with hs | hs
  · rcases List.mem_append.1 hs with hs | hs
    · exact h s hs
    · split at hs
      · rw [List.mem_singleton] at hs; subst hs; exact ha
      · cases hs
  · split at hs
    · rw [List.mem_singleton] at hs; subst hs; simp
    · cases hs
theorem keep_n {l : List DStep} {B B' n : Int} {c : List Attr} (h : ∀ s ∈ l, 0 ≤ s.n ∧ s.n ≤ B) (h1 : 0 ≤ n) (h2 : B + n ≤ B') (h3 : 0 ≤ B) : ∀ s ∈ keepD l n c, 0 ≤ s.n ∧ s.n ≤ B' := by
  unfold keepD
  split
  · intro s hs
    rcases List.mem_or_eq_of_mem_set hs with hs | rfl
    · have := h s hs; omega
    · have := h (l.getD (l.length - 1) default) (getD_mem' (by omega))
      simp only; omega
  · intro s hs
    rcases List.mem_append.1 hs with hs | hs
    · have := h s hs; omega
    · rw [List.mem_singleton] at hs; subst hs; simp only; omega
theorem keep_el {l : List DStep} {B : Nat} {n : Int} {c : List Attr} (h : ∀ s ∈ l, s.elems.length ≤ B) : ∀ s ∈ keepD l n c, s.elems.length ≤ B := by
  unfold keepD
  split
  · intro s hs
    rcases List.mem_or_eq_of_mem_set hs with hs | rfl
    · exact h s hs
    · exact h (l.getD (l.length - 1) default) (getD_mem' (by omega))
  · intro s hs
    rcases List.mem_append.1 hs with hs | hs
    · exact h s hs
    · rw [List.mem_singleton] at hs; subst hs; simp
theorem TB.flush {d : List DStep} {i : Nat} {w : DWr} (h : TB d i w) (hi : i ≤ 100000000) (he : elS d ≤ 100000000000) (hd : elS (d.take i) ≤ elS d) :
    (∀ s ∈ flushD w, 0 ≤ s.n ∧ s.n ≤ 1000000000000000000) ∧ DN 400000000000 (flushD w) := by
  refine ⟨flush_n (by decide) h.cut (fun s hs => by have := h.n s hs; omega), fun s hs => ?_⟩
  have h1 := flush_all (P := fun l => l.length ≤ 100000000000) (R := fun x => x.attrs.length ≤ 100000000000) (by simp) h.dn h.an s hs
  have h2 := flush_el h.add h.el s hs
  exact ⟨by omega, by have := h1.1; omega, fun x hx => by have := h1.2 x hx; omega⟩
theorem TB.next {d : List DStep} {i : Nat} {w : DWr} (h : TB d i w) (hi : i < d.length) (hd : DN 100000000000 d) (hl : lenE (d.getD i default) = 0) (hb : ¬ tdBad w (d.getD i default)) : TB d (i + 1) (tdW w (d.getD i default)) := by
  obtain ⟨k, n0, n1⟩ := lenE_ok hl
  obtain ⟨e1, _⟩ := elS_take hi
  obtain ⟨b1, b2, b3⟩ := hd _ (getD_mem' hi)
  generalize d.getD i default = s at *
  have ha := tdW_all (P := fun l => l.length ≤ 100000000000) (R := fun x => x.attrs.length ≤ 100000000000) (w := w) (s := s) (by simp) h.dn h.an ⟨b2, b3⟩
  have hn := h.n
  have hc := h.cut
  have ho := h.out
  have hadd := h.add
  refine ⟨?_, ?_, ?_, ?_, ha.1, ha.2, ?_⟩
  · unfold tdW
    split
    · split
      · omega
      · have := keepD_len (flushD w) s.n s.attrs
        have := flushD_len w
        simp only; omega
    · split <;> simp only <;> omega
  · unfold tdW
    split
    · split
      · omega
      · simp
    · split
      · simp only [List.length_append]; omega
      · simp only; omega
  · unfold tdW
    split
    · split
      · exact hc
      · exact ⟨Int.le_refl 0, (by decide : (0:Int) ≤ 2147483647)⟩
    · split
      · exact hc
      · rename_i k0 k1
        unfold tdBad at hb
        simp only
        omega
  · have up : ∀ t ∈ w.out, 0 ≤ t.n ∧ t.n ≤ 2147483647 * (((i + 1 : Nat) : Int) + 1) := fun t ht => by have := hn t ht; omega
    unfold tdW
    split
    · split
      · exact up
      · exact keep_n (flush_n (by omega) hc hn) (B' := 2147483647 * (((i + 1 : Nat) : Int) + 1)) (by omega) (by omega) (by omega)
    · split
      · exact up
      · exact up
  · have up : ∀ t ∈ w.out, t.elems.length ≤ elS (d.take (i + 1)) := fun t ht => by have := h.el t ht; omega
    unfold tdW
    split
    · split
      · exact up
      · exact keep_el (flush_el (by omega) up)
    · split
      · exact up
      · exact up
end Go.Ch
namespace Go.Ch
open Go Go.Ab
theorem tidyG_at {d : List DStep} {i : Nat} (h : i < d.length) (w : DWr) : tidyG w (d.drop i) = if lenE (d.getD i default) ≠ 0 then ([], lenE (d.getD i default)) else if tdBad w (d.getD i default) then ([], 3) else tidyG (tdW w (d.getD i default)) (d.drop (i + 1)) := by
  rw [dropD h, tidyG]
theorem tidyG_end {d : List DStep} {i : Nat} (h : d.length ≤ i) (w : DWr) : tidyG w (d.drop i) = if checkD (flushD w) = 0 then (flushD w, 0) else ([], 3) := by
  rw [List.drop_eq_nil_of_le h, tidyG]
end Go.Ch
end
section
set_option linter.unusedVariables false
set_option linter.unusedSimpArgs false
namespace Go.Ch
open Go Go.Ab

/-! ### The parts -/
theorem splitL_app (p q : List DStep) : splitL (p ++ q) = splitL p ++ splitL q := by unfold splitL; simp
theorem splitL_take {d : List DStep} {i : Nat} (h : i < d.length) : splitL (d.take (i + 1)) = splitL (d.take i) ++ spl (d.getD i default) := by
  rw [List.take_succ_eq_append_getElem h, splitL_app, show d.getD i default = d[i] by simp [List.getD, List.getElem?_eq_getElem h]]
  simp [splitL]
theorem pair_len (l : List Elem) : (l.flatMap fun e => [(⟨1, 0, [], [e]⟩ : DStep), ⟨0, 0, [], []⟩]).length = 2 * l.length := by
  induction l with
  | nil => rfl
  | cons x l ih => simp only [List.flatMap_cons, List.length_append, ih, List.length_cons, List.length_nil]; omega
theorem spl_len {s : DStep} : (spl s).length = s.n.toNat + 2 * s.elems.length := by unfold spl; rw [List.length_append, List.length_replicate, pair_len]
theorem split_le {d : List DStep} {i : Nat} (h : i < d.length) : (splitL (d.take i)).length + (d.getD i default).n.toNat + 2 * (d.getD i default).elems.length ≤ (splitL d).length := by
  have e : splitL d = splitL (d.take (i + 1)) ++ splitL (d.drop (i + 1)) := by rw [← splitL_app, List.take_append_drop]
  have := splitL_take h
  rw [e, this, List.length_append, List.length_append, spl_len]
  omega
theorem elS_le : ∀ {l : List DStep}, (∀ s ∈ l, s.elems.length ≤ 1) → elS l ≤ l.length
  | [], _ => Nat.le_refl _
  | s :: l, h => by
    have h1 := h s (by simp)
    have h2 := elS_le (l := l) (fun t ht => h t (by simp [ht]))
    simp only [elS, List.length_cons]; omega
theorem pair_step {l : List Elem} {k : Nat} (h : k < l.length) : ((l.take (k + 1)).flatMap fun e => [(⟨1, 0, [], [e]⟩ : DStep), ⟨0, 0, [], []⟩]) = ((l.take k).flatMap fun e => [(⟨1, 0, [], [e]⟩ : DStep), ⟨0, 0, [], []⟩]) ++ [⟨1, 0, [], (l.take (k + 1)).drop k⟩, ⟨0, 0, [], []⟩] := by
  have e : (l.take (k + 1)).drop k = [l[k]] := by
    rw [List.take_succ_eq_append_getElem h, List.drop_append, List.drop_eq_nil_of_le (by simp; omega)]
    simp [show k - min k l.length = 0 by omega]
  rw [e, List.take_succ_eq_append_getElem h, List.flatMap_append]
  rfl
structure SB (d : List DStep) (i : Nat) (o : List DStep) (p q : Nat) : Prop where
  eq : o = splitL (d.take i) ++ List.replicate p ⟨(d.getD i default).kind, 1, (d.getD i default).attrs, []⟩ ++ ((d.getD i default).elems.take q).flatMap fun e => [(⟨1, 0, [], [e]⟩ : DStep), ⟨0, 0, [], []⟩]
theorem SB.len {d : List DStep} {i p q : Nat} {o : List DStep} (h : SB d i o p q) (hi : i < d.length) (hp : p ≤ (d.getD i default).n.toNat) (hq : q ≤ (d.getD i default).elems.length) :
    o.length = (splitL (d.take i)).length + p + 2 * q ∧ (splitL (d.take i)).length + (d.getD i default).n.toNat + 2 * (d.getD i default).elems.length ≤ (splitL d).length := by
  refine ⟨?_, split_le hi⟩
  rw [h.eq]
  simp only [List.length_append, List.length_replicate, pair_len, List.length_take]
  omega
theorem SB.start {d : List DStep} {i : Nat} : SB d i (splitL (d.take i)) 0 0 := ⟨by simp⟩
theorem SB.one {d : List DStep} {i p : Nat} {o : List DStep} (h : SB d i o p 0) : SB d i (o ++ [⟨(d.getD i default).kind, 1, (d.getD i default).attrs, []⟩]) (p + 1) 0 := ⟨by
  have := h.eq
  simp only [List.take_zero, List.flatMap_nil, List.append_nil] at this ⊢
  rw [this, List.append_assoc, ← List.replicate_succ']⟩
theorem SB.two {d : List DStep} {i p q : Nat} {o : List DStep} (h : SB d i o p q) (hq : q < (d.getD i default).elems.length) : SB d i (o ++ [⟨1, 0, [], ((d.getD i default).elems.take (q + 1)).drop q⟩, ⟨0, 0, [], []⟩]) p (q + 1) := ⟨by
  rw [h.eq, pair_step hq]; simp only [List.append_assoc]⟩
theorem SB.fin {d : List DStep} {i p q : Nat} {o : List DStep} (h : SB d i o p q) (hi : i < d.length) (hp : p = (d.getD i default).n.toNat) (hq : q = (d.getD i default).elems.length) : o = splitL (d.take (i + 1)) := by
  rw [h.eq, splitL_take hi, spl, hp, hq, List.take_length, List.append_assoc]
end Go.Ch
end
section
set_option linter.unusedVariables false
set_option linter.unusedSimpArgs false
namespace Go.Ch
open Go Go.Ab

def putA (a : Attr) : List Attr → Bool → List Attr
  | [], d => if d = true then [] else [a]
  | x :: l, d => (if d = false ∧ slt x.name a.name = false then [a] else []) ++ ((if seq x.name a.name = true then [] else [x]) ++ putA a l (d || !(slt x.name a.name)))
theorem putA_len (a : Attr) : ∀ (l : List Attr) (d : Bool), (putA a l d).length ≤ l.length + 1
  | [], d => by unfold putA; split <;> simp
  | x :: l, d => by
    have := putA_len a l (d || !(slt x.name a.name))
    by_cases hd : d = true
    · subst hd
      have h2 : ∀ l : List Attr, (putA a l true).length ≤ l.length := by
        intro l
        induction l with
        | nil => simp [putA]
        | cons y l ih => unfold putA; simp only [Bool.true_or, List.length_append]; rw [if_neg (by simp)]; split <;> simp <;> omega
      have := h2 (x :: l); simp at this ⊢; omega
    · have hd : d = false := by simpa using hd
      subst hd
      by_cases hs : slt x.name a.name = true
      · unfold putA
        rw [if_neg (by rw [hs]; simp)]
        simp only [hs, Bool.or_false, Bool.not_true, List.nil_append, List.length_append] at this ⊢
        split <;> simp <;> omega
      · have hs : slt x.name a.name = false := by simpa using hs
        have h2 : ∀ l : List Attr, (putA a l true).length ≤ l.length := by
          intro l
          induction l with
          | nil => simp [putA]
          | cons y l ih => unfold putA; simp only [Bool.true_or, List.length_append]; rw [if_neg (by simp)]; split <;> simp <;> omega
        have := h2 l
        unfold putA
        rw [if_pos ⟨rfl, hs⟩]
        simp only [hs, Bool.false_or, Bool.not_false, List.length_append]
        split <;> simp <;> omega
theorem putA_true (a : Attr) (l : List Attr) : putA a l true = l.filter fun x => !seq x.name a.name := by
  induction l with
  | nil => rfl
  | cons x l ih =>
    unfold putA
    rw [if_neg (by simp)]
    simp only [Bool.true_or, ih, List.nil_append, List.filter_cons]
    cases seq x.name a.name <;> simp
theorem look_filter_ne {l : List Attr} {m n : ByteArray} : look (l.filter fun x => !seq x.name m) n = if m = n then none else look l n := by
  induction l with
  | nil => simp [look]
  | cons x l ih =>
    rw [List.filter_cons]
    by_cases e : x.name = m
    · rw [show seq x.name m = true from seq_iff.2 e]
      simp only [Bool.not_true, Bool.false_eq_true, if_false, ih]
      by_cases q : m = n
      · rw [if_pos q, if_pos q]
      · rw [if_neg q, if_neg q, look, if_neg (by rw [e]; exact q)]
    · rw [show seq x.name m = false from seq_no.2 e]
      simp only [Bool.not_false, if_true]
      rw [look, look, ih]
      by_cases q : x.name = n
      · rw [if_pos q, if_pos q, if_neg (by rw [← q]; exact fun h => e h.symm)]
      · rw [if_neg q, if_neg q]
theorem sorted_filter {l : List Attr} (p : Attr → Bool) (h : Sorted l) : Sorted (l.filter p) := by
  induction l with
  | nil => exact h
  | cons x l ih =>
    rw [List.filter_cons]
    split
    · exact ⟨fun a ha => h.1 a (List.mem_filter.1 ha).1, ih h.2⟩
    · exact ih h.2
theorem putA_above {n : ByteArray} {a : Attr} (hn : slt n a.name = true) : ∀ {l : List Attr} {d : Bool}, Above n l → Above n (putA a l d)
  | [], d, h => by
    unfold putA; split
    · exact h
    · intro x hx; rw [List.mem_singleton] at hx; subst hx; exact hn
  | y :: l, d, h => by
    unfold putA
    intro x hx
    rcases List.mem_append.1 hx with hx | hx
    · split at hx
      · rw [List.mem_singleton] at hx; subst hx; exact hn
      · cases hx
    · rcases List.mem_append.1 hx with hx | hx
      · split at hx
        · cases hx
        · rw [List.mem_singleton] at hx; subst hx; exact h _ (by simp)
      · exact putA_above hn (fun z hz => h z (by simp [hz])) x hx
theorem putA_sorted {a : Attr} : ∀ {l : List Attr}, Sorted l → Sorted (putA a l false)
  | [], h => by unfold putA; rw [if_neg (by decide)]; exact ⟨fun x hx => (by cases hx), trivial⟩
  | x :: l, h => by
    unfold putA
    by_cases hs : slt x.name a.name = true
    · rw [if_neg (by rw [hs]; simp), if_neg (by rw [seq_iff]; exact slt_ne hs)]
      simp only [hs, Bool.not_true, Bool.or_false]
      exact ⟨putA_above hs h.1, putA_sorted h.2⟩
    · have hs : slt x.name a.name = false := by simpa using hs
      rw [if_pos ⟨rfl, hs⟩]
      simp only [hs, Bool.not_false, Bool.or_true, putA_true]
      have e : (if seq x.name a.name = true then [] else [x]) ++ l.filter (fun x => !seq x.name a.name) = (x :: l).filter fun x => !seq x.name a.name := by
        rw [List.filter_cons]; cases seq x.name a.name <;> simp
      rw [e]
      refine ⟨fun y hy => ?_, sorted_filter _ h⟩
      obtain ⟨h1, h2⟩ := List.mem_filter.1 hy
      have hne : y.name ≠ a.name := by simpa [seq_no] using h2
      have hx : slt a.name x.name = true ∨ a.name = x.name := by
        cases q : slt a.name x.name with
        | true => exact .inl rfl
        | false => exact .inr (slt_tri q hs)
      rcases List.mem_cons.1 h1 with rfl | h1
      · exact hx.resolve_right (fun e => hne e.symm)
      · have h3 := h.1 y h1
        rcases hx with q | q
        · exact slt_trans q h3
        · rw [q]; exact h3
theorem putA_look {a : Attr} {n : ByteArray} : ∀ {l : List Attr}, Sorted l → look (putA a l false) n = if a.name = n then some a.val else look l n
  | [], h => by unfold putA; rw [if_neg (by decide)]; simp only [look]
  | x :: l, h => by
    unfold putA
    by_cases hs : slt x.name a.name = true
    · rw [if_neg (by rw [hs]; simp), if_neg (by rw [seq_iff]; exact slt_ne hs)]
      simp only [hs, Bool.not_true, Bool.or_false, List.nil_append, List.singleton_append]
      rw [look, putA_look h.2, look]
      by_cases q : x.name = n
      · rw [if_pos q, if_pos q, if_neg (by rw [← q]; exact fun e => slt_ne hs e.symm)]
      · rw [if_neg q, if_neg q]
    · have hs : slt x.name a.name = false := by simpa using hs
      rw [if_pos ⟨rfl, hs⟩]
      simp only [hs, Bool.not_false, Bool.or_true, putA_true]
      have e : (if seq x.name a.name = true then [] else [x]) ++ l.filter (fun x => !seq x.name a.name) = (x :: l).filter fun x => !seq x.name a.name := by
        rw [List.filter_cons]; cases seq x.name a.name <;> simp
      rw [e, List.singleton_append, look, look_filter_ne]
      by_cases q : a.name = n
      · rw [if_pos q, if_pos q]
      · rw [if_neg q, if_neg q, if_neg q]
def putsA (o c : List Attr) : List Attr := c.foldl (fun o a => putA a o false) o
theorem putsA_ok : ∀ {c o : List Attr}, Sorted c → Sorted o → Sorted (putsA o c) ∧ ∀ n, look (putsA o c) n = (look c n).or (look o n)
  | [], o, _, h => ⟨h, fun n => by simp [putsA, look]⟩
  | x :: c, o, hc, h => by
    obtain ⟨i1, i2⟩ := putsA_ok (c := c) (o := putA x o false) hc.2 (putA_sorted h)
    refine ⟨i1, fun n => ?_⟩
    have e : putsA o (x :: c) = putsA (putA x o false) c := rfl
    rw [e, i2, putA_look h, look]
    by_cases q : x.name = n
    · rw [if_pos q, if_pos q, look_above (l := c) (fun a ha => by rw [← q]; exact fun e => slt_ne (hc.1 a ha) e.symm)]; rfl
    · rw [if_neg q, if_neg q]
theorem putsA_len : ∀ (c o : List Attr), (putsA o c).length ≤ o.length + c.length
  | [], o => Nat.le_refl _
  | x :: c, o => by
    have := putsA_len c (putA x o false)
    have h2 := putA_len x o false
    have e : putsA o (x :: c) = putsA (putA x o false) c := rfl
    rw [e]; simp only [List.length_cons]; omega
def fullA (l : List Attr) : List Attr := l.filter fun a => !seq a.val { data := #[] }
def changedR (l c : List Attr) : List Attr := fullA (putsA (putsA [] l) c)
theorem look_full {l : List Attr} (h : Sorted l) (n : ByteArray) : look (fullA l) n = (look l n).bind fun v => if v = mt then none else some v := by
  induction l with
  | nil => rfl
  | cons x l ih =>
    have i := ih h.2
    unfold fullA at i ⊢
    rw [List.filter_cons]
    by_cases e : x.val = mt
    · rw [show seq x.val { data := #[] } = true from seq_iff.2 e]
      simp only [Bool.not_true, Bool.false_eq_true, if_false, i]
      rw [look]
      by_cases q : x.name = n
      · rw [if_pos q, look_above (l := l) (fun a ha => by rw [← q]; exact fun e => slt_ne (h.1 a ha) e.symm)]
        simp [e]
      · rw [if_neg q]
    · rw [show seq x.val { data := #[] } = false from seq_no.2 e]
      simp only [Bool.not_false, if_true]
      rw [look, look, i]
      by_cases q : x.name = n
      · rw [if_pos q, if_pos q]; simp [e]
      · rw [if_neg q, if_neg q]
theorem changedR_eq {l c : List Attr} (hl : VG false l) (hc : VG true c) : changedR l c = fm rawG l c := by
  obtain ⟨a1, a2⟩ := putsA_ok (c := l) (o := []) hl.1 trivial
  obtain ⟨b1, b2⟩ := putsA_ok (c := c) (o := putsA [] l) hc.1 a1
  refine sorted_ext (sorted_filter _ b1) (raw_V np_mt hl hc).1 (fun n => ?_)
  unfold changedR
  rw [look_full b1, b2, a2, fm_look np_mt fair_raw hl hc]
  unfold at2
  cases hq : look c n with
  | none =>
    cases hp : look l n with
    | none => rfl
    | some v =>
      have hv : v ≠ mt := q_val vp_mt (V.look hl hp)
      simp [look, rawG, hv, dflt]
  | some v =>
    have hn : n ≠ mt := q_ne np_mt (V.look hc hq)
    cases hp : look l n with
    | none => by_cases e : v = mt <;> simp [look, rawG, hn, e]
    | some w => by_cases e : v = mt <;> simp [look, rawG, hn, e]
end Go.Ch
namespace Go.Ch
open Go Go.Ab
theorem putA_step {l : List Attr} {i : Nat} (h : i < l.length) (a : Attr) (b : Bool) (o : List Attr) : o ++ putA a (l.drop i) b = (o ++ (if b = false ∧ slt (l.getD i default).name a.name = false then [a] else []) ++ (if seq (l.getD i default).name a.name = true then [] else [l.getD i default])) ++ putA a (l.drop (i + 1)) (b || !(slt (l.getD i default).name a.name)) := by
  have e : l.drop i = l.getD i default :: l.drop (i + 1) := by
    rw [List.drop_eq_getElem_cons h]; simp [List.getD, List.getElem?_eq_getElem h]
  rw [e, putA]; simp only [List.append_assoc]
theorem putsA_snoc (o c : List Attr) (x : Attr) : putsA o (c ++ [x]) = putA x (putsA o c) false := by unfold putsA; rw [List.foldl_append]; rfl
theorem takeA {l : List Attr} {i : Nat} (h : i < l.length) : l.take (i + 1) = l.take i ++ [l.getD i default] := by
  rw [List.take_succ_eq_append_getElem h]; simp [List.getD, List.getElem?_eq_getElem h]
theorem fullA_snoc (o : List Attr) (x : Attr) : fullA (o ++ [x]) = fullA o ++ (if seq x.val { data := #[] } = true then [] else [x]) := by
  unfold fullA; rw [List.filter_append, List.filter_cons]
  cases seq x.val { data := #[] } <;> simp
theorem fullA_len (o : List Attr) : (fullA o).length ≤ o.length := List.length_filter_le _ _
end Go.Ch
end
section
set_option linter.unusedVariables false
set_option linter.unusedSimpArgs false
namespace Go.Ch
open Go Go.Ab

def actS (x : Act) (s : DStep) : Act :=
  if s.kind = 1 then ⟨x.ins.set (x.ins.length - 1) (x.ins.getD (x.ins.length - 1) default ++ s.elems), x.cut, x.set⟩
  else ⟨x.ins ++ List.replicate s.n.toNat [], x.cut ++ List.replicate s.n.toNat (s.kind == 2), x.set ++ List.replicate s.n.toNat s.attrs⟩
def actF (x : Act) : List DStep → Act
  | [] => x
  | s :: l => actF (actS x s) l
def actOfL (d : List DStep) : Act := actF ⟨[[]], [], []⟩ d
theorem actF_at {d : List DStep} {i : Nat} (h : i < d.length) (x : Act) : actF x (d.drop i) = actF (actS x (d.getD i default)) (d.drop (i + 1)) := by rw [dropD h, actF]
theorem actF_end {d : List DStep} {i : Nat} (h : d.length ≤ i) (x : Act) : actF x (d.drop i) = x := by rw [List.drop_eq_nil_of_le h, actF]
/-- An act's lists fit. -/
def ActFit (x : Act) : Prop := x.ins.length = x.cut.length + 1 ∧ x.set.length = x.cut.length
theorem actS_fit {x : Act} (h : ActFit x) (s : DStep) : ActFit (actS x s) := by
  unfold ActFit actS at *
  split
  · simp only [List.length_set]; exact h
  · simp only [List.length_append, List.length_replicate]; omega
/-- One unit more. -/
def actU (x : Act) : DU → Act
  | .A e => ⟨x.ins.set (x.ins.length - 1) (x.ins.getD (x.ins.length - 1) default ++ [e]), x.cut, x.set⟩
  | .K c => ⟨x.ins ++ [[]], x.cut ++ [false], x.set ++ [c]⟩
  | .C => ⟨x.ins ++ [[]], x.cut ++ [true], x.set ++ [[]]⟩
theorem getD_app_l {α : Type} [Inhabited α] {l r : List α} {i : Nat} (h : i < l.length) : (l ++ r).getD i default = l.getD i default := by
  simp [List.getD, List.getElem?_append_left h]
theorem getD_app_r {α : Type} [Inhabited α] {l : List α} {y : α} : (l ++ [y]).getD l.length default = y := by simp [List.getD]
theorem getD_set_ne {α : Type} [Inhabited α] {l : List α} {i j : Nat} {y : α} (h : j ≠ i) : (l.set j y).getD i default = l.getD i default := by
  simp [List.getD, List.getElem?_set_ne h]
theorem getD_set_eq {α : Type} [Inhabited α] {l : List α} {i : Nat} {y : α} (h : i < l.length) : (l.set i y).getD i default = y := by
  simp [List.getD, List.getElem?_set_self h]
theorem actR_C' {x : Act} {i : Nat} (h : i < x.cut.length) (hb : x.cut.getD i default = true) : actR x i = (x.ins.getD i default).map .A ++ .C :: actR x (i + 1) := by
  rw [actR, if_pos h, if_pos hb]
theorem actR_K' {x : Act} {i : Nat} (h : i < x.cut.length) (hb : x.cut.getD i default = false) : actR x i = (x.ins.getD i default).map .A ++ .K (x.set.getD i default) :: actR x (i + 1) := by
  rw [actR, if_pos h, if_neg (by rw [hb]; decide)]
theorem actR_end' {x : Act} {i : Nat} (h : ¬ i < x.cut.length) : actR x i = (x.ins.getD i default).map .A := by rw [actR, if_neg h]
theorem actU_at {x : Act} {i : Nat} (h : ActFit x) (hi : i < x.cut.length) (u : DU) : i < (actU x u).cut.length ∧ (actU x u).cut.getD i default = x.cut.getD i default ∧ (actU x u).ins.getD i default = x.ins.getD i default ∧ (actU x u).set.getD i default = x.set.getD i default := by
  obtain ⟨f1, f2⟩ := h
  cases u with
  | A e => exact ⟨hi, rfl, getD_set_ne (by omega), rfl⟩
  | K c => exact ⟨by simp [actU]; omega, getD_app_l hi, getD_app_l (by omega), getD_app_l (by omega)⟩
  | C => exact ⟨by simp [actU]; omega, getD_app_l hi, getD_app_l (by omega), getD_app_l (by omega)⟩
theorem actR_U {x : Act} (h : ActFit x) (u : DU) : ∀ (m i : Nat), x.cut.length - i = m → i ≤ x.cut.length → actR (actU x u) i = actR x i ++ [u]
  | 0, i, hm, hi => by
    obtain ⟨f1, f2⟩ := h
    have hi2 : i = x.cut.length := by omega
    rw [actR_end' (x := x) (by omega)]
    cases u with
    | A e =>
      have e1 : (actU x (.A e)).ins.getD i default = x.ins.getD i default ++ [e] := by
        show (x.ins.set (x.ins.length - 1) (x.ins.getD (x.ins.length - 1) default ++ [e])).getD i default = _
        rw [show x.ins.length - 1 = i by omega, getD_set_eq (by omega)]
      rw [actR_end' (show ¬ i < (actU x (.A e)).cut.length by show ¬ i < x.cut.length; omega), e1, List.map_append]; rfl
    | K c =>
      have l1 : (actU x (.K c)).cut.length = x.cut.length + 1 := by simp [actU]
      have e1 : (actU x (.K c)).cut.getD i default = false := by rw [hi2]; exact getD_app_r
      have e2 : (actU x (.K c)).set.getD i default = c := by rw [hi2, ← f2]; exact getD_app_r
      have e3 : (actU x (.K c)).ins.getD i default = x.ins.getD i default := getD_app_l (by omega)
      have e4 : (actU x (.K c)).ins.getD (i + 1) default = [] := by rw [show i + 1 = x.ins.length by omega]; exact getD_app_r
      rw [actR_K' (by omega) e1, e2, e3, actR_end' (x := actU x (.K c)) (i := i + 1) (by omega), e4]; rfl
    | C =>
      have l1 : (actU x .C).cut.length = x.cut.length + 1 := by simp [actU]
      have e1 : (actU x .C).cut.getD i default = true := by rw [hi2]; exact getD_app_r
      have e3 : (actU x .C).ins.getD i default = x.ins.getD i default := getD_app_l (by omega)
      have e4 : (actU x .C).ins.getD (i + 1) default = [] := by rw [show i + 1 = x.ins.length by omega]; exact getD_app_r
      rw [actR_C' (by omega) e1, e3, actR_end' (x := actU x .C) (i := i + 1) (by omega), e4]; rfl
  | m + 1, i, hm, hi => by
    have ih := actR_U h u m (i + 1) (by omega) (by omega)
    obtain ⟨q1, q2, q3, q4⟩ := actU_at h (i := i) (by omega) u
    cases hb : x.cut.getD i default with
    | true => rw [actR_C' q1 (by rw [q2]; exact hb), actR_C' (x := x) (by omega) hb, q3, ih, List.append_assoc, List.cons_append]
    | false => rw [actR_K' q1 (by rw [q2]; exact hb), actR_K' (x := x) (by omega) hb, q3, q4, ih, List.append_assoc, List.cons_append]
theorem actU_fit {x : Act} (h : ActFit x) (u : DU) : ActFit (actU x u) := by
  unfold ActFit at *
  cases u <;> simp only [actU, List.length_set, List.length_append, List.length_singleton] <;> omega
def actUs (x : Act) (us : List DU) : Act := us.foldl actU x
theorem actUs_R : ∀ (us : List DU) {x : Act}, ActFit x → ActFit (actUs x us) ∧ actR (actUs x us) 0 = actR x 0 ++ us
  | [], x, h => ⟨h, by simp [actUs]⟩
  | u :: us, x, h => by
    obtain ⟨a, b⟩ := actUs_R us (actU_fit h u)
    refine ⟨a, ?_⟩
    have e : actUs x (u :: us) = actUs (actU x u) us := rfl
    rw [e, b, actR_U h u _ 0 rfl (Nat.zero_le _), List.append_assoc]; rfl
theorem actUs_As : ∀ (l : List Elem) {x : Act}, ActFit x → actUs x (l.map .A) = ⟨x.ins.set (x.ins.length - 1) (x.ins.getD (x.ins.length - 1) default ++ l), x.cut, x.set⟩
  | [], x, h => by
    obtain ⟨f1, f2⟩ := h
    have e : x.ins.set (x.ins.length - 1) (x.ins.getD (x.ins.length - 1) default ++ []) = x.ins := by
      rw [List.append_nil]
      apply List.ext_getElem?
      intro k
      rw [List.getElem?_set]
      split
      · rename_i h1
        subst h1
        rw [if_pos (by omega), List.getD, List.getElem?_eq_getElem (by omega)]; rfl
      · rfl
    rw [e]; rfl
  | y :: l, x, h => by
    have e : actUs x ((y :: l).map .A) = actUs (actU x (.A y)) (l.map .A) := rfl
    rw [e, actUs_As l (actU_fit h _)]
    obtain ⟨f1, f2⟩ := h
    simp only [actU, List.length_set]
    rw [getD_set_eq (by omega), List.set_set, List.append_assoc]; rfl
theorem actUs_rep (u : DU) (a : List Elem) (b : Bool) (c : List Attr) (hu : ∀ x : Act, actU x u = ⟨x.ins ++ [[]], x.cut ++ [b], x.set ++ [c]⟩) : ∀ (n : Nat) (x : Act), actUs x (List.replicate n u) = ⟨x.ins ++ List.replicate n [], x.cut ++ List.replicate n b, x.set ++ List.replicate n c⟩
  | 0, x => by simp [actUs]
  | n + 1, x => by
    have e : actUs x (List.replicate (n + 1) u) = actUs (actU x u) (List.replicate n u) := by rw [List.replicate_succ]; rfl
    rw [e, actUs_rep u a b c hu n, hu]
    simp only [List.append_assoc, List.replicate_succ]; rfl
theorem actS_us {x : Act} {s : DStep} (h : ActFit x) (hs : DOk s) : actS x s = actUs x (exS s) := by
  unfold actS exS
  rcases hs with ⟨k, n, a, e, _⟩ | ⟨k, e, b, n1, n2, _⟩
  · rw [if_pos k, if_pos k, actUs_As _ h]
  · rw [if_neg (by omega), if_neg (by omega)]
    by_cases k2 : s.kind = 2
    · rw [if_pos k2, actUs_rep .C [] true [] (fun x => rfl), b k2, k2]; rfl
    · have k0 : s.kind = 0 := by omega
      rw [if_neg k2, actUs_rep (.K s.attrs) [] false s.attrs (fun x => rfl), k0]; rfl
theorem actF_us : ∀ {d : List DStep} {x : Act}, ActFit x → (∀ s ∈ d, DOk s) → actF x d = actUs x (exD d)
  | [], x, _, _ => rfl
  | s :: d, x, h, hd => by
    have h1 := actS_us h (hd s (by simp))
    rw [actF, actF_us (actS_fit h s) (fun t ht => hd t (by simp [ht])), h1, exD]
    unfold actUs
    rw [List.foldl_append]
theorem actOf_ok {d : List DStep} (h : DValid d) : ActFit (actOfL d) ∧ actR (actOfL d) 0 = exD d := by
  have h0 : ActFit ⟨[[]], [], []⟩ := ⟨rfl, rfl⟩
  obtain ⟨a, b⟩ := actUs_R (exD d) h0
  unfold actOfL
  rw [actF_us h0 h.1.all]
  exact ⟨a, by rw [b]; rw [actR]; simp⟩
/-! ### Done -/
/-- A flow after an act, from an element on. -/
def doneR (f : List Elem) (x : Act) (i : Nat) : List Elem :=
  if i < f.length then x.ins.getD i default ++ ((if x.cut.getD i default = true then [] else [⟨(f.getD i default).char, (f.getD i default).ref, changedR (f.getD i default).attrs (x.set.getD i default)⟩]) ++ doneR f x (i + 1))
  else x.ins.getD f.length default
termination_by f.length - i
theorem doneR_eq {f : List Elem} {x : Act} (h : ActFit x) (hl : x.cut.length = f.length) (hf : ∀ e ∈ f, VG false e.attrs) (hc : ∀ c ∈ x.set, VG true c) : ∀ (m i : Nat), f.length - i = m → i ≤ f.length → doneR f x i = applyU (actR x i) (f.drop i)
  | 0, i, hm, hi => by
    rw [doneR, if_neg (by omega), actR, if_neg (by omega), show i = f.length by omega, List.drop_length]
    have := applyU_As (x.ins.getD f.length default) [] []
    rw [List.append_nil] at this
    rw [this]; simp [applyU]
  | m + 1, i, hm, hi => by
    have ih := doneR_eq h hl hf hc m (i + 1) (by omega) (by omega)
    rw [doneR, if_pos (by omega), ih]
    cases hb : x.cut.getD i default with
    | true =>
      rw [actR_C' (by omega) hb, applyU_As, dropD (show i < f.length by omega)]
      simp [applyU]
    | false =>
      have e := changedR_eq (hf _ (getD_mem' (l := f) (k := i) (by omega))) (hc _ (getD_mem' (l := x.set) (k := i) (by have := h.2; omega)))
      rw [actR_K' (by omega) hb, applyU_As, dropD (show i < f.length by omega), e]
      simp only [Bool.false_eq_true, if_false, applyU, chgE]
      rfl
/-- Cuts of a delta's act, and bounds. -/
theorem actR_old {x : Act} (h : ActFit x) : ∀ (m i : Nat), x.cut.length - i = m → i ≤ x.cut.length → oldN (actR x i) = x.cut.length - i
  | 0, i, hm, hi => by rw [actR, if_neg (by omega), (lens_As _).1]; omega
  | m + 1, i, hm, hi => by
    have ih := actR_old h m (i + 1) (by omega) (by omega)
    rw [actR, if_pos (by omega), oldN_app, (lens_As _).1]
    split <;> simp only [oldN] <;> omega
/-- The attributes of an act of a delta: those of its steps. -/
theorem actF_set {Q : List Attr → Prop} : ∀ {d : List DStep} {x : Act}, (∀ s ∈ d, Q s.attrs) → (∀ c ∈ x.set, Q c) → ∀ c ∈ (actF x d).set, Q c
  | [], x, _, h => h
  | s :: d, x, hd, h => by
    refine actF_set (d := d) (fun t ht => hd t (by simp [ht])) ?_
    unfold actS
    split
    · exact h
    · intro c hc
      rcases List.mem_append.1 hc with hc | hc
      · exact h c hc
      · rw [List.mem_replicate] at hc; rw [hc.2]; exact hd s (by simp)
theorem vg_steps {d : List DStep} (h : DValid d) : ∀ s ∈ d, VG true s.attrs := fun s hs => by
  rcases h.1.all s hs with ⟨_, _, a, _⟩ | ⟨_, _, _, _, _, v⟩
  · rw [a]; exact vg_nil
  · exact v
theorem after_eq {f : List Elem} {d : List DStep} (h : DValid d) (hl : oldD d = f.length) (hf : ∀ e ∈ f, VG false e.attrs) : ActFit (actOfL d) ∧ (actOfL d).cut.length = f.length ∧ doneR f (actOfL d) 0 = rawD f d := by
  obtain ⟨a, b⟩ := actOf_ok h
  have ho := actR_old a _ 0 rfl (Nat.zero_le _)
  have e : (actOfL d).cut.length = f.length := by
    rw [b] at ho
    have : oldD d = oldN (exD d) := by
      have := lens_D (l := d) (fun s hs => okW (h.1.all s hs)); omega
    omega
  refine ⟨a, e, ?_⟩
  rw [doneR_eq a e hf (actF_set (vg_steps h) (fun c hc => by cases hc)) _ 0 rfl (Nat.zero_le _), b]; rfl
end Go.Ch
namespace Go.Ch
open Go Go.Ab
structure AIv (d : List DStep) (i : Nat) (x : Act) : Prop where
  fit : ActFit x
  go : actF x (d.drop i) = actOfL d
  len : (x.cut.length : Int) + oldD (d.drop i) = oldD d
  el : ∀ e ∈ x.ins, (e.length : Int) + newD (d.drop i) ≤ newD d
theorem AIv.start {d : List DStep} : AIv d 0 ⟨[[]], [], []⟩ := ⟨⟨rfl, rfl⟩, rfl, by simp, fun e he => by rw [List.mem_singleton] at he; subst he; simp⟩
theorem AIv.next {d : List DStep} {i : Nat} {x : Act} (h : AIv d i x) (hv : DValid d) (hi : i < d.length) : AIv d (i + 1) (actS x (d.getD i default)) := by
  obtain ⟨s1, s2, s3, s4, s5, s6, s7, s8⟩ := dlens_step hi hv.1
  refine ⟨actS_fit h.fit _, (actF_at hi x).symm.trans h.go, ?_, ?_⟩
  · have := h.len
    unfold actS
    split
    · rename_i k; rw [if_pos k] at s1; simp only; omega
    · rename_i k; rw [if_neg k] at s1; simp only [List.length_append, List.length_replicate]; omega
  · have he := h.el
    unfold actS
    split
    · rename_i k
      have hz : szD (d.getD i default) = (d.getD i default).elems.length := by unfold szD; rw [if_pos k]
      rw [if_neg (by omega)] at s2
      intro e hm
      rcases List.mem_or_eq_of_mem_set hm with hm | rfl
      · have := he e hm; omega
      · have := he _ (getD_mem' (l := x.ins) (k := x.ins.length - 1) (by have := h.fit.1; omega))
        rw [List.length_append]; omega
    · rename_i k
      have : newD (d.drop (i + 1)) ≤ newD (d.drop i) := by rw [s2]; split <;> omega
      intro e hm
      rcases List.mem_append.1 hm with hm | hm
      · have := he e hm; omega
      · rw [List.mem_replicate] at hm; rw [hm.2]
        have h0 := he _ (getD_mem' (l := x.ins) (k := 0) (by have := h.fit.1; omega))
        simp only [List.length_nil]; omega
theorem AIv.last {d : List DStep} {i : Nat} {x : Act} (h : AIv d i x) : 0 < x.ins.length ∧ ((x.ins.getD (x.ins.length - 1) default).length : Int) + newD (d.drop i) ≤ newD d :=
  ⟨by have := h.fit.1; omega, h.el _ (getD_mem' (by have := h.fit.1; omega))⟩
theorem AIv.done {d : List DStep} {i : Nat} {x : Act} (h : AIv d i x) (hi : d.length ≤ i) : x = actOfL d := by have := h.go; rw [actF_end hi] at this; exact this
theorem doneR_step {f : List Elem} {x : Act} {i : Nat} (h : i < f.length) (o : List Elem) : o ++ doneR f x i = (o ++ x.ins.getD i default ++ (if x.cut.getD i default = true then [] else [⟨(f.getD i default).char, (f.getD i default).ref, changedR (f.getD i default).attrs (x.set.getD i default)⟩])) ++ doneR f x (i + 1) := by
  rw [doneR, if_pos h]; simp only [List.append_assoc]
theorem doneR_end {f : List Elem} {x : Act} {i : Nat} (h : f.length ≤ i) (o : List Elem) : o ++ doneR f x i = o ++ x.ins.getD f.length default := by rw [doneR, if_neg (by omega)]
end Go.Ch
namespace Go.Ch
open Go Go.Ab
theorem after_len {d : List DStep} {f : List Elem} (h : DValid d) (hl : oldD d = f.length) : ((rawD f d).length : Int) = newD d := by
  have hw := lens_D (l := d) (fun s hs => okW (h.1.all s hs))
  unfold rawD
  rw [applyU_len _ _ (by omega)]
  exact hw.2
end Go.Ch
end
section
set_option linter.unusedVariables false
set_option linter.unusedSimpArgs false
namespace Go.Ch
open Go Go.Ab
def stepU : DU → DStep
  | .K c => ⟨0, 1, c, []⟩
  | .A e => ⟨1, 0, [], [e]⟩
  | .C => ⟨2, 1, [], []⟩
theorem stepU_ok {u : DU} (h : UnitOk u) : DOk (stepU u) := by
  cases u with
  | K c => exact .inr ⟨.inl rfl, rfl, fun h => absurd (show (0:Int) = 2 from h) (by decide), Int.le_refl 1, (by decide : (1:Int) ≤ 2147483647), h.1⟩
  | A e => exact .inl ⟨rfl, rfl, rfl, by simp [stepU], fun x hx => by rw [show x = e by simpa [stepU] using hx]; exact h.1⟩
  | C => exact .inr ⟨.inr rfl, rfl, fun _ => rfl, Int.le_refl 1, (by decide : (1:Int) ≤ 2147483647), vg_nil⟩
theorem tdW_U (w : DWr) (u : DU) : tdW w (stepU u) = putU w u := by
  cases u <;> simp [tdW, stepU, putU]
theorem putU_cut {w : DWr} (h : 0 ≤ w.cut) (u : DU) : 0 ≤ (putU w u).cut ∧ (putU w u).cut ≤ w.cut + 1 := by
  cases u <;> simp only [putU] <;> omega
theorem tidyG_U : ∀ (us : List DU) (w : DWr), (∀ u ∈ us, UnitOk u) → 0 ≤ w.cut → w.cut + us.length ≤ 2147483647 → tidyG w (us.map stepU) = if checkD (flushD (foldD w us)) = 0 then (flushD (foldD w us), 0) else ([], 3)
  | [], w, _, _, _ => by rw [List.map_nil, tidyG, foldD]
  | u :: us, w, hu, h0, hl => by
    simp only [List.length_cons] at hl
    have hc := putU_cut h0 u
    rw [List.map_cons, tidyG, if_neg (by rw [lenE_step (step_iff.2 (stepU_ok (hu u (by simp))))]; decide), if_neg, tdW_U, tidyG_U us _ (fun v hv => hu v (by simp [hv])) hc.1 (by omega), foldD]
    rintro ⟨k0, k1, hb⟩
    have hn : (stepU u).n ≤ 1 := by cases u <;> simp [stepU]
    omega
theorem tidy_units {us : List DU} (hu : ∀ u ∈ us, UnitOk u) (hl : us.length ≤ 2147483647) : tidyL (us.map stepU) = doneD us ∧ tidyE (us.map stepU) = 0 := by
  have h1 : oldN us ≤ us.length ∧ newN us ≤ us.length := by
    clear hu hl
    induction us with
    | nil => exact ⟨Nat.le_refl _, Nat.le_refl _⟩
    | cons u us ih => cases u <;> simp only [oldN, newN, List.length_cons] <;> omega
  have hd := doneD_ok hu (by omega) (by omega)
  have := tidyG_U us ⟨[], [], 0⟩ hu (Int.le_refl _) (by simp only; omega)
  rw [if_pos (show checkD (flushD (foldD ⟨[], [], 0⟩ us)) = 0 from checkD_iff.2 hd.1)] at this
  unfold tidyL tidyE
  rw [this]
  exact ⟨rfl, rfl⟩
theorem units_map {us : List DU} (hu : ∀ u ∈ us, UnitOk u) : (us.map stepU).length = us.length ∧ elS (us.map stepU) ≤ us.length ∧ ((∀ u ∈ us, UnitS u) → DN 100000000000 (us.map stepU)) := by
  refine ⟨List.length_map _, ?_, fun hs s hm => ?_⟩
  · have := elS_le (l := us.map stepU) (fun s hm => by
      obtain ⟨u, _, rfl⟩ := List.mem_map.1 hm
      cases u <;> simp [stepU])
    rw [List.length_map] at this; exact this
  · obtain ⟨u, h, rfl⟩ := List.mem_map.1 hm
    have := hs u h
    cases u with
    | K c => exact ⟨by simp [stepU], by have := this.2; simp only [stepU]; omega, fun x hx => by cases hx⟩
    | A e => exact ⟨by simp [stepU], by simp [stepU], fun x hx => by rw [show x = e by simpa [stepU] using hx]; have := this.2; omega⟩
    | C => exact ⟨by simp [stepU], by simp [stepU], fun x hx => by cases hx⟩
end Go.Ch
end
section
set_option linter.unusedVariables false
set_option linter.unusedSimpArgs false
namespace Go.Ch
open Go Go.Ab

def intsT (l : List Int) : Tree := .lst 1 (l.map intT)
def alikeB (x y : Elem) : Bool := (x.char == y.char) && (x.ref == y.ref)
def priceI (x y : Elem) : Int := if sameL x.attrs y.attrs = true then 0 else 1
theorem price_bd (x y : Elem) : 0 ≤ priceI x y ∧ priceI x y ≤ 1 := by unfold priceI; split <;> omega
def tabR (a b : List Elem) (i k : Nat) : Int :=
  if i < a.length then
    if k < b.length then
      if alikeB (a.getD i default) (b.getD k default) = true then min (1 + min (tabR a b (i + 1) k) (tabR a b i (k + 1))) (tabR a b (i + 1) (k + 1) + priceI (a.getD i default) (b.getD k default))
      else 1 + min (tabR a b (i + 1) k) (tabR a b i (k + 1))
    else (a.length : Int) - i
  else (b.length : Int) - k
termination_by (a.length - i) + (b.length - k)
theorem tab_bd (a b : List Elem) : ∀ (n i k : Nat), (a.length - i) + (b.length - k) = n → i ≤ a.length → k ≤ b.length → 0 ≤ tabR a b i k ∧ tabR a b i k ≤ ((a.length - i : Nat) : Int) + ((b.length - k : Nat) : Int) := by
  intro n
  induction n using Nat.strongRecOn with
  | _ n ih =>
    intro i k hn hi hk
    rw [tabR]
    by_cases h1 : i < a.length
    · rw [if_pos h1]
      by_cases h2 : k < b.length
      · rw [if_pos h2]
        have i1 := ih ((a.length - (i + 1)) + (b.length - k)) (by omega) (i + 1) k rfl (by omega) hk
        have i2 := ih ((a.length - i) + (b.length - (k + 1))) (by omega) i (k + 1) rfl hi (by omega)
        have i3 := ih ((a.length - (i + 1)) + (b.length - (k + 1))) (by omega) (i + 1) (k + 1) rfl (by omega) (by omega)
        have p := price_bd (a.getD i default) (b.getD k default)
        split <;> omega
      · rw [if_neg h2]; omega
    · rw [if_neg h1]; omega
theorem tab_bd' {a b : List Elem} {i k : Nat} (hi : i ≤ a.length) (hk : k ≤ b.length) : 0 ≤ tabR a b i k ∧ tabR a b i k ≤ (a.length : Int) + b.length := by
  have := tab_bd a b _ i k rfl hi hk; omega
def rowT (a b : List Elem) (i : Nat) : List Int := (List.range (b.length + 1)).map (tabR a b i)
def tabL (a b : List Elem) : List (List Int) := (List.range (a.length + 1)).map (rowT a b)
theorem rowT_len (a b : List Elem) (i : Nat) : (rowT a b i).length = b.length + 1 := by simp [rowT]
theorem rowT_at {a b : List Elem} {i k : Nat} (h : k ≤ b.length) : (rowT a b i).getD k default = tabR a b i k := by
  unfold rowT
  rw [List.getD, List.getElem?_map, List.getElem?_range (by omega)]; rfl
theorem tabL_at {a b : List Elem} {i : Nat} (h : i ≤ a.length) : (tabL a b).getD i default = rowT a b i := by
  unfold tabL
  rw [List.getD, List.getElem?_map, List.getElem?_range (by omega)]; rfl
theorem tabL_len (a b : List Elem) : (tabL a b).length = a.length + 1 := by simp [tabL]
theorem list_eq {α : Type} [Inhabited α] {l r : List α} (hl : l.length = r.length) (h : ∀ j, j < r.length → l.getD j default = r.getD j default) : l = r := by
  apply List.ext_getElem hl
  intro j h1 h2
  have := h j h2
  simpa [List.getD, List.getElem?_eq_getElem h1, List.getElem?_eq_getElem h2] using this
/-- The table, from row i on. -/
structure TO (a b : List Elem) (L : List (List Int)) (i : Int) : Prop where
  bd : -1 ≤ i ∧ i ≤ a.length
  len : L.length = a.length + 1
  at_ : ∀ j : Nat, i < j → j ≤ a.length → L.getD j default = rowT a b j
/-- A row, from column k on. -/
structure TI (a b : List Elem) (o : List Int) (i k : Int) : Prop where
  bd : -1 ≤ k ∧ k ≤ b.length
  len : o.length = b.length + 1
  at_ : ∀ j : Nat, k < j → j ≤ b.length → o.getD j default = tabR a b i.toNat j
theorem TO.start (a b : List Elem) : TO a b (List.replicate (a.length + 1) []) a.length := ⟨by omega, by simp, fun j h1 h2 => by omega⟩
theorem TI.start (a b : List Elem) (i : Int) : TI a b (List.replicate (b.length + 1) 0) i b.length := ⟨by omega, by simp, fun j h1 h2 => by omega⟩
theorem TI.row {a b : List Elem} {o : List Int} {i k : Int} (h : TI a b o i k) (hk : k < 0) : o = rowT a b i.toNat :=
  list_eq (by rw [h.len, rowT_len]) (fun j hj => by rw [rowT_len] at hj; rw [h.at_ j (by omega) (by omega), rowT_at (by omega)])
theorem getD_set {α : Type} [Inhabited α] {l : List α} {i j : Nat} {x : α} (h : i < l.length) : (l.set i x).getD j default = if i = j then x else l.getD j default := by
  by_cases e : i = j
  · subst e; rw [if_pos rfl, getD_set_eq h]
  · rw [if_neg e, getD_set_ne e]
theorem TO.next {a b : List Elem} {L : List (List Int)} {o : List Int} {i k : Int} (h : TO a b L i) (h0 : 0 ≤ i) (g : TI a b o i k) (hk : k < 0) : TO a b (L.set i.toNat o) (i - 1) := by
  obtain ⟨b1, b2⟩ := h.bd
  refine ⟨by omega, by rw [List.length_set]; exact h.len, fun j h1 h2 => ?_⟩
  rw [getD_set (by have := h.len; omega)]
  split
  · rename_i e; rw [g.row hk, e]
  · exact h.at_ j (by omega) h2
theorem TO.done {a b : List Elem} {L : List (List Int)} {i : Int} (h : TO a b L i) (hi : i < 0) : L = tabL a b :=
  list_eq (by rw [h.len, tabL_len]) (fun j hj => by rw [tabL_len] at hj; rw [h.at_ j (by omega) (by omega), tabL_at (by omega)])
theorem TO.below {a b : List Elem} {L : List (List Int)} {i : Int} (h : TO a b L i) (h0 : 0 ≤ i) (h1 : i < a.length) : L.getD (Int.toNat (i + 1)) default = rowT a b (i.toNat + 1) := by
  have := h.at_ (Int.toNat (i + 1)) (by omega) (by omega)
  rw [this, show Int.toNat (i + 1) = i.toNat + 1 by omega]
theorem TI.next {a b : List Elem} {o : List Int} {i k : Int} {v : Int} (h : TI a b o i k) (h0 : 0 ≤ k) (hv : v = tabR a b i.toNat k.toNat) : TI a b (o.set k.toNat v) i (k - 1) := by
  obtain ⟨b1, b2⟩ := h.bd
  refine ⟨by omega, by rw [List.length_set]; exact h.len, fun j h1 h2 => ?_⟩
  rw [getD_set (by have := h.len; omega)]
  split
  · rename_i e; rw [hv, e]
  · exact h.at_ j (by omega) h2
theorem TI.right {a b : List Elem} {o : List Int} {i k : Int} (h : TI a b o i k) (h0 : 0 ≤ k) (h1 : k < b.length) : o.getD (Int.toNat (k + 1)) default = tabR a b i.toNat (k.toNat + 1) := by
  have := h.at_ (Int.toNat (k + 1)) (by omega) (by omega)
  rw [this, show Int.toNat (k + 1) = k.toNat + 1 by omega]
end Go.Ch
end
section
set_option linter.unusedVariables false
set_option linter.unusedSimpArgs false
namespace Go.Ch
open Go Go.Ab

def chgU (x y : Elem) : List Attr := fm chgG x.attrs y.attrs
def KeepP (a b : List Elem) (i k : Nat) : Prop := (i < a.length ∧ k < b.length) ∧ alikeB (a.getD i default) (b.getD k default) = true ∧ tabR a b i k = tabR a b (i + 1) (k + 1) + priceI (a.getD i default) (b.getD k default)
instance (a b : List Elem) (i k : Nat) : Decidable (KeepP a b i k) := by unfold KeepP; infer_instance
def CutP (a b : List Elem) (i k : Nat) : Prop := i < a.length ∧ (k = b.length ∨ tabR a b i k = 1 + tabR a b (i + 1) k)
instance (a b : List Elem) (i k : Nat) : Decidable (CutP a b i k) := by unfold CutP; infer_instance
def pathU (a b : List Elem) (i k : Nat) : List DU :=
  if h1 : KeepP a b i k then .K (chgU (a.getD i default) (b.getD k default)) :: pathU a b (i + 1) (k + 1)
  else if h2 : CutP a b i k then .C :: pathU a b (i + 1) k
  else if k < b.length then .A (b.getD k default) :: pathU a b i (k + 1)
  else []
termination_by (a.length - i) + (b.length - k)
decreasing_by
  · have := h1.1; omega
  · have := h2.1; omega
  · omega
theorem path_keep {a b : List Elem} {i k : Nat} (h : KeepP a b i k) : pathU a b i k = .K (chgU (a.getD i default) (b.getD k default)) :: pathU a b (i + 1) (k + 1) := by rw [pathU, dif_pos h]
theorem path_cut {a b : List Elem} {i k : Nat} (h : ¬ KeepP a b i k) (h2 : CutP a b i k) : pathU a b i k = .C :: pathU a b (i + 1) k := by rw [pathU, dif_neg h, dif_pos h2]
theorem path_add {a b : List Elem} {i k : Nat} (h : ¬ KeepP a b i k) (h2 : ¬ CutP a b i k) (h3 : k < b.length) : pathU a b i k = .A (b.getD k default) :: pathU a b i (k + 1) := by rw [pathU, dif_neg h, dif_neg h2, if_pos h3]
theorem path_end {a b : List Elem} {i k : Nat} (h : a.length ≤ i) (h3 : b.length ≤ k) : pathU a b i k = [] := by
  rw [pathU, dif_neg (fun q => by have := q.1; omega), dif_neg (fun q => by have := q.1; omega), if_neg (by omega)]
theorem ends_or {a b : List Elem} {i k : Nat} (hi : i ≤ a.length) (hk : k ≤ b.length) (h2 : ¬ CutP a b i k) (h : i < a.length ∨ k < b.length) : k < b.length := by
  refine Classical.byContradiction fun q => h2 ⟨by omega, .inl (by omega)⟩
def costU : List DU → Int
  | [] => 0
  | .K c :: u => (if 0 < c.length then 1 else 0) + costU u
  | .A _ :: u => 1 + costU u
  | .C :: u => 1 + costU u
theorem costU_app (u v : List DU) : costU (u ++ v) = costU u + costU v := by
  induction u with
  | nil => simp [costU]
  | cons x u ih => cases x <;> simp only [List.cons_append, costU, ih] <;> omega
theorem costU_sw {u v : List DU} (h : DSw u v) : costU u = costU v := by
  induction h with
  | refl u => rfl
  | cons x _ ih => cases x <;> simp only [costU, ih]
  | swap e u => simp only [costU]
  | symm _ ih => exact ih.symm
  | trans _ _ a b => exact a.trans b
/-! ### Keeping an element as another one -/
theorem chg_nil {x y : List Attr} (hx : VG false x) (hy : VG false y) : (0 < (fm chgG x y).length) ↔ sameL x y = false := by
  constructor
  · intro h
    cases hs : sameL x y with
    | false => rfl
    | true =>
      have := sameL_eq.1 hs
      subst this
      obtain ⟨z, hz⟩ : ∃ z, z ∈ fm chgG x x := List.exists_mem_of_length_pos h
      exact absurd rfl (between_differs np_mt vp_mt hx hx hz)
  · intro h
    refine Classical.byContradiction fun q => ?_
    have e : fm chgG x y = [] := List.length_eq_zero_iff.1 (by omega)
    have := between_leads np_mt vp_mt hx hy
    rw [e, raw_nil] at this
    rw [this, sameL_self] at h; cases h
theorem price_chg {x y : Elem} (hx : VG false x.attrs) (hy : VG false y.attrs) : (if 0 < (chgU x y).length then (1 : Int) else 0) = priceI x y := by
  unfold priceI chgU
  cases hs : sameL x.attrs y.attrs with
  | true => rw [if_neg (fun h => by have := (chg_nil hx hy).1 h; rw [hs] at this; cases this), if_pos rfl]
  | false => rw [if_pos ((chg_nil hx hy).2 hs), if_neg (by decide)]
theorem chg_as {x y : Elem} (ha : alikeB x y = true) (hx : VG false x.attrs) (hy : VG false y.attrs) : chgE (chgU x y) x = y := by
  unfold alikeB at ha
  simp only [Bool.and_eq_true, beq_iff_eq] at ha
  obtain ⟨xc, xr, xa⟩ := x
  obtain ⟨yc, yr, ya⟩ := y
  simp only at ha hx hy
  unfold chgE chgU
  simp only
  rw [between_leads np_mt vp_mt hx hy, ha.1, ha.2]
/-! ### The way -/
theorem tab_ends {a b : List Elem} {i : Nat} (hi : i ≤ a.length) : tabR a b i b.length = (a.length : Int) - i := by
  rw [tabR]
  by_cases h : i < a.length
  · rw [if_pos h, if_neg (by omega)]
  · rw [if_neg h]; omega
theorem tab_ende {a b : List Elem} {k : Nat} (hk : k ≤ b.length) : tabR a b a.length k = (b.length : Int) - k := by
  rw [tabR, if_neg (by omega)]
def AV (l : List Elem) : Prop := ∀ x ∈ l, VG false x.attrs
theorem AV.at_ {l : List Elem} (h : AV l) {i : Nat} (hi : i < l.length) : VG false (l.getD i default).attrs := h _ (getD_mem' hi)
theorem path_cost {a b : List Elem} (ha : AV a) (hb : AV b) : ∀ (n i k : Nat), (a.length - i) + (b.length - k) = n → i ≤ a.length → k ≤ b.length → costU (pathU a b i k) = tabR a b i k := by
  intro n
  induction n using Nat.strongRecOn with
  | _ n ih =>
    intro i k hn hi hk
    by_cases h1 : KeepP a b i k
    · rw [path_keep h1, costU, price_chg (ha.at_ h1.1.1) (hb.at_ h1.1.2), ih _ (by have := h1.1; omega) (i + 1) (k + 1) rfl (by have := h1.1; omega) (by have := h1.1; omega), h1.2.2]; omega
    · by_cases h2 : CutP a b i k
      · rw [path_cut h1 h2, costU, ih _ (by have := h2.1; omega) (i + 1) k rfl (by have := h2.1; omega) hk]
        rcases h2.2 with q | q
        · subst q
          rw [tab_ends (by have := h2.1; omega), tab_ends hi]; omega
        · exact q.symm
      · by_cases h3 : i < a.length ∨ k < b.length
        · have hk2 := ends_or hi hk h2 h3
          rw [path_add h1 h2 hk2, costU, ih _ (by omega) i (k + 1) rfl hi (by omega)]
          by_cases h4 : i < a.length
          · have hc : ¬ tabR a b i k = 1 + tabR a b (i + 1) k := fun q => h2 ⟨h4, .inr q⟩
            have e := tabR.eq_1 a b i k
            rw [if_pos h4, if_pos hk2] at e
            by_cases h5 : alikeB (a.getD i default) (b.getD k default) = true
            · rw [if_pos h5] at e
              have hq : ¬ tabR a b i k = tabR a b (i + 1) (k + 1) + priceI (a.getD i default) (b.getD k default) := fun q => h1 ⟨⟨h4, hk2⟩, h5, q⟩
              omega
            · rw [if_neg h5] at e; omega
          · have hi2 : i = a.length := by omega
            subst hi2
            rw [tab_ende (by omega), tab_ende hk]; omega
        · rw [path_end (by omega) (by omega), show k = b.length by omega, tab_ends hi]
          simp only [costU]; omega
theorem path_apply {a b : List Elem} (ha : AV a) (hb : AV b) : ∀ (n i k : Nat), (a.length - i) + (b.length - k) = n → i ≤ a.length → k ≤ b.length → applyU (pathU a b i k) (a.drop i) = b.drop k := by
  intro n
  induction n using Nat.strongRecOn with
  | _ n ih =>
    intro i k hn hi hk
    by_cases h1 : KeepP a b i k
    · rw [path_keep h1, dropD (l := a) h1.1.1, applyU, ih _ (by have := h1.1; omega) (i + 1) (k + 1) rfl (by have := h1.1; omega) (by have := h1.1; omega), dropD (l := b) h1.1.2, chg_as h1.2.1 (ha.at_ h1.1.1) (hb.at_ h1.1.2)]
    · by_cases h2 : CutP a b i k
      · rw [path_cut h1 h2, dropD (l := a) h2.1, applyU, ih _ (by have := h2.1; omega) (i + 1) k rfl (by have := h2.1; omega) hk]
      · by_cases h3 : i < a.length ∨ k < b.length
        · have hk2 := ends_or hi hk h2 h3
          rw [path_add h1 h2 hk2, applyU, ih _ (by omega) i (k + 1) rfl hi (by omega), dropD (l := b) hk2]
        · rw [path_end (by omega) (by omega), applyU, List.drop_eq_nil_of_le (by omega)]
theorem path_len {a b : List Elem} : ∀ (n i k : Nat), (a.length - i) + (b.length - k) = n → i ≤ a.length → k ≤ b.length → (pathU a b i k).length ≤ n := by
  intro n
  induction n using Nat.strongRecOn with
  | _ n ih =>
    intro i k hn hi hk
    by_cases h1 : KeepP a b i k
    · rw [path_keep h1]
      have := ih ((a.length - (i + 1)) + (b.length - (k + 1))) (by have := h1.1; omega) (i + 1) (k + 1) rfl (by have := h1.1; omega) (by have := h1.1; omega)
      simp only [List.length_cons]; have := h1.1; omega
    · by_cases h2 : CutP a b i k
      · rw [path_cut h1 h2]
        have := ih ((a.length - (i + 1)) + (b.length - k)) (by have := h2.1; omega) (i + 1) k rfl (by have := h2.1; omega) hk
        simp only [List.length_cons]; have := h2.1; omega
      · by_cases h3 : i < a.length ∨ k < b.length
        · have hk2 := ends_or hi hk h2 h3
          rw [path_add h1 h2 hk2]
          have := ih ((a.length - i) + (b.length - (k + 1))) (by omega) i (k + 1) rfl hi (by omega)
          simp only [List.length_cons]; omega
        · rw [path_end (by omega) (by omega)]; simp
theorem path_all {a b : List Elem} {Q : DU → Prop} (hK : ∀ i k, i < a.length → k < b.length → Q (.K (chgU (a.getD i default) (b.getD k default)))) (hA : ∀ k, k < b.length → Q (.A (b.getD k default))) (hC : Q .C) :
    ∀ (n i k : Nat), (a.length - i) + (b.length - k) = n → i ≤ a.length → k ≤ b.length → ∀ u ∈ pathU a b i k, Q u := by
  intro n
  induction n using Nat.strongRecOn with
  | _ n ih =>
    intro i k hn hi hk u hu
    by_cases h1 : KeepP a b i k
    · rw [path_keep h1] at hu
      rcases List.mem_cons.1 hu with rfl | hu
      · exact hK i k h1.1.1 h1.1.2
      · exact ih _ (by have := h1.1; omega) (i + 1) (k + 1) rfl (by have := h1.1; omega) (by have := h1.1; omega) u hu
    · by_cases h2 : CutP a b i k
      · rw [path_cut h1 h2] at hu
        rcases List.mem_cons.1 hu with rfl | hu
        · exact hC
        · exact ih _ (by have := h2.1; omega) (i + 1) k rfl (by have := h2.1; omega) hk u hu
      · by_cases h3 : i < a.length ∨ k < b.length
        · have hk2 := ends_or hi hk h2 h3
          rw [path_add h1 h2 hk2] at hu
          rcases List.mem_cons.1 hu with rfl | hu
          · exact hA k hk2
          · exact ih _ (by omega) i (k + 1) rfl hi (by omega) u hu
        · rw [path_end (by omega) (by omega)] at hu; cases hu
theorem alike_sym (x y : Elem) : alikeB x y = alikeB y x := by
  unfold alikeB
  rw [Bool.eq_iff_iff]; simp only [Bool.and_eq_true, beq_iff_eq]
  exact ⟨fun h => ⟨h.1.symm, h.2.symm⟩, fun h => ⟨h.1.symm, h.2.symm⟩⟩
theorem price_sym (x y : Elem) : priceI x y = priceI y x := by
  unfold priceI
  have : sameL x.attrs y.attrs = true ↔ sameL y.attrs x.attrs = true := by rw [sameL_eq, sameL_eq]; exact eq_comm
  by_cases h : sameL x.attrs y.attrs = true
  · rw [if_pos h, if_pos (this.1 h)]
  · rw [if_neg h, if_neg (fun q => h (this.2 q))]
theorem tab_sym (a b : List Elem) : ∀ (n i k : Nat), (a.length - i) + (b.length - k) = n → i ≤ a.length → k ≤ b.length → tabR a b i k = tabR b a k i := by
  intro n
  induction n using Nat.strongRecOn with
  | _ n ih =>
    intro i k hn hi hk
    by_cases h1 : i < a.length
    · by_cases h2 : k < b.length
      · rw [tabR, tabR.eq_1 b a k i, if_pos h1, if_pos h2, if_pos h2, if_pos h1, ih _ (by omega) (i + 1) k rfl (by omega) hk, ih _ (by omega) i (k + 1) rfl hi (by omega), ih _ (by omega) (i + 1) (k + 1) rfl (by omega) (by omega), alike_sym, price_sym]
        split <;> omega
      · rw [tabR, tabR.eq_1 b a k i, if_pos h1, if_neg h2, if_neg h2]
    · rw [tabR, tabR.eq_1 b a k i, if_neg h1]
      by_cases h2 : k < b.length
      · rw [if_pos h2, if_neg h1]
      · rw [if_neg h2]; omega
/-! ### With the ends tied -/
def TiedP (a b : List Elem) : Prop := ((0 < a.length ∧ 0 < b.length) ∧ (a.getD (a.length - 1) default).char = 10) ∧ (b.getD (b.length - 1) default).char = 10
instance (a b : List Elem) : Decidable (TiedP a b) := by unfold TiedP; infer_instance
def ini (a : List Elem) : List Elem := a.take (a.length - 1)
def lst (a : List Elem) : Elem := a.getD (a.length - 1) default
def diffU (a b : List Elem) : List DU := if TiedP a b then pathU (ini a) (ini b) 0 0 ++ [.K (chgU (lst a) (lst b))] else pathU a b 0 0
def costT (a b : List Elem) : Int := if TiedP a b then tabR (ini a) (ini b) 0 0 + priceI (lst a) (lst b) else tabR a b 0 0
theorem ini_lst {a : List Elem} (h : 0 < a.length) : a = ini a ++ [lst a] := by
  unfold ini lst
  conv => lhs; rw [← List.take_append_drop (a.length - 1) a]
  rw [dropD (show a.length - 1 < a.length by omega), List.drop_eq_nil_of_le (by omega)]
theorem ini_len {a : List Elem} : (ini a).length = a.length - 1 := by simp [ini]
theorem AV.ini {a : List Elem} (h : AV a) : AV (ini a) := fun x hx => h x (List.mem_of_mem_take hx)
theorem AV.lst {a : List Elem} (h : AV a) (hp : 0 < a.length) : VG false (lst a).attrs := h _ (getD_mem' (by omega))
theorem applyU_split : ∀ (u v : List DU) (l r : List Elem), oldN u = l.length → applyU (u ++ v) (l ++ r) = applyU u l ++ applyU v r
  | [], v, [], r, h => rfl
  | [], v, _ :: _, r, h => by simp [oldN] at h
  | .A e :: u, v, l, r, h => by simp only [List.cons_append, applyU]; rw [applyU_split u v l r (by simpa [oldN] using h)]
  | .K c :: u, v, [], r, h => by simp [oldN] at h
  | .C :: u, v, [], r, h => by simp [oldN] at h
  | .K c :: u, v, x :: l, r, h => by simp only [List.cons_append, applyU]; rw [applyU_split u v l r (by simpa [oldN] using h)]
  | .C :: u, v, x :: l, r, h => by simp only [List.cons_append, applyU]; rw [applyU_split u v l r (by simpa [oldN] using h)]
theorem path_old {a b : List Elem} : ∀ (n i k : Nat), (a.length - i) + (b.length - k) = n → i ≤ a.length → k ≤ b.length → oldN (pathU a b i k) = a.length - i := by
  intro n
  induction n using Nat.strongRecOn with
  | _ n ih =>
    intro i k hn hi hk
    by_cases h1 : KeepP a b i k
    · rw [path_keep h1, oldN, ih _ (by have := h1.1; omega) (i + 1) (k + 1) rfl (by have := h1.1; omega) (by have := h1.1; omega)]; have := h1.1; omega
      intro e h; cases h
    · by_cases h2 : CutP a b i k
      · rw [path_cut h1 h2, oldN, ih _ (by have := h2.1; omega) (i + 1) k rfl (by have := h2.1; omega) hk]; have := h2.1; omega
        intro e h; cases h
      · by_cases h3 : i < a.length ∨ k < b.length
        · have hk2 := ends_or hi hk h2 h3
          rw [path_add h1 h2 hk2, oldN, ih _ (by omega) i (k + 1) rfl hi (by omega)]
        · rw [path_end (by omega) (by omega), oldN]; omega
def costS (s : DStep) : Int := if s.kind = 1 then (s.elems.length : Int) else if s.kind = 2 ∨ 0 < s.attrs.length then s.n else 0
def costD : List DStep → Int
  | [] => 0
  | s :: l => costS s + costD l
theorem costU_As (e : List Elem) : costU (e.map .A) = e.length := by
  induction e with
  | nil => rfl
  | cons x e ih => simp only [List.map_cons, costU, ih, List.length_cons]; omega
theorem costU_Cs (n : Nat) : costU (List.replicate n .C) = n := by
  induction n with
  | zero => rfl
  | succ n ih => simp only [List.replicate_succ, costU, ih]; omega
theorem costU_Ks (n : Nat) (c : List Attr) : costU (List.replicate n (.K c)) = if 0 < c.length then (n : Int) else 0 := by
  induction n with
  | zero => simp [costU]
  | succ n ih => simp only [List.replicate_succ, costU, ih]; split <;> omega
theorem costS_ex {s : DStep} (h : DOk s) : costS s = costU (exS s) ∧ 0 ≤ costS s := by
  have hz := stepD_sz (step_iff.2 h)
  unfold costS exS
  by_cases k1 : s.kind = 1
  · rw [if_pos k1, if_pos k1, costU_As]; exact ⟨rfl, by omega⟩
  · rw [if_neg k1, if_neg k1]
    by_cases k2 : s.kind = 2
    · rw [if_pos (.inl k2), if_pos k2, costU_Cs]; omega
    · rw [if_neg k2, costU_Ks]
      by_cases h0 : 0 < s.attrs.length
      · rw [if_pos (.inr h0), if_pos h0]; omega
      · rw [if_neg (by rintro (q | q); exact k2 q; exact h0 q), if_neg h0]; omega
theorem costD_ex : ∀ {d : List DStep}, (∀ s ∈ d, DOk s) → costD d = costU (exD d)
  | [], _ => rfl
  | s :: d, h => by
    rw [costD, exD, costU_app, (costS_ex (h s (by simp))).1, costD_ex (d := d) (fun t ht => h t (by simp [ht]))]
theorem diff_law {a b : List Elem} (pa : partE a 0 = 0) (pb : partE b 0 = 0) (na : AN 1000000000 a) (nb : AN 1000000000 b) (la : a.length ≤ 2000) (lb : b.length ≤ 2000) :
    tidyL ((diffU a b).map stepU) = doneD (diffU a b) ∧ tidyE ((diffU a b).map stepU) = 0 ∧ ((diffU a b).map stepU).length ≤ 5000 ∧ elS ((diffU a b).map stepU) ≤ 5000 ∧ DN 100000000000 ((diffU a b).map stepU) ∧
    DValid (doneD (diffU a b)) ∧ DN 400000000000 (doneD (diffU a b)) ∧ oldD (doneD (diffU a b)) = a.length ∧ rawD a (doneD (diffU a b)) = b ∧ costD (doneD (diffU a b)) = costT a b ∧ 0 ≤ costT a b ∧ costT a b ≤ (a.length : Int) + b.length ∧ costT a b = costT b a := by
  have va : AV a := fun x hx => elem_ok (part_iff.1 pa x hx)
  have vb : AV b := fun x hx => elem_ok (part_iff.1 pb x hx)
  have eb : ∀ x ∈ b, elemE x = 0 := part_iff.1 pb
  have chgl : ∀ x y : Elem, x.attrs.length ≤ 1000000000 → y.attrs.length ≤ 1000000000 → (chgU x y).length ≤ 4000000000 := fun x y h1 h2 => by
    have := fm_len' chgG x.attrs y.attrs; unfold chgU; omega
  -- the units
  have hu : ∀ u ∈ diffU a b, UnitOk u ∧ DN 100000000000 [stepU u] := by
    have kok : ∀ x y : Elem, VG false x.attrs → VG false y.attrs → x.attrs.length ≤ 1000000000 → y.attrs.length ≤ 1000000000 → UnitOk (.K (chgU x y)) ∧ DN 100000000000 [stepU (.K (chgU x y))] := fun x y h1 h2 h3 h4 => by
      have := chgl x y h3 h4
      refine ⟨⟨chg_V np_mt h1 h2, by omega⟩, fun s hs => ?_⟩
      rw [List.mem_singleton] at hs; subst hs
      exact ⟨by simp [stepU], by simp only [stepU]; omega, fun x hx => by cases hx⟩
    have aok : ∀ x : Elem, elemE x = 0 → x.attrs.length ≤ 1000000000 → UnitOk (.A x) ∧ DN 100000000000 [stepU (.A x)] := fun x h1 h2 => by
      refine ⟨⟨h1, by omega⟩, fun s hs => ?_⟩
      rw [List.mem_singleton] at hs; subst hs
      exact ⟨by simp [stepU], by simp [stepU], fun y hy => by rw [show y = x by simpa [stepU] using hy]; omega⟩
    have cok : UnitOk .C ∧ DN 100000000000 [stepU .C] := ⟨trivial, fun s hs => by
      rw [List.mem_singleton] at hs; subst hs
      exact ⟨by simp [stepU], by simp [stepU], fun y hy => by cases hy⟩⟩
    unfold diffU
    intro u hu
    split at hu
    · rename_i ht
      rcases List.mem_append.1 hu with hu | hu
      · refine path_all (Q := fun u => UnitOk u ∧ DN 100000000000 [stepU u]) (fun i k h1 h2 => kok _ _ (va.ini.at_ h1) (vb.ini.at_ h2) (na _ (List.mem_of_mem_take (getD_mem' h1))) (nb _ (List.mem_of_mem_take (getD_mem' h2)))) (fun k h => aok _ (eb _ (List.mem_of_mem_take (getD_mem' h))) (nb _ (List.mem_of_mem_take (getD_mem' h)))) cok _ 0 0 rfl (Nat.zero_le _) (Nat.zero_le _) u hu
      · rw [List.mem_singleton] at hu; subst hu
        exact kok _ _ (va.lst ht.1.1.1) (vb.lst ht.1.1.2) (na _ (getD_mem' (by have := ht.1.1.1; omega))) (nb _ (getD_mem' (by have := ht.1.1.2; omega)))
    · exact path_all (Q := fun u => UnitOk u ∧ DN 100000000000 [stepU u]) (fun i k h1 h2 => kok _ _ (va.at_ h1) (vb.at_ h2) (na _ (getD_mem' h1)) (nb _ (getD_mem' h2))) (fun k h => aok _ (eb _ (getD_mem' h)) (nb _ (getD_mem' h))) cok _ 0 0 rfl (Nat.zero_le _) (Nat.zero_le _) u hu
  -- lengths
  have hl : (diffU a b).length ≤ 4001 := by
    unfold diffU
    split
    · have := path_len (a := ini a) (b := ini b) _ 0 0 rfl (Nat.zero_le _) (Nat.zero_le _)
      rw [ini_len, ini_len] at this
      rw [List.length_append]; simp only [List.length_singleton]; omega
    · have := path_len (a := a) (b := b) _ 0 0 rfl (Nat.zero_le _) (Nat.zero_le _); omega
  -- what it does
  have hap : applyU (diffU a b) a = b ∧ oldN (diffU a b) = a.length := by
    unfold diffU
    by_cases ht : TiedP a b
    · rw [if_pos ht]
      have e1 := path_apply va.ini vb.ini _ 0 0 rfl (Nat.zero_le _) (Nat.zero_le _)
      have o1 := path_old (a := ini a) (b := ini b) _ 0 0 rfl (Nat.zero_le _) (Nat.zero_le _)
      rw [List.drop_zero, List.drop_zero] at e1
      constructor
      · have key := applyU_split (pathU (ini a) (ini b) 0 0) [.K (chgU (lst a) (lst b))] (ini a) [lst a] (by omega)
        rw [← ini_lst ht.1.1.1] at key
        rw [key, e1]
        have hal : alikeB (lst a) (lst b) = true := by
          have w1 := part_iff.1 pa (lst a) (getD_mem' (by have := ht.1.1.1; omega))
          have w2 := part_iff.1 pb (lst b) (getD_mem' (by have := ht.1.1.2; omega))
          have c1 : (lst a).char = 10 := ht.1.2
          have c2 : (lst b).char = 10 := ht.2
          have r : ∀ x : Elem, elemE x = 0 → x.char = 10 → x.ref = 0 := fun x hx hc => by
            unfold elemE at hx
            split at hx
            · omega
            · rename_i q
              exact Classical.byContradiction fun hr => q ⟨fun e => by omega, fun e => absurd e hr⟩
          unfold alikeB
          rw [c1, c2, r _ w1 c1, r _ w2 c2]; rfl
        simp only [applyU]
        rw [chg_as hal (va.lst ht.1.1.1) (vb.lst ht.1.1.2)]
        exact (ini_lst ht.1.1.2).symm
      · rw [oldN_app, o1, ini_len]; simp only [oldN]; have := ht.1.1.1; omega
    · rw [if_neg ht]
      have e1 := path_apply va vb _ 0 0 rfl (Nat.zero_le _) (Nat.zero_le _)
      have o1 := path_old (a := a) (b := b) _ 0 0 rfl (Nat.zero_le _) (Nat.zero_le _)
      rw [List.drop_zero, List.drop_zero] at e1
      exact ⟨e1, by omega⟩
  -- what it costs
  have hco : costU (diffU a b) = costT a b := by
    unfold diffU costT
    split
    · rename_i ht
      rw [costU_app, path_cost va.ini vb.ini _ 0 0 rfl (Nat.zero_le _) (Nat.zero_le _), costU, price_chg (va.lst ht.1.1.1) (vb.lst ht.1.1.2), costU]; omega
    · rw [path_cost va vb _ 0 0 rfl (Nat.zero_le _) (Nat.zero_le _)]
  have hcb : 0 ≤ costT a b ∧ costT a b ≤ (a.length : Int) + b.length := by
    unfold costT
    split
    · rename_i ht
      have := tab_bd' (a := ini a) (b := ini b) (i := 0) (k := 0) (Nat.zero_le _) (Nat.zero_le _)
      rw [ini_len, ini_len] at this
      have p := price_bd (lst a) (lst b)
      have := ht.1.1; omega
    · exact tab_bd' (Nat.zero_le _) (Nat.zero_le _)
  have hcs : costT a b = costT b a := by
    unfold costT
    by_cases ht : TiedP a b
    · rw [if_pos ht, if_pos ⟨⟨⟨ht.1.1.2, ht.1.1.1⟩, ht.2⟩, ht.1.2⟩, tab_sym _ _ _ 0 0 rfl (Nat.zero_le _) (Nat.zero_le _), price_sym]
    · rw [if_neg ht, if_neg (fun q => ht ⟨⟨⟨q.1.1.2, q.1.1.1⟩, q.2⟩, q.1.2⟩), tab_sym _ _ _ 0 0 rfl (Nat.zero_le _) (Nat.zero_le _)]
  have hok : ∀ u ∈ diffU a b, UnitOk u := fun u h => (hu u h).1
  obtain ⟨t1, t2⟩ := tidy_units hok (by omega)
  have hn : oldN (diffU a b) ≤ (diffU a b).length ∧ newN (diffU a b) ≤ (diffU a b).length := by
    have : ∀ us : List DU, oldN us ≤ us.length ∧ newN us ≤ us.length := by
      intro us
      induction us with
      | nil => exact ⟨Nat.le_refl _, Nat.le_refl _⟩
      | cons u us ih => cases u <;> simp only [oldN, newN, List.length_cons] <;> omega
    exact this _
  obtain ⟨d1, d2, d3, d4⟩ := doneD_ok hok (by omega) (by omega)
  obtain ⟨m1, m2, _⟩ := units_map hok
  have hfl := (DI.start hok (by omega)).all.fl.2
  refine ⟨t1, t2, by omega, by omega, fun s hs => ?_, d1, hfl, by rw [d3, hap.2], ?_, ?_, hcb.1, hcb.2, hcs⟩
  · obtain ⟨u, h, rfl⟩ := List.mem_map.1 hs
    exact (hu u h).2 _ (by simp)
  · unfold rawD; rw [sw_applyU d2]; exact hap.1
  · rw [costD_ex d1.1.all, costU_sw d2, hco]
end Go.Ch
namespace Go.Ch
open Go Go.Ab
theorem tab_at {a b : List Elem} {i k : Nat} (hi : i ≤ a.length) (hk : k ≤ b.length) : ((tabL a b).getD i default).getD k default = tabR a b i k := by rw [tabL_at hi, rowT_at hk]
theorem row_len {a b : List Elem} {i : Nat} (hi : i ≤ a.length) : ((tabL a b).getD i default).length = b.length + 1 := by rw [tabL_at hi, rowT_len]
theorem one_at {l : List Elem} {k : Nat} (h : k < l.length) : (l.take (k + 1)).drop k = [l.getD k default] := by
  rw [List.take_succ_eq_append_getElem h, List.drop_append, List.drop_eq_nil_of_le (by simp; omega)]
  simp [show k - min k l.length = 0 by omega, List.getD, List.getElem?_eq_getElem h]
end Go.Ch
namespace Go.Ch
open Go Go.Ab
theorem ini_mem {a : List Elem} {x : Elem} (h : x ∈ ini a) : x ∈ a := List.mem_of_mem_take h
end Go.Ch
end
section
set_option linter.unusedVariables false
set_option linter.unusedSimpArgs false
namespace Go.Ch
open Go Go.Ab

theorem fillSet {α : Type} (p : List α) (u v : α) (k m : Nat) : (p ++ (List.replicate k u ++ List.replicate (m + 1) v)).set (p.length + k) u = p ++ (List.replicate (k + 1) u ++ List.replicate m v) := by
  rw [List.set_append, if_neg (by omega), List.set_append, if_neg (by simp), List.length_replicate, show p.length + k - p.length - k = 0 by omega, List.replicate_succ, List.set_cons_zero, List.replicate_succ', List.append_assoc]
  rfl
/-- What is read so far: an act, and room for the rest. -/
structure RI (d : List DStep) (n : Nat) (i : Nat) (I : List (List Elem)) (C : List Bool) (S : List (List Attr)) (w : Int) (x : Act) : Prop where
  fit : ActFit x
  go : actF x (d.drop i) = actOfL d
  at_ : w = x.cut.length
  old : (x.cut.length : Int) + oldD (d.drop i) = n
  ins : I = x.ins ++ List.replicate (n - x.cut.length) []
  cut : C = x.cut ++ List.replicate (n - x.cut.length) false
  set : S = x.set ++ List.replicate (n - x.cut.length) []
  emp : i < d.length → (d.getD i default).kind = 1 → x.ins.getD (x.ins.length - 1) default = []
theorem RI.start {d : List DStep} {n : Nat} (hn : oldD d = n) : RI d n 0 (List.replicate (n + 1) []) (List.replicate n false) (List.replicate n []) 0 ⟨[[]], [], []⟩ :=
  ⟨⟨rfl, rfl⟩, rfl, rfl, by simpa using hn, by simp [List.replicate_succ], by simp, by simp, fun _ _ => rfl⟩
theorem RI.lens {d : List DStep} {n i : Nat} {I : List (List Elem)} {C : List Bool} {S : List (List Attr)} {w : Int} {x : Act} (h : RI d n i I C S w x) (hv : DValid d) : I.length = n + 1 ∧ C.length = n ∧ S.length = n ∧ 0 ≤ w ∧ w ≤ n := by
  have h1 := h.old
  have h2 := sums_nn (l := d.drop i) (fun s hs => hv.1.all s (List.mem_of_mem_drop hs))
  obtain ⟨f1, f2⟩ := h.fit
  have := h.at_
  rw [h.ins, h.cut, h.set]
  simp only [List.length_append, List.length_replicate]
  omega
theorem next_kind {d : List DStep} (hv : DForm d) {i : Nat} (hi : i + 1 < d.length) : adjD (d.getD i default) (d.getD (i + 1) default) = false := by
  have := (at_of_dform hv (i + 1) (Nat.zero_le _) hi).2 (by omega)
  rwa [Nat.add_sub_cancel] at this
theorem adjK_of' {s t : DStep} (h : adjD s t = false) : (s.kind = t.kind → t.kind = 0) ∧ ¬ (s.kind = 2 ∧ t.kind = 1) := by
  have hn : ¬ adjD s t = true := by rw [h]; decide
  rw [adjD_yes] at hn
  exact ⟨fun e => Classical.byContradiction fun q => hn (.inl ⟨e, .inl q⟩), fun e => hn (.inr e)⟩
theorem RI.add {d : List DStep} {n i : Nat} {I : List (List Elem)} {C : List Bool} {S : List (List Attr)} {w : Int} {x : Act} (h : RI d n i I C S w x) (hv : DValid d) (hi : i < d.length) (k : (d.getD i default).kind = 1) :
    RI d n (i + 1) (I.set w.toNat (d.getD i default).elems) C S w (actS x (d.getD i default)) := by
  obtain ⟨s1, s2, s3, s4, s5, s6, s7, s8⟩ := dlens_step hi hv.1
  rw [if_pos k] at s1
  obtain ⟨f1, f2⟩ := h.fit
  have e : actS x (d.getD i default) = ⟨x.ins.set (x.ins.length - 1) (x.ins.getD (x.ins.length - 1) default ++ (d.getD i default).elems), x.cut, x.set⟩ := by unfold actS; rw [if_pos k]
  have hE := h.emp hi k
  refine ⟨actS_fit h.fit _, (actF_at hi x).symm.trans h.go, ?_, ?_, ?_, ?_, ?_, fun h1 h2 => ?_⟩
  · rw [e]; exact h.at_
  · rw [e]; have := h.old; simp only; omega
  · rw [e, h.ins, h.at_]
    simp only [Int.toNat_natCast]
    rw [hE, List.nil_append, List.set_append, if_pos (by omega), show x.ins.length - 1 = x.cut.length by omega]
  · rw [e]; exact h.cut
  · rw [e]; exact h.set
  · have := adjK_of' (next_kind hv.1 h1)
    omega
/-- While a step's elements are gone through. -/
structure RC (C0 : List Bool) (n w k : Nat) (x : Act) (C : List Bool) : Prop where
  eq : C = x.cut ++ (List.replicate k true ++ List.replicate (n - x.cut.length - k) false)
structure RS (n k : Nat) (c : List Attr) (x : Act) (S : List (List Attr)) : Prop where
  eq : S = x.set ++ (List.replicate k c ++ List.replicate (n - x.cut.length - k) [])
theorem RC.start {n w : Nat} {x : Act} {C : List Bool} (h : C = x.cut ++ List.replicate (n - x.cut.length) false) : RC C n w 0 x C := ⟨by simpa using h⟩
theorem RS.start {n : Nat} {c : List Attr} {x : Act} {S : List (List Attr)} (h : S = x.set ++ List.replicate (n - x.cut.length) []) : RS n 0 c x S := ⟨by simpa using h⟩
theorem RC.next {C0 : List Bool} {n w k j : Nat} {x : Act} {C : List Bool} (h : RC C0 n w k x C) (hk : k < n - x.cut.length) (hj : j = x.cut.length + k) : RC C0 n w (k + 1) x (C.set j true) := ⟨by
  subst hj
  rw [h.eq, show n - x.cut.length - k = (n - x.cut.length - (k + 1)) + 1 by omega, fillSet]⟩
theorem RS.next {n k j : Nat} {c : List Attr} {x : Act} {S : List (List Attr)} (h : RS n k c x S) (hf : ActFit x) (hk : k < n - x.cut.length) (hj : j = x.cut.length + k) : RS n (k + 1) c x (S.set j c) := ⟨by
  subst hj
  rw [h.eq, show n - x.cut.length - k = (n - x.cut.length - (k + 1)) + 1 by omega, ← hf.2, fillSet]⟩
theorem RC.len {C0 : List Bool} {n w k : Nat} {x : Act} {C : List Bool} (h : RC C0 n w k x C) (hk : k ≤ n - x.cut.length) (hn : x.cut.length ≤ n) : C.length = n := by rw [h.eq]; simp; omega
theorem RS.len {n k : Nat} {c : List Attr} {x : Act} {S : List (List Attr)} (h : RS n k c x S) (hf : ActFit x) (hk : k ≤ n - x.cut.length) (hn : x.cut.length ≤ n) : S.length = n := by
  have := hf.2
  rw [h.eq]; simp; omega
theorem RI.rest {d : List DStep} {n i : Nat} {I : List (List Elem)} {C C' : List Bool} {S S' : List (List Attr)} {w : Int} {x : Act} (h : RI d n i I C S w x) (hv : DValid d) (hi : i < d.length) (k : (d.getD i default).kind ≠ 1)
    (hC : C' = x.cut ++ (List.replicate (d.getD i default).n.toNat ((d.getD i default).kind == 2) ++ List.replicate (n - x.cut.length - (d.getD i default).n.toNat) false))
    (hS : S' = x.set ++ (List.replicate (d.getD i default).n.toNat (d.getD i default).attrs ++ List.replicate (n - x.cut.length - (d.getD i default).n.toNat) [])) :
    RI d n (i + 1) I C' S' (w + (d.getD i default).n) (actS x (d.getD i default)) := by
  obtain ⟨s1, s2, s3, s4, s5, s6, s7, s8⟩ := dlens_step hi hv.1
  rw [if_neg k] at s1
  obtain ⟨f1, f2⟩ := h.fit
  have e : actS x (d.getD i default) = ⟨x.ins ++ List.replicate (d.getD i default).n.toNat [], x.cut ++ List.replicate (d.getD i default).n.toNat ((d.getD i default).kind == 2), x.set ++ List.replicate (d.getD i default).n.toNat (d.getD i default).attrs⟩ := by unfold actS; rw [if_neg k]
  have ho := h.old
  have hn : n - (x.cut.length + (d.getD i default).n.toNat) = n - x.cut.length - (d.getD i default).n.toNat := by omega
  have hn1 : 1 ≤ (d.getD i default).n.toNat := by
    have hz : szD (d.getD i default) = (d.getD i default).n := by unfold szD; rw [if_neg k]
    omega
  refine ⟨actS_fit h.fit _, (actF_at hi x).symm.trans h.go, ?_, ?_, ?_, ?_, ?_, fun h1 h2 => ?_⟩
  · rw [e, h.at_]; simp only [List.length_append, List.length_replicate]; omega
  · rw [e]; simp only [List.length_append, List.length_replicate]; omega
  · rw [e, h.ins]
    simp only [List.length_append, List.length_replicate, List.append_assoc, List.replicate_append_replicate]
    congr 2; omega
  · rw [e, hC]; simp only [List.length_append, List.length_replicate, List.append_assoc, hn]
  · rw [e, hS]; simp only [List.length_append, List.length_replicate, List.append_assoc, hn]
  · rw [e]
    simp only [List.length_append, List.length_replicate]
    rw [List.getD, List.getElem?_append_right (by omega), List.getElem?_replicate, if_pos (by omega)]; rfl
theorem RI.done {d : List DStep} {n i : Nat} {I : List (List Elem)} {C : List Bool} {S : List (List Attr)} {w : Int} {x : Act} (h : RI d n i I C S w x) (hi : d.length ≤ i) : I = (actOfL d).ins ∧ C = (actOfL d).cut ∧ S = (actOfL d).set := by
  have hg := h.go
  rw [actF_end hi] at hg
  have ho := h.old
  rw [List.drop_eq_nil_of_le hi] at ho
  simp only [oldD] at ho
  rw [h.ins, h.cut, h.set, ← hg, show n - x.cut.length = 0 by omega]
  simp
theorem rep_same {α : Type} (a b : Nat) (u : α) : List.replicate a u ++ List.replicate b u = List.replicate (a + b) u := List.replicate_append_replicate
end Go.Ch
end
section
set_option linter.unusedVariables false
set_option linter.unusedSimpArgs false
namespace Go.Ch
open Go Go.Ab

structure Conf where
  kind : Int
  node : Int
  fr : Int
  to : Int
  name : ByteArray
instance : Inhabited Conf := ⟨⟨0, 0, 0, 0, { data := #[] }⟩⟩
def confT (s : Conf) : Tree := .agg [.sc (.int .i64 s.kind), .sc (.int .i64 s.node), .sc (.int .i64 s.fr), .sc (.int .i64 s.to), .sc (.string s.name)]
def gapO (o a b : List Elem) : List Elem := if b.length = 0 ∨ sameF a b = true then o ++ a else o ++ a ++ b
def gapC (node : Int) (o a b : List Elem) (c : List Conf) : List Conf :=
  if b.length = 0 ∨ sameF a b = true then c else if 0 < a.length then c ++ [⟨0, node, o.length, (o ++ a ++ b).length, { data := #[] }⟩] else c
def idxF (l : List Attr) (n : ByteArray) (i : Nat) : Int := if i < l.length then (if seq (l.getD i default).name n = true then (i : Int) else idxF l n (i + 1)) else -1
termination_by l.length - i
theorem idxF_bd (l : List Attr) (n : ByteArray) : ∀ (m i : Nat), l.length - i = m → idxF l n i = -1 ∨ (0 ≤ idxF l n i ∧ idxF l n i < l.length)
  | 0, i, h => by rw [idxF, if_neg (by omega)]; exact .inl rfl
  | m + 1, i, h => by
    rw [idxF, if_pos (by omega)]
    split
    · right; omega
    · exact idxF_bd l n m (i + 1) (by omega)
def clashB (b : List Attr) (x : Attr) : Bool := decide (0 ≤ idxF b x.name 0) && !(seq (b.getD (idxF b x.name 0).toNat default).val x.val)
def attC (node : Int) (at_ : Nat) (b : List Attr) (a : List Attr) : List Conf := (a.filter (clashB b)).map fun x => ⟨2, node, at_, (at_ : Int) + 1, x.name⟩
theorem attC_snoc (node : Int) (at_ : Nat) (b a : List Attr) (x : Attr) : attC node at_ b (a ++ [x]) = attC node at_ b a ++ (if clashB b x = true then [⟨2, node, at_, (at_ : Int) + 1, x.name⟩] else []) := by
  unfold attC
  rw [List.filter_append, List.map_append, List.filter_cons]
  cases clashB b x <;> simp
theorem attC_len (node : Int) (at_ : Nat) (b a : List Attr) : (attC node at_ b a).length ≤ a.length := by
  unfold attC; rw [List.length_map]; exact List.length_filter_le _ _
def keptE (x : Elem) (a b : List Attr) : Elem := ⟨x.char, x.ref, fm rawG (fm rawG x.attrs b) a⟩
def elmO (o : List Elem) (x : Elem) (a b : List Attr) (ca cb : Bool) : List Elem := if (ca || cb) = true then o else o ++ [keptE x a b]
def elmC (node : Int) (o : List Elem) (a b : List Attr) (ca cb : Bool) (c : List Conf) : List Conf :=
  if (ca || cb) = true then (if (ca = false ∧ 0 < a.length) ∨ (cb = false ∧ 0 < b.length) then c ++ [⟨1, node, o.length, o.length, { data := #[] }⟩] else c)
  else c ++ attC node o.length b a
/-- The state ahead of an element. -/
def mrgS (node : Int) (f : List Elem) (A B : Act) : Nat → List Elem × List Conf
  | 0 => ([], [])
  | i + 1 =>
    (elmO (gapO (mrgS node f A B i).1 (A.ins.getD i default) (B.ins.getD i default)) (f.getD i default) (A.set.getD i default) (B.set.getD i default) (A.cut.getD i default) (B.cut.getD i default),
     elmC node (gapO (mrgS node f A B i).1 (A.ins.getD i default) (B.ins.getD i default)) (A.set.getD i default) (B.set.getD i default) (A.cut.getD i default) (B.cut.getD i default) (gapC node (mrgS node f A B i).1 (A.ins.getD i default) (B.ins.getD i default) (mrgS node f A B i).2))
def mrgO (node : Int) (f : List Elem) (A B : Act) : List Elem := gapO (mrgS node f A B f.length).1 (A.ins.getD f.length default) (B.ins.getD f.length default)
def mrgC (node : Int) (f : List Elem) (A B : Act) : List Conf := gapC node (mrgS node f A B f.length).1 (A.ins.getD f.length default) (B.ins.getD f.length default) (mrgS node f A B f.length).2
/-! ### Bounds -/
structure ActBd (A : Act) (n : Nat) : Prop where
  fit : ActFit A
  len : A.cut.length = n
  ins : ∀ e ∈ A.ins, e.length ≤ 3000 ∧ AN 10000000 e
  set : ∀ c ∈ A.set, c.length ≤ 20000000
structure MBd (o : List Elem) (c : List Conf) (i : Nat) : Prop where
  len : o.length ≤ 6001 * i
  an : AN 60000000 o
  conf : c.length ≤ 30000000 * i
theorem ActBd.at_ {A : Act} {n i : Nat} (h : ActBd A n) (hi : i ≤ n) : (A.ins.getD i default).length ≤ 3000 ∧ AN 10000000 (A.ins.getD i default) := h.ins _ (getD_mem' (by have := h.fit.1; have := h.len; omega))
theorem ActBd.set_ {A : Act} {n i : Nat} (h : ActBd A n) (hi : i < n) : (A.set.getD i default).length ≤ 20000000 := h.set _ (getD_mem' (by have := h.fit.2; have := h.len; omega))
theorem gap_bd {o a b : List Elem} {c : List Conf} {node : Int} {i : Nat} (h : MBd o c i) (ha : a.length ≤ 3000 ∧ AN 10000000 a) (hb : b.length ≤ 3000 ∧ AN 10000000 b) :
    (gapO o a b).length ≤ 6001 * i + 6000 ∧ AN 60000000 (gapO o a b) ∧ (gapC node o a b c).length ≤ 30000000 * i + 1 := by
  have h1 := h.len
  have h3 := h.conf
  have hx : ∀ x, x ∈ o ∨ x ∈ a ∨ x ∈ b → x.attrs.length ≤ 60000000 := fun x hx => by
    rcases hx with q | q | q
    · exact h.an x q
    · have := ha.2 x q; omega
    · have := hb.2 x q; omega
  unfold gapO gapC
  split
  · exact ⟨by rw [List.length_append]; omega, fun x q => hx x (by rcases List.mem_append.1 q with q | q; exact .inl q; exact .inr (.inl q)), by omega⟩
  · refine ⟨by simp only [List.length_append]; omega, fun x q => hx x (by
      rcases List.mem_append.1 q with q | q
      · rcases List.mem_append.1 q with q | q
        · exact .inl q
        · exact .inr (.inl q)
      · exact .inr (.inr q)), by split <;> (try simp only [List.length_append, List.length_cons, List.length_nil]) <;> omega⟩
theorem elm_bd {o : List Elem} {x : Elem} {a b : List Attr} {ca cb : Bool} {c : List Conf} {node : Int} {i : Nat} (h1 : o.length ≤ 6001 * i + 6000) (h2 : AN 60000000 o) (h3 : c.length ≤ 30000000 * i + 1)
    (hx : x.attrs.length ≤ 10000000) (ha : a.length ≤ 20000000) (hb : b.length ≤ 20000000) : MBd (elmO o x a b ca cb) (elmC node o a b ca cb c) (i + 1) := by
  unfold elmO elmC
  have hl := attC_len node o.length b a
  split
  · exact ⟨by omega, h2, by split <;> (try simp only [List.length_append, List.length_cons, List.length_nil]) <;> omega⟩
  · refine ⟨by simp; omega, fun y hy => ?_, by rw [List.length_append]; omega⟩
    rcases List.mem_append.1 hy with hy | hy
    · exact h2 y hy
    · rw [List.mem_singleton] at hy; subst hy
      have q1 := fm_len' rawG x.attrs b
      have q2 := fm_len' rawG (fm rawG x.attrs b) a
      show (fm rawG (fm rawG x.attrs b) a).length ≤ 60000000
      omega
theorem mrg_bd {f : List Elem} {A B : Act} {node : Int} (hA : ActBd A f.length) (hB : ActBd B f.length) (hf : AN 10000000 f) : ∀ i, i ≤ f.length → MBd (mrgS node f A B i).1 (mrgS node f A B i).2 i
  | 0, _ => ⟨Nat.zero_le _, fun x hx => (by cases hx), Nat.zero_le _⟩
  | i + 1, hi => by
    have ih := mrg_bd hA hB hf (node := node) i (by omega)
    have g := gap_bd (node := node) ih (hA.at_ (i := i) (by omega)) (hB.at_ (i := i) (by omega))
    exact elm_bd g.1 g.2.1 g.2.2 (hf _ (getD_mem' (by omega))) (hA.set_ (by omega)) (hB.set_ (by omega))
end Go.Ch
end
