/- Merging two versions of a flow: what a delta between flows does; one side that changes nothing, two sides alike. -/
import Derived.Test.YtbdbibmbfmlobaaM1
import Derived.Test.YtbdbibmbfmlobaaM2
import Derived.Test.YtbdbibmbfmlobaaM3
import Derived.Test.YtbdbibmbfmlobaaM4
import Derived.Test.YtbdbibmbfmlobaaM5
import Derived.Test.YtbdbibmbfmlobaaM6
import Derived.Test.YtbdbibmbfmlobaaM7
import Derived.Test.YtbdbibmbfmlobaaRows
import Derived.JoinedOf
import Derived.ProofKit
section
set_option linter.unusedVariables false
set_option linter.unusedSimpArgs false
namespace Go.Ch
open Go Go.Ab

theorem diff_all {a b : List Elem} {Q : DU → Prop} (hK : ∀ x ∈ a, ∀ y ∈ b, Q (.K (chgU x y))) (hA : ∀ x ∈ b, Q (.A x)) (hC : Q .C) : ∀ u ∈ diffU a b, Q u := by
  unfold diffU
  intro u hu
  split at hu
  · rename_i ht
    rcases List.mem_append.1 hu with hu | hu
    · exact path_all (Q := Q) (fun i k h1 h2 => hK _ (ini_mem (getD_mem' h1)) _ (ini_mem (getD_mem' h2))) (fun k h => hA _ (ini_mem (getD_mem' h))) hC _ 0 0 rfl (Nat.zero_le _) (Nat.zero_le _) u hu
    · rw [List.mem_singleton] at hu; subst hu
      exact hK _ (getD_mem' (by have := ht.1.1.1; omega)) _ (getD_mem' (by have := ht.1.1.2; omega))
  · exact path_all (Q := Q) (fun i k h1 h2 => hK _ (getD_mem' h1) _ (getD_mem' h2)) (fun k h => hA _ (getD_mem' h)) hC _ 0 0 rfl (Nat.zero_le _) (Nat.zero_le _) u hu
theorem part_av {a : List Elem} (pa : partE a 0 = 0) : AV a := fun x hx => elem_ok (part_iff.1 pa x hx)
theorem diff_ok {a b : List Elem} (pa : partE a 0 = 0) (pb : partE b 0 = 0) (na : AN 1000000000 a) (nb : AN 1000000000 b) : ∀ u ∈ diffU a b, UnitOk u := by
  refine diff_all (fun x hx y hy => ?_) (fun x hx => ?_) trivial
  · have h1 := fm_len' chgG x.attrs y.attrs
    have h2 := na x hx
    have h3 := nb y hy
    exact ⟨chg_V np_mt (part_av pa x hx) (part_av pb y hy), by unfold chgU; omega⟩
  · exact ⟨part_iff.1 pb x hx, by have := nb x hx; omega⟩
theorem diff_len {a b : List Elem} (la : a.length ≤ 2000) (lb : b.length ≤ 2000) : (diffU a b).length ≤ 4001 := by
  unfold diffU
  split
  · have := path_len (a := ini a) (b := ini b) _ 0 0 rfl (Nat.zero_le _) (Nat.zero_le _)
    rw [ini_len, ini_len] at this
    rw [List.length_append]; simp only [List.length_singleton]; omega
  · have := path_len (a := a) (b := b) _ 0 0 rfl (Nat.zero_le _) (Nat.zero_le _); omega
theorem un_len : ∀ us : List DU, oldN us ≤ us.length ∧ newN us ≤ us.length
  | [] => ⟨Nat.le_refl _, Nat.le_refl _⟩
  | u :: us => by
    have := un_len us
    cases u <;> simp only [oldN, newN, List.length_cons] <;> omega
/-- The units of a delta between two flows. -/
theorem diff_mem {a b : List Elem} (pa : partE a 0 = 0) (pb : partE b 0 = 0) (na : AN 1000000000 a) (nb : AN 1000000000 b) (la : a.length ≤ 2000) (lb : b.length ≤ 2000) (u : DU) : u ∈ exD (doneD (diffU a b)) ↔ u ∈ diffU a b := by
  have h1 := diff_len la lb
  have h2 := un_len (diffU a b)
  obtain ⟨_, d2, _⟩ := doneD_ok (diff_ok pa pb na nb) (by omega) (by omega)
  exact dsw_mem d2 u
theorem actR_ins {x : Act} (h : ActFit x) : ∀ (m i : Nat), x.cut.length - i = m → i ≤ x.cut.length → ∀ k, i ≤ k → k ≤ x.cut.length → ∀ y ∈ x.ins.getD k default, DU.A y ∈ actR x i
  | 0, i, hm, hi => fun k h1 h2 y hy => by
    rw [actR_end' (by omega), show i = k by omega]
    exact List.mem_map.2 ⟨y, hy, rfl⟩
  | m + 1, i, hm, hi => fun k h1 h2 y hy => by
    have ih := actR_ins h m (i + 1) (by omega) (by omega)
    rw [actR, if_pos (by omega)]
    by_cases e : k = i
    · subst e; exact List.mem_append_left _ (List.mem_map.2 ⟨y, hy, rfl⟩)
    · have := ih k (by omega) h2 y hy
      split <;> exact List.mem_append_right _ (List.mem_cons_of_mem _ this)
theorem actR_cutm {x : Act} : ∀ (m i : Nat), x.cut.length - i = m → i ≤ x.cut.length → ∀ k, i ≤ k → k < x.cut.length → x.cut.getD k default = true → DU.C ∈ actR x i
  | 0, i, hm, hi => fun k h1 h2 _ => by omega
  | m + 1, i, hm, hi => fun k h1 h2 hb => by
    rw [actR, if_pos (by omega)]
    by_cases e : k = i
    · subst e; rw [if_pos hb]; exact List.mem_append_right _ (List.mem_cons_self ..)
    · have := actR_cutm m (i + 1) (by omega) (by omega) k (by omega) h2 hb
      split <;> exact List.mem_append_right _ (List.mem_cons_of_mem _ this)
theorem actR_set {x : Act} : ∀ (m i : Nat), x.cut.length - i = m → i ≤ x.cut.length → ∀ k, i ≤ k → k < x.cut.length → x.cut.getD k default = false → DU.K (x.set.getD k default) ∈ actR x i
  | 0, i, hm, hi => fun k h1 h2 _ => by omega
  | m + 1, i, hm, hi => fun k h1 h2 hb => by
    rw [actR, if_pos (by omega)]
    by_cases e : k = i
    · subst e; rw [if_neg (by rw [hb]; decide)]; exact List.mem_append_right _ (List.mem_cons_self ..)
    · have := actR_set m (i + 1) (by omega) (by omega) k (by omega) h2 hb
      split <;> exact List.mem_append_right _ (List.mem_cons_of_mem _ this)
theorem act_ins_len {d : List DStep} (hv : DValid d) : ∀ e ∈ (actOfL d).ins, (e.length : Int) ≤ newD d := by
  have key : ∀ i, i ≤ d.length → ∃ x, AIv d i x := by
    intro i
    induction i with
    | zero => intro _; exact ⟨_, AIv.start⟩
    | succ i ih => intro hi; obtain ⟨x, hx⟩ := ih (by omega); exact ⟨_, hx.next hv (by omega)⟩
  obtain ⟨x, hx⟩ := key d.length (Nat.le_refl _)
  have e := hx.done (Nat.le_refl _)
  subst e
  intro e he
  have := hx.el e he
  rw [List.drop_length] at this
  simp only [newD] at this
  omega
theorem act_bd {o a : List Elem} (po : partE o 0 = 0) (pa : partE a 0 = 0) (no : AN 10000000 o) (na : AN 10000000 a) (lo : o.length ≤ 2000) (la : a.length ≤ 2000) : ActBd (actOfL (doneD (diffU o a))) o.length := by
  have no' := an_up no (k := 1000000000) (by decide)
  have na' := an_up na (k := 1000000000) (by decide)
  obtain ⟨_, _, _, _, _, v1, w1, o1, r1, _⟩ := diff_law po pa no' na' (by omega) (by omega)
  obtain ⟨f1, f2⟩ := actOf_ok v1
  obtain ⟨_, l1, _⟩ := after_eq v1 o1 (part_av po)
  have hm := diff_mem po pa no' na' lo la
  have hal := after_len v1 o1
  rw [r1] at hal
  refine ⟨f1, l1, fun e he => ⟨by have := act_ins_len v1 e he; omega, fun y hy => ?_⟩, ?_⟩
  · obtain ⟨k, hk, rfl⟩ := List.mem_iff_getElem.1 he
    have hk2 := f1.1
    have := actR_ins f1 _ 0 rfl (Nat.zero_le _) k (Nat.zero_le _) (by omega) y (by simpa [List.getD, List.getElem?_eq_getElem hk] using hy)
    rw [f2, hm] at this
    exact diff_all (Q := fun u => ∀ y, u = .A y → y.attrs.length ≤ 10000000) (fun _ _ _ _ y h => by cases h) (fun x hx y h => by injection h with h; subst h; exact na x hx) (fun y h => by cases h) _ this y rfl
  · refine actF_set (Q := fun c => c.length ≤ 20000000) (fun s hs => ?_) (fun c hc => by cases hc)
    rcases v1.1.all s hs with ⟨_, _, q, _⟩ | ⟨q, _, z, n1, _, _⟩
    · rw [q]; simp
    · by_cases k2 : s.kind = 2
      · rw [z k2]; simp
      · have hu : DU.K s.attrs ∈ exS s := by
          unfold exS
          rw [if_neg (by omega), if_neg k2]
          exact List.mem_replicate.2 ⟨by omega, rfl⟩
        have := (hm _).1 (exD_mem hs hu)
        refine diff_all (Q := fun u => ∀ c, u = .K c → c.length ≤ 20000000) (fun x hx y hy c h => ?_) (fun x hx y h => by cases h) (fun y h => by cases h) _ this _ rfl
        injection h with h; subst h
        have h1 := fm_len' chgG x.attrs y.attrs
        have h2 := no x hx
        have h3 := na y hy
        unfold chgU; omega
/-! ### A flow and itself -/
theorem tab_self (a : List Elem) : ∀ (n i : Nat), a.length - i = n → i ≤ a.length → tabR a a i i = 0
  | 0, i, hn, hi => by rw [tabR, if_neg (by omega)]; omega
  | n + 1, i, hn, hi => by
    have ih := tab_self a n (i + 1) (by omega) (by omega)
    have hb := tab_bd' (a := a) (b := a) (i := i) (k := i) hi hi
    have hp : priceI (a.getD i default) (a.getD i default) = 0 := by unfold priceI; rw [if_pos (sameL_self _)]
    have ha : alikeB (a.getD i default) (a.getD i default) = true := by unfold alikeB; simp
    have e : tabR a a i i = min (1 + min (tabR a a (i + 1) i) (tabR a a i (i + 1))) (tabR a a (i + 1) (i + 1) + priceI (a.getD i default) (a.getD i default)) := by
      conv => lhs; rw [tabR]
      rw [if_pos (by omega), if_pos (by omega), if_pos ha]
    omega
theorem chg_self {x : Elem} (h : VG false x.attrs) : chgU x x = [] := by
  have := chg_nil h h
  rw [sameL_self] at this
  exact len0.1 (fun q => absurd (this.1 q) (by decide))
theorem path_self {a : List Elem} (ha : AV a) : ∀ (n i : Nat), a.length - i = n → i ≤ a.length → ∀ u ∈ pathU a a i i, u = .K []
  | 0, i, hn, hi => fun u hu => by rw [path_end (by omega) (by omega)] at hu; cases hu
  | n + 1, i, hn, hi => fun u hu => by
    have hp : priceI (a.getD i default) (a.getD i default) = 0 := by unfold priceI; rw [if_pos (sameL_self _)]
    have hk : KeepP a a i i := ⟨⟨by omega, by omega⟩, by unfold alikeB; simp, by rw [tab_self a _ i rfl hi, tab_self a _ (i + 1) rfl (by omega), hp]; rfl⟩
    rw [path_keep hk] at hu
    rcases List.mem_cons.1 hu with rfl | hu
    · rw [chg_self (ha _ (getD_mem' (by omega)))]
    · exact path_self ha n (i + 1) (by omega) (by omega) u hu
theorem diff_self {a : List Elem} (ha : AV a) : ∀ u ∈ diffU a a, u = .K [] := by
  unfold diffU
  intro u hu
  split at hu
  · rename_i ht
    rcases List.mem_append.1 hu with hu | hu
    · exact path_self ha.ini _ 0 rfl (Nat.zero_le _) u hu
    · rw [List.mem_singleton] at hu; subst hu
      rw [chg_self (ha.lst ht.1.1.1)]
  · exact path_self ha _ 0 rfl (Nat.zero_le _) u hu
/-- An act that does nothing. -/
structure NoAct (A : Act) (n : Nat) : Prop where
  ins : ∀ i, i ≤ n → A.ins.getD i default = []
  cut : ∀ i, i < n → A.cut.getD i default = false
  set : ∀ i, i < n → A.set.getD i default = []
theorem act_self {o : List Elem} (po : partE o 0 = 0) (no : AN 10000000 o) (lo : o.length ≤ 2000) : NoAct (actOfL (doneD (diffU o o))) o.length := by
  have no' := an_up no (k := 1000000000) (by decide)
  have hb := act_bd po po no no lo lo
  obtain ⟨_, _, _, _, _, v1, w1, o1, r1, _⟩ := diff_law po po no' no' (by omega) (by omega)
  obtain ⟨f1, f2⟩ := actOf_ok v1
  have hm := diff_mem po po no' no' lo lo
  have hl := hb.len
  have all : ∀ u ∈ actR (actOfL (doneD (diffU o o))) 0, u = .K [] := fun u hu => by
    rw [f2, hm] at hu; exact diff_self (part_av po) u hu
  have hc : ∀ i, i < o.length → (actOfL (doneD (diffU o o))).cut.getD i default = false := fun i hi => by
    cases h : (actOfL (doneD (diffU o o))).cut.getD i default with
    | false => rfl
    | true => have := all _ (actR_cutm _ 0 rfl (Nat.zero_le _) i (Nat.zero_le _) (by omega) h); cases this
  refine ⟨fun i hi => ?_, hc, fun i hi => ?_⟩
  · cases h : (actOfL (doneD (diffU o o))).ins.getD i default with
    | nil => rfl
    | cons y l => have := all _ (actR_ins f1 _ 0 rfl (Nat.zero_le _) i (Nat.zero_le _) (by omega) y (by rw [h]; simp)); cases this
  · have := all _ (actR_set _ 0 rfl (Nat.zero_le _) i (Nat.zero_le _) (by omega) (hc i hi))
    injection this
/-! ### The merge does what one act does -/
theorem mrg_as {node : Int} {f : List Elem} {A B T : Act} (hT : T.cut.length = f.length)
    (hg : ∀ i, i ≤ f.length → ∀ p c, gapO p (A.ins.getD i default) (B.ins.getD i default) = p ++ T.ins.getD i default ∧ gapC node p (A.ins.getD i default) (B.ins.getD i default) c = c)
    (he : ∀ i, i < f.length → ∀ p c, elmO p (f.getD i default) (A.set.getD i default) (B.set.getD i default) (A.cut.getD i default) (B.cut.getD i default) = p ++ (if T.cut.getD i default = true then [] else [chgE (T.set.getD i default) (f.getD i default)]) ∧
      elmC node p (A.set.getD i default) (B.set.getD i default) (A.cut.getD i default) (B.cut.getD i default) c = c) :
    mrgO node f A B = applyU (actR T 0) f ∧ mrgC node f A B = [] := by
  have key : ∀ i, i ≤ f.length → (mrgS node f A B i).1 ++ applyU (actR T i) (f.drop i) = applyU (actR T 0) f ∧ (mrgS node f A B i).2 = [] := by
    intro i
    induction i with
    | zero => intro _; exact ⟨by simp [mrgS], rfl⟩
    | succ i ih =>
      intro hi
      obtain ⟨h1, h2⟩ := ih (by omega)
      obtain ⟨g1, g2⟩ := hg i (by omega) (mrgS node f A B i).1 (mrgS node f A B i).2
      obtain ⟨e1, e2⟩ := he i (by omega) (gapO (mrgS node f A B i).1 (A.ins.getD i default) (B.ins.getD i default)) (gapC node (mrgS node f A B i).1 (A.ins.getD i default) (B.ins.getD i default) (mrgS node f A B i).2)
      refine ⟨?_, ?_⟩
      · rw [mrgS]; simp only
        rw [e1, g1, ← h1, dropD (show i < f.length by omega)]
        cases hb : T.cut.getD i default with
        | true => rw [actR_C' (x := T) (by omega) hb, applyU_As]; simp [applyU]
        | false => rw [actR_K' (x := T) (by omega) hb, applyU_As]; simp [applyU]
      · rw [mrgS]; simp only
        rw [e2, g2, h2]
  obtain ⟨h1, h2⟩ := key f.length (Nat.le_refl _)
  obtain ⟨g1, g2⟩ := hg f.length (Nat.le_refl _) (mrgS node f A B f.length).1 (mrgS node f A B f.length).2
  unfold mrgO mrgC
  rw [g1, g2, h2]
  refine ⟨?_, rfl⟩
  rw [actR_end' (by omega), List.drop_length] at h1
  have := applyU_As (T.ins.getD f.length default) [] []
  rw [List.append_nil] at this
  rw [this] at h1
  rw [← h1]; simp [applyU]
/-! ### Attributes -/
theorem look_at {l : List Attr} {i : Nat} (h : i < l.length) (n : ByteArray) : look (l.drop i) n = if (l.getD i default).name = n then some (l.getD i default).val else look (l.drop (i + 1)) n := by
  rw [dropD h, look]
theorem idx_look (l : List Attr) (n : ByteArray) : ∀ (m i : Nat), l.length - i = m → (idxF l n i = -1 ∧ look (l.drop i) n = none) ∨ (0 ≤ idxF l n i ∧ look (l.drop i) n = some (l.getD (idxF l n i).toNat default).val)
  | 0, i, h => by rw [idxF, if_neg (by omega), List.drop_eq_nil_of_le (by omega)]; exact .inl ⟨rfl, rfl⟩
  | m + 1, i, h => by
    rw [idxF, if_pos (by omega), look_at (by omega)]
    by_cases q : (l.getD i default).name = n
    · rw [if_pos (seq_iff.2 q), if_pos q]
      exact .inr ⟨by omega, by rw [Int.toNat_natCast]⟩
    · rw [if_neg (by rw [seq_iff]; exact q), if_neg q]
      exact idx_look l n m (i + 1) (by omega)
theorem clash_iff {b : List Attr} {x : Attr} : clashB b x = true ↔ ∃ w, look b x.name = some w ∧ w ≠ x.val := by
  unfold clashB
  rcases idx_look b x.name _ 0 rfl with ⟨h1, h2⟩ | ⟨h1, h2⟩
  · rw [List.drop_zero] at h2
    rw [h1, h2]
    simp
  · rw [List.drop_zero] at h2
    rw [decide_eq_true h1, h2, Bool.true_and]
    simp only [Option.some.injEq, exists_eq_left']
    rw [Bool.not_eq_true', seq_no]
theorem attC_no {node : Int} {k : Nat} {a b : List Attr} (h : ∀ x ∈ a, clashB b x = false) : attC node k b a = [] := by
  unfold attC
  rw [List.filter_eq_nil_iff.2 (fun x hx => by rw [h x hx]; decide)]; rfl
theorem clash_nil (x : Attr) : clashB [] x = false := by
  cases h : clashB [] x with
  | false => rfl
  | true => obtain ⟨w, h, _⟩ := clash_iff.1 h; cases h
theorem raw_comm {l a b : List Attr} (hl : VG false l) (ha : VG true a) (hb : VG true b) (hc : ∀ n v w, look a n = some v → look b n = some w → v = w) : fm rawG (fm rawG l b) a = fm rawG (fm rawG l a) b := by
  have h1 := raw_V np_mt hl ha
  have h2 := raw_V np_mt hl hb
  refine sorted_ext (raw_V np_mt h2 ha).1 (raw_V np_mt h1 hb).1 (fun n => ?_)
  rw [fm_look np_mt fair_raw h2 ha, fm_look np_mt fair_raw h1 hb, fm_look np_mt fair_raw hl ha, fm_look np_mt fair_raw hl hb]
  cases k2 : look a n with
  | none =>
    cases k3 : look b n with
    | none => cases look l n <;> simp [at2, rawG, dflt]
    | some w =>
      have hn := q_ne np_mt (hb.look k3)
      by_cases hw : w = mt <;> cases look l n <;> simp [at2, rawG, dflt, hn, hw]
  | some v =>
    have hn := q_ne np_mt (ha.look k2)
    cases k3 : look b n with
    | none => by_cases hv : v = mt <;> cases look l n <;> simp [at2, rawG, dflt, hn, hv]
    | some w =>
      have := hc n v w k2 k3
      subst this
      by_cases hv : v = mt <;> cases look l n <;> simp [at2, rawG, dflt, hn, hv]
/-! ### One side alone, and both alike -/
theorem act_vg {d : List DStep} (hv : DValid d) : ∀ c ∈ (actOfL d).set, VG true c := actF_set (vg_steps hv) (fun c hc => by cases hc)
section
variable {o a : List Elem} (po : partE o 0 = 0) (pa : partE a 0 = 0) (no : AN 10000000 o) (na : AN 10000000 a) (lo : o.length ≤ 2000) (la : a.length ≤ 2000)
include po pa no na lo la
theorem act_gives : applyU (actR (actOfL (doneD (diffU o a))) 0) o = a := by
  have no' := an_up no (k := 1000000000) (by decide)
  have na' := an_up na (k := 1000000000) (by decide)
  obtain ⟨_, _, _, _, _, v1, w1, o1, r1, _⟩ := diff_law po pa no' na' (by omega) (by omega)
  rw [(actOf_ok v1).2]; exact r1
theorem one_first (node : Int) : mrgO node o (actOfL (doneD (diffU o a))) (actOfL (doneD (diffU o o))) = a ∧ mrgC node o (actOfL (doneD (diffU o a))) (actOfL (doneD (diffU o o))) = [] := by
  have hn := act_self po no lo
  have hA := act_bd po pa no na lo la
  have := mrg_as (node := node) (A := actOfL (doneD (diffU o a))) (B := actOfL (doneD (diffU o o))) (T := actOfL (doneD (diffU o a))) hA.len (fun i hi p c => ?_) (fun i hi p c => ?_)
  · rwa [act_gives po pa no na lo la] at this
  · rw [hn.ins i hi]
    unfold gapO gapC
    rw [if_pos (.inl rfl), if_pos (.inl rfl)]
    exact ⟨rfl, rfl⟩
  · rw [hn.cut i hi, hn.set i hi]
    unfold elmO elmC
    rw [attC_no (fun x _ => clash_nil x)]
    cases (actOfL (doneD (diffU o a))).cut.getD i default with
    | true => simp
    | false => simp [keptE, raw_nil, chgE]
end
end Go.Ch
end
section
set_option linter.unusedVariables false
set_option linter.unusedSimpArgs false
set_option maxRecDepth 100000
set_option maxHeartbeats 4000000
open Go Go.Proofs Go.Ab
namespace Go.Ch
theorem fc_flows (node : Int) (o a b : List Elem) (po : partE o 0 = 0) (pa : partE a 0 = 0) (pb : partE b 0 = 0) (no : AN 10000000 o) (na : AN 10000000 a) (nb : AN 10000000 b) (lo : o.length ≤ 2000) (la : a.length ≤ 2000) (lb : b.length ≤ 2000) : FC Try.prog 122 [VI node, VL 3 elemT o, VL 3 elemT a, VL 3 elemT b] (app emp []) (.tup [VL 3 elemT (mrgO node o (actOfL (doneD (diffU o a))) (actOfL (doneD (diffU o b)))), VL 5 confT (mrgC node o (actOfL (doneD (diffU o a))) (actOfL (doneD (diffU o b))))]) (app emp []) := by
 refine .go Try.f122 ?_
 refine .len 1 (fun hl1 => ?_)
 refine .len 2 (fun hl2 => ?_)
 refine .len 3 (fun hl3 => ?_)
 have no' := an_up no (k := 1000000000) (by decide)
 have na' := an_up na (k := 1000000000) (by decide)
 have nb' := an_up nb (k := 1000000000) (by decide)
 obtain ⟨_, _, _, _, _, v1, w1, o1, r1, _⟩ := diff_law po pa no' na' (by omega) (by omega)
 obtain ⟨_, _, _, _, _, v2, w2, o2, r2, _⟩ := diff_law po pb no' nb' (by omega) (by omega)
 have A1 := act_bd po pa no na lo la
 have A2 := act_bd po pb no nb lo lb
 refine .loop (α := Nat × (List Elem) × (List Conf)) [.r [], .r [(1, X (Xl elemT o)), (4, X (Xc1 48 (fc_diffRaw o a (by assumption) (by assumption) (by assumption) (by assumption) (by omega) (by omega)) X0)), (5, X (Xc1 56 (fc_mread o.length (doneD (diffU o a)) (by omega) (by assumption) (by assumption) (by assumption)) X0)), (7, X (Xl elemT o)), (10, X (Xc1 96 (fc_diffRaw o b (by assumption) (by assumption) (by assumption) (by assumption) (by omega) (by omega)) X0)), (11, X (Xc1 104 (fc_mread o.length (doneD (diffU o b)) (by omega) (by assumption) (by assumption) (by assumption)) X0))], .r [], .le (.nB 160 1 3), .le (.nB 160 2 5), .r [(1, X (Xl elemT o))]] 202 (fun (i, p, q) => ([(1, VL 3 elemT o), (10, .ptr 112 0), (11, .ptr 120 0), (12, .ptr 160 0), (30, VL 3 elemT o), (31, VI (o.length : Int)), (32, VI (i : Int))], [(57, OR 1 elemsT ((actOfL (doneD (diffU o a))).ins)), (58, OR 1 boolT ((actOfL (doneD (diffU o a))).cut)), (59, OR 1 attrsT ((actOfL (doneD (diffU o a))).set)), (105, OR 1 elemsT ((actOfL (doneD (diffU o b))).ins)), (106, OR 1 boolT ((actOfL (doneD (diffU o b))).cut)), (107, OR 1 attrsT ((actOfL (doneD (diffU o b))).set)), (112, .box [.row 57 ((actOfL (doneD (diffU o a))).ins.length), .row 58 ((actOfL (doneD (diffU o a))).cut.length), .row 59 ((actOfL (doneD (diffU o a))).set.length)]), (120, .box [.row 105 ((actOfL (doneD (diffU o b))).ins.length), .row 106 ((actOfL (doneD (diffU o b))).cut.length), .row 107 ((actOfL (doneD (diffU o b))).set.length)]), (160, .box [VI node, .row 176 p.length, .row 177 q.length]), (176, OR 3 elemT p), (177, OR 5 confT q)])) (fun (i, p, q) => i ≤ o.length ∧ p = (mrgS node o (actOfL (doneD (diffU o a))) (actOfL (doneD (diffU o b))) i).1 ∧ q = (mrgS node o (actOfL (doneD (diffU o a))) (actOfL (doneD (diffU o b))) i).2) (fun (i, p, q) => o.length - i) (0, [], []) ?_ ?_
 ·
  exact ⟨by omega, rfl, rfl⟩
 rintro ⟨i, p, q⟩ I4 ih4
 try dsimp only at I4
 have hb := mrg_bd (node := node) A1 A2 no i I4.1
 rw [← I4.2.1, ← I4.2.2] at hb
 have b1 := hb.len
 have b2 := hb.an
 have b3 := hb.conf
 have f1 := A1.fit.1
 have f2 := A1.fit.2
 have f3 := A1.len
 have k1 := A2.fit.1
 have k2 := A2.fit.2
 have k3 := A2.len
 refine .br [.r []] (decide ((i : Int) < (o.length : Int))) (fun h4 => ?_) (fun h4 => ?_)
 ·
  (try simp only [decide_eq_true_eq, decide_eq_false_iff_not, Int.not_lt, Int.not_le] at h4)
  have g1 := A1.at_ (i := i) (by omega)
  have g2 := A2.at_ (i := i) (by omega)
  have s1 := A1.set_ (i := i) (by omega)
  have s2 := A2.set_ (i := i) (by omega)
  have nx := no _ (getD_mem' (l := o) (k := i) (by omega))
  have hg := gap_bd (node := node) hb g1 g2
  have hg1 := hg.1
  have hg3 := hg.2.2
  refine .back [.r [(1, X (Xi elemT o (i : Int)))], .r [(4, X (Xpn ((actOfL (doneD (diffU o a))).ins.length) elemsT ((actOfL (doneD (diffU o a))).ins) (i : Int))), (5, X (Xen ((actOfL (doneD (diffU o a))).ins.length) elemsT ((actOfL (doneD (diffU o a))).ins) i)), (9, X (Xpn ((actOfL (doneD (diffU o b))).ins.length) elemsT ((actOfL (doneD (diffU o b))).ins) (i : Int))), (10, X (Xen ((actOfL (doneD (diffU o b))).ins.length) elemsT ((actOfL (doneD (diffU o b))).ins) i)), (11, X (Xc3 346 [(0, 160), (1, 176), (2, 177)] (fc_gap node p q (((actOfL (doneD (diffU o a))).ins).getD i default) (((actOfL (doneD (diffU o b))).ins).getD i default) (by omega) (by omega)) X0))], .r [(5, X (Xpn ((actOfL (doneD (diffU o a))).set.length) attrsT ((actOfL (doneD (diffU o a))).set) (i : Int))), (6, X (Xen ((actOfL (doneD (diffU o a))).set.length) attrsT ((actOfL (doneD (diffU o a))).set) i)), (10, X (Xpn ((actOfL (doneD (diffU o b))).set.length) attrsT ((actOfL (doneD (diffU o b))).set) (i : Int))), (11, X (Xen ((actOfL (doneD (diffU o b))).set.length) attrsT ((actOfL (doneD (diffU o b))).set) i)), (15, X (Xpn ((actOfL (doneD (diffU o a))).cut.length) boolT ((actOfL (doneD (diffU o a))).cut) (i : Int))), (16, X (Xen ((actOfL (doneD (diffU o a))).cut.length) boolT ((actOfL (doneD (diffU o a))).cut) i)), (20, X (Xpn ((actOfL (doneD (diffU o b))).cut.length) boolT ((actOfL (doneD (diffU o b))).cut) (i : Int))), (21, X (Xen ((actOfL (doneD (diffU o b))).cut.length) boolT ((actOfL (doneD (diffU o b))).cut) i)), (22, X (Xc3 530 [(0, 160), (1, 176), (2, 177)] (fc_elem2 node (gapO p (((actOfL (doneD (diffU o a))).ins).getD i default) (((actOfL (doneD (diffU o b))).ins).getD i default)) (gapC node p (((actOfL (doneD (diffU o a))).ins).getD i default) (((actOfL (doneD (diffU o b))).ins).getD i default) q) ((o.getD i default)) (((actOfL (doneD (diffU o a))).set).getD i default) (((actOfL (doneD (diffU o b))).set).getD i default) (((actOfL (doneD (diffU o a))).cut).getD i default) (((actOfL (doneD (diffU o b))).cut).getD i default) (by omega) (by omega) (by omega)) X0))], .r [(0, X (Xn ((i : Int) + 1)))]] [(57, 57), (58, 58), (59, 59), (105, 105), (106, 106), (107, 107), (112, 112), (120, 120), (160, 160), (176, 176), (177, 177)] (ih4 ((i + 1), (elmO (gapO p (((actOfL (doneD (diffU o a))).ins).getD i default) (((actOfL (doneD (diffU o b))).ins).getD i default)) ((o.getD i default)) (((actOfL (doneD (diffU o a))).set).getD i default) (((actOfL (doneD (diffU o b))).set).getD i default) (((actOfL (doneD (diffU o a))).cut).getD i default) (((actOfL (doneD (diffU o b))).cut).getD i default)), (elmC node (gapO p (((actOfL (doneD (diffU o a))).ins).getD i default) (((actOfL (doneD (diffU o b))).ins).getD i default)) (((actOfL (doneD (diffU o a))).set).getD i default) (((actOfL (doneD (diffU o b))).set).getD i default) (((actOfL (doneD (diffU o a))).cut).getD i default) (((actOfL (doneD (diffU o b))).cut).getD i default) (gapC node p (((actOfL (doneD (diffU o a))).ins).getD i default) (((actOfL (doneD (diffU o b))).ins).getD i default) q))) ?_ ?_)
  ·
   refine ⟨by omega, ?_, ?_⟩
   · rw [mrgS, I4.2.1]
   · rw [mrgS, I4.2.1, I4.2.2]
  ·
   ((try dsimp only); omega)
 ·
  (try simp only [decide_eq_true_eq, decide_eq_false_iff_not, Int.not_lt, Int.not_le] at h4)
  have g1 := A1.at_ (i := o.length) (by omega)
  have g2 := A2.at_ (i := o.length) (by omega)
  have hg := gap_bd (node := node) hb g1 g2
  have hg1 := hg.1
  have hg3 := hg.2.2
  have an2 := an_up hg.2.1 (k := 400000000000) (by decide)
  have he : i = o.length := by omega
  have e1 : ((mrgO node o (actOfL (doneD (diffU o a))) (actOfL (doneD (diffU o b)))) : List Elem) = (gapO p (((actOfL (doneD (diffU o a))).ins).getD o.length default) (((actOfL (doneD (diffU o b))).ins).getD o.length default)) := by
   first | (unfold mrgO; rw [I4.2.1, he]) | (unfold mrgC; rw [I4.2.1, I4.2.2, he])
  have e2 : ((mrgC node o (actOfL (doneD (diffU o a))) (actOfL (doneD (diffU o b)))) : List Conf) = (gapC node p (((actOfL (doneD (diffU o a))).ins).getD o.length default) (((actOfL (doneD (diffU o b))).ins).getD o.length default) q) := by
   first | (unfold mrgO; rw [I4.2.1, he]) | (unfold mrgC; rw [I4.2.1, I4.2.2, he])
  exact .finE [.r [(4, X (Xl elemT o)), (5, X (Xpn ((actOfL (doneD (diffU o a))).ins.length) elemsT ((actOfL (doneD (diffU o a))).ins) (o.length : Int))), (6, X (Xen ((actOfL (doneD (diffU o a))).ins.length) elemsT ((actOfL (doneD (diffU o a))).ins) o.length)), (10, X (Xl elemT o)), (11, X (Xpn ((actOfL (doneD (diffU o b))).ins.length) elemsT ((actOfL (doneD (diffU o b))).ins) (o.length : Int))), (12, X (Xen ((actOfL (doneD (diffU o b))).ins.length) elemsT ((actOfL (doneD (diffU o b))).ins) o.length)), (13, X (Xc3 314 [(0, 160), (1, 176), (2, 177)] (fc_gap node p q (((actOfL (doneD (diffU o a))).ins).getD o.length default) (((actOfL (doneD (diffU o b))).ins).getD o.length default) (by omega) (by omega)) X0))], .r [(4, X (Xc1 354 (fc_copy (gapO p (((actOfL (doneD (diffU o a))).ins).getD o.length default) (((actOfL (doneD (diffU o b))).ins).getD o.length default)) (by omega) (by assumption)) (rowC elemT (gapO p (((actOfL (doneD (diffU o a))).ins).getD o.length default) (((actOfL (doneD (diffU o b))).ins).getD o.length default)) X0)))], .le (.fr 9 [(((gapC node p (((actOfL (doneD (diffU o a))).ins).getD o.length default) (((actOfL (doneD (diffU o b))).ins).getD o.length default) q).length) : Nat) = (List.map confT (gapC node p (((actOfL (doneD (diffU o a))).ins).getD o.length default) (((actOfL (doneD (diffU o b))).ins).getD o.length default) q)).length] ⟨lm, trivial⟩)] [] (fun (z0, z1) => (.tup [VL 3 elemT z0, VL 5 confT z1], [])) (((gapO p (((actOfL (doneD (diffU o a))).ins).getD o.length default) (((actOfL (doneD (diffU o b))).ins).getD o.length default)) : List Elem), ((gapC node p (((actOfL (doneD (diffU o a))).ins).getD o.length default) (((actOfL (doneD (diffU o b))).ins).getD o.length default) q) : List Conf)) (((mrgO node o (actOfL (doneD (diffU o a))) (actOfL (doneD (diffU o b)))) : List Elem), ((mrgC node o (actOfL (doneD (diffU o a))) (actOfL (doneD (diffU o b)))) : List Conf)) (pr e1 e2)
end Go.Ch
end
section
set_option linter.unusedVariables false
set_option linter.unusedSimpArgs false
set_option maxRecDepth 100000
set_option maxHeartbeats 4000000
open Go Go.Proofs Go.Ab
namespace Go.Ch
theorem fc_mergeFlows (o a b : List Elem) (po : partE o 0 = 0) (pa : partE a 0 = 0) (pb : partE b 0 = 0) (no : AN 10000000 o) (na : AN 10000000 a) (nb : AN 10000000 b) (lo : o.length ≤ 2000) (la : a.length ≤ 2000) (lb : b.length ≤ 2000) : FC Try.prog 71 [VL 3 elemT o, VL 3 elemT a, VL 3 elemT b] (app emp []) (.tup [VL 3 elemT (mrgO 0 o (actOfL (doneD (diffU o a))) (actOfL (doneD (diffU o b)))), VL 5 confT (mrgC 0 o (actOfL (doneD (diffU o a))) (actOfL (doneD (diffU o b)))), VI 0]) (app emp []) := by
 refine .go Try.f71 ?_
 refine .len 0 (fun hl0 => ?_)
 refine .len 1 (fun hl1 => ?_)
 refine .len 2 (fun hl2 => ?_)
 refine .br [.r [], .r [], .u, .r [], .t, .r [(0, X (Xa (Xc ((0:Int) ≤ 0)) (Xc ((0 : Int) < ((3 : Nat) : Int)))) ⟨by decide, by decide⟩)], .r [(1, X (Xc0 (fc_checkPart o) X0))], .r []] ((partE o 0) != 0) (fun h5 => ?_) (fun h5 => ?_)
 ·
  (try simp only [bne_iff_ne, bne_eq_false_iff_eq, ne_eq] at h5)
  exfalso
  omega
 ·
  (try simp only [bne_iff_ne, bne_eq_false_iff_eq, ne_eq] at h5)
  refine .br [.r [], .u, .r [], .t, .r [(0, X (Xa (Xc ((0:Int) ≤ 1)) (Xc ((1 : Int) < ((3 : Nat) : Int)))) ⟨by decide, by decide⟩)], .r [(1, X (Xc0 (fc_checkPart a) X0))], .r []] ((partE a 0) != 0) (fun h5 => ?_) (fun h5 => ?_)
  ·
   (try simp only [bne_iff_ne, bne_eq_false_iff_eq, ne_eq] at h5)
   exfalso
   omega
  ·
   (try simp only [bne_iff_ne, bne_eq_false_iff_eq, ne_eq] at h5)
   refine .br [.r [], .u, .r [], .t, .r [(0, X (Xa (Xc ((0:Int) ≤ 2)) (Xc ((2 : Int) < ((3 : Nat) : Int)))) ⟨by decide, by decide⟩)], .r [(1, X (Xc0 (fc_checkPart b) X0))], .r []] ((partE b 0) != 0) (fun h5 => ?_) (fun h5 => ?_)
   ·
    (try simp only [bne_iff_ne, bne_eq_false_iff_eq, ne_eq] at h5)
    exfalso
    omega
   ·
    (try simp only [bne_iff_ne, bne_eq_false_iff_eq, ne_eq] at h5)
    refine .br [.r [], .u, .r [], .f, .r [], .u, .r [], .t, .r [(0, X (Xa (Xc ((0:Int) ≤ 0)) (Xc ((0 : Int) < ((3 : Nat) : Int)))) ⟨by decide, by decide⟩)], .r [(1, X (Xl elemT o))]] (decide ((o.length : Int) > 2000)) (fun h11 => ?_) (fun h11 => ?_)
    ·
     (try simp only [decide_eq_true_eq, decide_eq_false_iff_not, Int.not_lt, Int.not_le, gt_iff_lt] at h11)
     exfalso
     omega
    ·
     (try simp only [decide_eq_true_eq, decide_eq_false_iff_not, Int.not_lt, Int.not_le, gt_iff_lt] at h11)
     refine .br [.r [], .u, .r [], .t, .r [(0, X (Xa (Xc ((0:Int) ≤ 1)) (Xc ((1 : Int) < ((3 : Nat) : Int)))) ⟨by decide, by decide⟩)], .r [(1, X (Xl elemT a))]] (decide ((a.length : Int) > 2000)) (fun h11 => ?_) (fun h11 => ?_)
     ·
      (try simp only [decide_eq_true_eq, decide_eq_false_iff_not, Int.not_lt, Int.not_le, gt_iff_lt] at h11)
      exfalso
      omega
     ·
      (try simp only [decide_eq_true_eq, decide_eq_false_iff_not, Int.not_lt, Int.not_le, gt_iff_lt] at h11)
      refine .br [.r [], .u, .r [], .t, .r [(0, X (Xa (Xc ((0:Int) ≤ 2)) (Xc ((2 : Int) < ((3 : Nat) : Int)))) ⟨by decide, by decide⟩)], .r [(1, X (Xl elemT b))]] (decide ((b.length : Int) > 2000)) (fun h11 => ?_) (fun h11 => ?_)
      ·
       (try simp only [decide_eq_true_eq, decide_eq_false_iff_not, Int.not_lt, Int.not_le, gt_iff_lt] at h11)
       exfalso
       omega
      ·
       (try simp only [decide_eq_true_eq, decide_eq_false_iff_not, Int.not_lt, Int.not_le, gt_iff_lt] at h11)
       refine .at 528 [] ([(0, VL 3 elemT o), (1, VL 3 elemT a), (2, VL 3 elemT b), (32, .t (.agg [TL 3 elemT o, TL 3 elemT a, TL 3 elemT b])), (33, VI 2), (38, VB (decide ((b.length : Int) > 2000)))], []) ?_
       exact .fin [.r [], .u, .r [], .f, .r [(3, X (Xc1 576 (fc_flows 0 o a b (by assumption) (by assumption) (by assumption) (by assumption) (by assumption) (by assumption) (by omega) (by omega) (by omega)) X0))], .r []] []

theorem mrg_facts : partE (lettersL { data := #[97, 98] }) 0 = 0 ∧ partE (lettersL { data := #[97, 120, 98] }) 0 = 0 ∧ ((lettersL { data := #[97, 98] })).length = 2 ∧ ((lettersL { data := #[97, 120, 98] })).length = 3 := by decide +kernel

theorem fc_merges  : FC Try.prog 70 [] (app emp []) (VB true) (app emp []) := by
 refine .go Try.f70 ?_
 obtain ⟨p1, p2, l1, l2⟩ := mrg_facts
 have n1 := ltr_an { data := #[97, 98] } 10000000
 have n2 := ltr_an { data := #[97, 120, 98] } 10000000
 obtain ⟨u1, u2⟩ := one_first p1 p2 n1 n2 (by omega) (by omega) 0
 have e1 : (((true && (sameF (lettersL { data := #[97, 120, 98] }) (lettersL ({ data := #[97, 120, 98] })))) && ((([] : List Conf).length : Int) == 0)) : Bool) = true := by
  rw [sameF_self]; rfl
 exact .finE [.r [], .r [(0, X (Xc1 8 (fc_letters ({ data := #[97, 98] }) (by decide)) X0)), (1, X (Xc1 16 (fc_letters ({ data := #[97, 120, 98] }) (by decide)) X0)), (2, X (Xc1 24 (fc_letters ({ data := #[97, 98] }) (by decide)) X0)), (3, X (Xc1 32 (fc_mergeFlows (lettersL ({ data := #[97, 98] })) (lettersL ({ data := #[97, 120, 98] })) (lettersL ({ data := #[97, 98] })) (by assumption) (by assumption) (by assumption) (by assumption) (by assumption) (by assumption) (by omega) (by omega) (by omega)) X0))], .le (.eq 1 (VL 3 elemT (mrgO 0 (lettersL ({ data := #[97, 98] })) (actOfL (doneD (diffU (lettersL ({ data := #[97, 98] })) (lettersL ({ data := #[97, 120, 98] }))))) (actOfL (doneD (diffU (lettersL ({ data := #[97, 98] })) (lettersL ({ data := #[97, 98] }))))))) (VL 3 elemT (lettersL { data := #[97, 120, 98] })) (.of_eq (by rw [u1]))), .le (.eq 2 (VL 5 confT (mrgC 0 (lettersL ({ data := #[97, 98] })) (actOfL (doneD (diffU (lettersL ({ data := #[97, 98] })) (lettersL ({ data := #[97, 120, 98] }))))) (actOfL (doneD (diffU (lettersL ({ data := #[97, 98] })) (lettersL ({ data := #[97, 98] }))))))) (VL 5 confT ([] : List Conf)) (.of_eq (by rw [u2]))), .r [(4, Xg true (Xc1 128 (fc_letters ({ data := #[97, 120, 98] }) (by decide)) X0)), (5, Xv 2 true (Xc0 (fc_sameFlow (lettersL { data := #[97, 120, 98] }) (lettersL ({ data := #[97, 120, 98] }))) X0)), (6, X (Xk true)), (9, Xv 1 (true && (sameF (lettersL { data := #[97, 120, 98] }) (lettersL ({ data := #[97, 120, 98] })))) (Xl confT ([] : List Conf))), (10, Xv 1 (true && (sameF (lettersL { data := #[97, 120, 98] }) (lettersL ({ data := #[97, 120, 98] })))) X0), (11, X (Xk (true && (sameF (lettersL { data := #[97, 120, 98] }) (lettersL ({ data := #[97, 120, 98] }))))))]] [] (fun z0 => (VB z0, [])) (((true && (sameF (lettersL { data := #[97, 120, 98] }) (lettersL ({ data := #[97, 120, 98] })))) && ((([] : List Conf).length : Int) == 0)) : Bool) (true : Bool) e1.symm
end Go.Ch
end
section
set_option linter.unusedVariables false
set_option linter.unusedSimpArgs false
namespace Go.Ch
open Go Go.Ab

def inC (c : List Conf) (i : Nat) : Prop := ∃ x ∈ c, x.fr ≤ (i : Int) ∧ (i : Int) < x.to
def kn : List Conf → Int
  | [] => 0
  | x :: l => (if x.kind = 0 then 1 else 0) + kn l
theorem kn_app (c d : List Conf) : kn (c ++ d) = kn c + kn d := by
  induction c with
  | nil => simp [kn]
  | cons x c ih => simp only [List.cons_append, kn, ih]; omega
theorem kn_at {c : List Conf} {i : Nat} (h : i < c.length) : kn (c.drop i) = (if (c.getD i default).kind = 0 then 1 else 0) + kn (c.drop (i + 1)) := by rw [dropD h, kn]
theorem kn_bd : ∀ c : List Conf, 0 ≤ kn c ∧ kn c ≤ c.length
  | [] => ⟨Int.le_refl _, Int.le_refl _⟩
  | x :: c => by
    have := kn_bd c
    simp only [kn, List.length_cons]; split <;> omega
theorem sameE_eq {x y : Elem} (h : sameE x y = true) : x = y := by
  unfold sameE at h
  simp only [Bool.and_eq_true, beq_iff_eq, sameL_eq] at h
  obtain ⟨⟨h1, h2⟩, h3⟩ := h
  cases x; cases y; simp_all
theorem sameFi_at {a b : List Elem} : ∀ (n i : Nat), a.length - i = n → sameFi a b i = true → ∀ j, i ≤ j → j < a.length → a.getD j default = b.getD j default
  | 0, i, hn, h => fun j h1 h2 => by omega
  | n + 1, i, hn, h => fun j h1 h2 => by
    rw [sameFi, if_pos (by omega)] at h
    split at h
    · rename_i q
      by_cases e : j = i
      · subst e; exact sameE_eq q
      · exact sameFi_at n (i + 1) (by omega) h j (by omega) h2
    · cases h
theorem sameF_eq {a b : List Elem} (h : sameF a b = true) : a = b := by
  unfold sameF at h
  simp only [Bool.and_eq_true, decide_eq_true_eq] at h
  have hl : a.length = b.length := by have := h.1; omega
  apply List.ext_getElem? 
  intro k
  by_cases hk : k < a.length
  · have := sameFi_at _ 0 rfl h.2 k (Nat.zero_le _) hk
    rw [List.getElem?_eq_getElem hk, List.getElem?_eq_getElem (by omega)]
    simpa [List.getD, List.getElem?_eq_getElem hk, List.getElem?_eq_getElem (show k < b.length by omega)] using this
  · rw [List.getElem?_eq_none (by omega), List.getElem?_eq_none (by omega)]
/-- Two merged flows that are alike outside of conflicts. -/
structure Ex (p q : List Elem) (c d : List Conf) : Prop where
  len : p.length = q.length
  same : ∀ i, i < p.length → inC c i ∨ sameE (p.getD i default) (q.getD i default) = true
  rng : ∀ x ∈ c, 0 ≤ x.fr ∧ x.to ≤ p.length
  adds : kn c = kn d
theorem getD_app_r' {α : Type} [Inhabited α] {l r : List α} {k : Nat} (h : l.length ≤ k) : (l ++ r).getD k default = r.getD (k - l.length) default := by
  simp [List.getD, List.getElem?_append_right h]
theorem inC_l {c d : List Conf} {i : Nat} (h : inC c i) : inC (c ++ d) i := by obtain ⟨x, h1, h2⟩ := h; exact ⟨x, List.mem_append_left _ h1, h2⟩
theorem inC_r {c d : List Conf} {i : Nat} (h : inC d i) : inC (c ++ d) i := by obtain ⟨x, h1, h2⟩ := h; exact ⟨x, List.mem_append_right _ h1, h2⟩
theorem Ex.app {p q : List Elem} {c d : List Conf} (h : Ex p q c d) {e f : List Elem} {u v : List Conf} (hl : e.length = f.length)
    (hs : ∀ i, i < e.length → inC u (p.length + i) ∨ sameE (e.getD i default) (f.getD i default) = true) (hr : ∀ x ∈ u, 0 ≤ x.fr ∧ x.to ≤ (p ++ e).length) (hk : kn u = kn v) : Ex (p ++ e) (q ++ f) (c ++ u) (d ++ v) := by
  have h1 := h.len
  refine ⟨by simp only [List.length_append]; omega, fun i hi => ?_, fun x hx => ?_, by rw [kn_app, kn_app, h.adds, hk]⟩
  · rw [List.length_append] at hi
    by_cases q1 : i < p.length
    · rw [getD_app_l q1, getD_app_l (by omega)]
      rcases h.same i q1 with r | r
      · exact .inl (inC_l r)
      · exact .inr r
    · rw [getD_app_r' (by omega), getD_app_r' (by omega), ← h1]
      rcases hs (i - p.length) (by omega) with r | r
      · rw [show p.length + (i - p.length) = i by omega] at r; exact .inl (inC_r r)
      · exact .inr r
  · rcases List.mem_append.1 hx with hx | hx
    · have := h.rng x hx
      rw [List.length_append]; omega
    · exact hr x hx
theorem Ex.more {p q : List Elem} {c d : List Conf} (h : Ex p q c d) (e : List Elem) : Ex (p ++ e) (q ++ e) c d := by
  have := h.app (e := e) (f := e) (u := []) (v := []) rfl (fun i hi => .inr (sameE_self _)) (fun x hx => by cases hx) rfl
  rwa [List.append_nil, List.append_nil] at this
theorem Ex.conf {p q : List Elem} {c d : List Conf} (h : Ex p q c d) {u v : List Conf} (hr : ∀ x ∈ u, 0 ≤ x.fr ∧ x.to ≤ p.length) (hk : kn u = kn v) : Ex p q (c ++ u) (d ++ v) := by
  have := h.app (e := []) (f := []) (u := u) (v := v) rfl (fun i hi => by simp at hi) (fun x hx => by rw [List.append_nil]; exact hr x hx) hk
  rwa [List.append_nil, List.append_nil] at this
section
variable {node : Int} {o a b : List Elem} {c : List Conf}
theorem gapO_s (h : b.length = 0 ∨ sameF a b = true) : gapO o a b = o ++ a := by unfold gapO; rw [if_pos h]
theorem gapC_s (h : b.length = 0 ∨ sameF a b = true) : gapC node o a b c = c := by unfold gapC; rw [if_pos h]
theorem gapO_n (h : ¬ (b.length = 0 ∨ sameF a b = true)) : gapO o a b = o ++ a ++ b := by unfold gapO; rw [if_neg h]
theorem gapC_n (h : ¬ (b.length = 0 ∨ sameF a b = true)) (ha : 0 < a.length) : gapC node o a b c = c ++ [⟨0, node, o.length, (o ++ a ++ b).length, { data := #[] }⟩] := by unfold gapC; rw [if_neg h, if_pos ha]
theorem gapC_0 (h : ¬ (b.length = 0 ∨ sameF a b = true)) (ha : ¬ 0 < a.length) : gapC node o a b c = c := by unfold gapC; rw [if_neg h, if_neg ha]
end
theorem gap_ex {p q : List Elem} {c d : List Conf} (h : Ex p q c d) (node : Int) (a b : List Elem) : Ex (gapO p a b) (gapO q b a) (gapC node p a b c) (gapC node q b a d) := by
  have hl := h.len
  by_cases hab : a = b
  · subst hab
    rw [gapO_s (.inr (sameF_self a)), gapO_s (.inr (sameF_self a)), gapC_s (.inr (sameF_self a)), gapC_s (.inr (sameF_self a))]
    exact h.more a
  · have n1 : ¬ sameF a b = true := fun q => hab (sameF_eq q)
    have n2 : ¬ sameF b a = true := fun q => hab (sameF_eq q).symm
    by_cases hb : b.length = 0
    · have ha : ¬ a.length = 0 := fun q => hab ((List.length_eq_zero_iff.1 q).trans (List.length_eq_zero_iff.1 hb).symm)
      have k2 : ¬ (a.length = 0 ∨ sameF b a = true) := by rintro (r | r); exact ha r; exact n2 r
      rw [gapO_s (.inl hb), gapC_s (.inl hb), gapO_n k2, gapC_0 k2 (by omega), List.length_eq_zero_iff.1 hb, List.append_nil]
      exact h.more a
    · have k1 : ¬ (b.length = 0 ∨ sameF a b = true) := by rintro (r | r); exact hb r; exact n1 r
      by_cases ha : a.length = 0
      · rw [gapO_n k1, gapC_0 k1 (by omega), gapO_s (.inl ha), gapC_s (.inl ha), List.length_eq_zero_iff.1 ha, List.append_nil]
        exact h.more b
      · have k2 : ¬ (a.length = 0 ∨ sameF b a = true) := by rintro (r | r); exact ha r; exact n2 r
        rw [gapO_n k1, gapC_n k1 (by omega), gapO_n k2, gapC_n k2 (by omega), List.append_assoc, List.append_assoc]
        refine h.app (by simp only [List.length_append]; omega) (fun i hi => .inl ⟨_, List.mem_singleton.2 rfl, ?_, ?_⟩) (fun x hx => ?_) rfl
        · simp only; omega
        · simp only [List.length_append] at hi ⊢; omega
        · rw [List.mem_singleton] at hx; subst hx
          simp only [List.length_append]; omega
theorem kn_att (node : Int) (k : Nat) (b a : List Attr) : kn (attC node k b a) = 0 := by
  unfold attC
  induction a.filter (clashB b) with
  | nil => rfl
  | cons x l ih => simp only [List.map_cons, kn, ih]; rfl
theorem elm_ex {p q : List Elem} {c d : List Conf} (h : Ex p q c d) (node : Int) {x : Elem} {a b : List Attr} (ca cb : Bool) (hx : VG false x.attrs) (ha : VG true a) (hb : VG true b) :
    Ex (elmO p x a b ca cb) (elmO q x b a cb ca) (elmC node p a b ca cb c) (elmC node q b a cb ca d) := by
  have hl := h.len
  by_cases hc : (ca || cb) = true
  · have hc' : (cb || ca) = true := by rw [Bool.or_comm]; exact hc
    unfold elmO elmC
    rw [if_pos hc, if_pos hc', if_pos hc, if_pos hc']
    by_cases k : (ca = false ∧ 0 < a.length) ∨ (cb = false ∧ 0 < b.length)
    · rw [if_pos k, if_pos (Or.comm.1 k)]
      refine h.conf (fun x hx => ?_) rfl
      rw [List.mem_singleton] at hx; subst hx
      simp only; omega
    · rw [if_neg k, if_neg (fun r => k (Or.comm.1 r))]
      exact h
  · have hc' : ¬ (cb || ca) = true := by rw [Bool.or_comm]; exact hc
    unfold elmO elmC
    rw [if_neg hc, if_neg hc', if_neg hc, if_neg hc']
    refine h.app rfl (fun i hi => ?_) (fun y hy => ?_) (by rw [kn_att, kn_att])
    · have hi0 : i = 0 := by simp only [List.length_singleton] at hi; omega
      subst hi0
      cases hf : a.filter (clashB b) with
      | nil =>
        right
        have hn : ∀ n v w, look a n = some v → look b n = some w → v = w := fun n v w h1 h2 => by
          have hm := look_mem h1
          apply Classical.byContradiction
          intro hne
          have : (⟨n, v⟩ : Attr) ∈ a.filter (clashB b) := List.mem_filter.2 ⟨hm, clash_iff.2 ⟨w, h2, fun e => hne e.symm⟩⟩
          rw [hf] at this; cases this
        have e := raw_comm hx ha hb hn
        show sameE (keptE x a b) (keptE x b a) = true
        unfold keptE
        rw [e]; exact sameE_self _
      | cons y l =>
        left
        refine ⟨⟨2, node, p.length, (p.length : Int) + 1, y.name⟩, ?_, ?_, ?_⟩
        · unfold attC; rw [hf]; simp
        · simp only; omega
        · simp only; omega
    · unfold attC at hy
      obtain ⟨z, _, rfl⟩ := List.mem_map.1 hy
      simp only [List.length_append, List.length_singleton]; omega
theorem mrg_ex {o : List Elem} {A B : Act} (node : Int) (hA : ActBd A o.length) (hB : ActBd B o.length) (vA : ∀ c ∈ A.set, VG true c) (vB : ∀ c ∈ B.set, VG true c) (vo : AV o) :
    Ex (mrgO node o A B) (mrgO node o B A) (mrgC node o A B) (mrgC node o B A) := by
  have key : ∀ i, i ≤ o.length → Ex (mrgS node o A B i).1 (mrgS node o B A i).1 (mrgS node o A B i).2 (mrgS node o B A i).2 := by
    intro i
    induction i with
    | zero => intro _; exact ⟨rfl, fun i hi => (by simp [mrgS] at hi), fun x hx => (by cases hx), rfl⟩
    | succ i ih =>
      intro hi
      have f1 := hA.fit.2
      have f2 := hB.fit.2
      have l1 := hA.len
      have l2 := hB.len
      have g := gap_ex (ih (by omega)) node (A.ins.getD i default) (B.ins.getD i default)
      rw [mrgS, mrgS]
      exact elm_ex g node _ _ (vo _ (getD_mem' (by omega))) (vA _ (getD_mem' (by omega))) (vB _ (getD_mem' (by omega)))
  exact gap_ex (key _ (Nat.le_refl _)) node _ _
/-! ### Drawn changes -/
theorem an_units {k : Nat} : ∀ (us : List DU) (l : List Elem), (∀ u ∈ us, UnitS u) → AN k l → AN (k + 100) (applyU us l)
  | [], l, _, h => fun x hx => by
    rw [applyU] at hx
    first | (have := h x hx; omega) | (cases hx)
  | .A e :: us, l, hu, h => fun x hx => by
    simp only [applyU, List.mem_cons] at hx
    rcases hx with rfl | hx
    · have := (hu (.A x) (by simp)).2; omega
    · exact an_units us l (fun u q => hu u (by simp [q])) h x hx
  | .K c :: us, [], hu, h => fun x hx => by
    simp only [applyU] at hx
    exact an_units us [] (fun u q => hu u (by simp [q])) h x hx
  | .K c :: us, y :: l, hu, h => fun x hx => by
    simp only [applyU, List.mem_cons] at hx
    rcases hx with rfl | hx
    · have h1 := (hu (.K c) (by simp)).2
      have h2 := h y (by simp)
      have h3 := fm_len' rawG y.attrs c
      simp only [chgE]; omega
    · exact an_units us l (fun u q => hu u (by simp [q])) (fun z hz => h z (by simp [hz])) x hx
  | .C :: us, [], hu, h => fun x hx => by
    simp only [applyU] at hx
    exact an_units us [] (fun u q => hu u (by simp [q])) h x hx
  | .C :: us, y :: l, hu, h => fun x hx => by
    simp only [applyU] at hx
    exact an_units us l (fun u q => hu u (by simp [q])) (fun z hz => h z (by simp [hz])) x hx
theorem drawn {o : List Elem} {raw : List Int} {tag : ByteArray} (ht : TagOk tag) (po : partE o 0 = 0) (no : AN 1048576 o) (lo : o.length ≤ 12) {d : List DStep} (hd : doneD (actR (chgX raw tag o.length) 0) = d) :
    DValid d ∧ oldD d = o.length ∧ DN 100000000000 d ∧ partE (rawD o d) 0 = 0 ∧ AN 10000000 (rawD o d) ∧ (rawD o d).length ≤ 40 := by
  subst hd
  obtain ⟨_, _, _, _, va, oa, da, na, wa⟩ := change_ok (raw := raw) ht (n := o.length) (by omega)
  obtain ⟨_, _, _, _, _, pr, _⟩ := undo_law po va da (fun x hx => by have := no x hx; omega) oa
  have hl := after_len va oa
  obtain ⟨a1, a2, a3, a4⟩ := chgX_ok (raw := raw) ht o.length
  obtain ⟨f1, _⟩ := actR_facts a1 a2 a3 a4 o.length 0 (by omega) (by omega)
  refine ⟨va, oa, da, pr, ?_, by omega⟩
  unfold rawD
  rw [sw_applyU wa]
  exact fun x hx => by have := an_units _ _ f1 no x hx; omega
end Go.Ch
namespace Go.Ch
open Go Go.Ab
/-- What is marked: the places of some conflicts. -/
def Mk (m : List Bool) (l : List Conf) : Prop := ∀ x ∈ l, ∀ k : Nat, x.fr ≤ (k : Int) → (k : Int) < x.to → m.getD k default = true
theorem set_keeps {m : List Bool} {k j : Nat} (h : m.getD k default = true) : (m.set j true).getD k default = true := by
  by_cases e : j = k
  · subst e
    by_cases q : j < m.length
    · exact getD_set_eq q
    · rw [List.set_eq_of_length_le (by omega)]; exact h
  · rw [getD_set_ne e]; exact h
theorem Mk.set {m : List Bool} {l : List Conf} (h : Mk m l) (j : Nat) : Mk (m.set j true) l := fun x hx k h1 h2 => set_keeps (h x hx k h1 h2)
theorem Mk.snoc {m : List Bool} {c : List Conf} {i : Nat} (h : Mk m (c.take i)) (hi : i < c.length) (hk : ∀ k : Nat, (c.getD i default).fr ≤ (k : Int) → (k : Int) < (c.getD i default).to → m.getD k default = true) : Mk m (c.take (i + 1)) := fun x hx => by
  rw [List.take_succ_eq_append_getElem hi] at hx
  rcases List.mem_append.1 hx with hx | hx
  · exact h x hx
  · rw [List.mem_singleton] at hx; subst hx
    have e : c.getD i default = c[i] := by simp [List.getD, List.getElem?_eq_getElem hi]
    rw [e] at hk; exact hk
theorem Mk.all {m : List Bool} {c : List Conf} {i : Nat} (h : Mk m (c.take i)) (hi : c.length ≤ i) {k : Nat} (hc : inC c k) : m.getD k default = true := by
  rw [List.take_of_length_le hi] at h
  obtain ⟨x, h1, h2, h3⟩ := hc
  exact h x h1 k h2 h3
end Go.Ch
end
section
set_option linter.unusedVariables false
set_option linter.unusedSimpArgs false
set_option maxRecDepth 100000
set_option maxHeartbeats 4000000
open Go Go.Proofs Go.Ab
namespace Go.Ch
theorem fc_lawEx (f0 : List Elem) (p q : List Int) (hsz : SzE f0) (ha0 : AN 1048576 f0) : FC Try.prog 18 [VL 3 elemT f0, VL 1 intT p, VL 1 intT q] (app emp []) (VB true) (app emp []) := by
 refine .go Try.f18 ?_
 refine .len 0 (fun hl0 => ?_)
 refine .len 1 (fun hl1 => ?_)
 refine .len 2 (fun hl2 => ?_)
 have t1 := tag_one
 have t2 := tag_two
 refine .br [.r [], .r [(0, X (Xc0 fc_merges X0))], .f, .r [(1, X (Xl elemT f0))]] (decide ((f0.length : Int) > 12)) (fun h3 => ?_) (fun h3 => ?_)
 ·
  (try simp only [decide_eq_true_eq, decide_eq_false_iff_not, Int.not_lt, Int.not_le, gt_iff_lt] at h3)
  obtain ⟨o, hff⟩ : ∃ z, (f0.take 12) = z := ⟨_, rfl⟩
  have hz0 : SzE (f0.take 12) := by first | exact hsz | exact fun x hx => hsz x (List.mem_of_mem_take hx)
  have ha : AN 1048576 (f0.take 12) := by first | exact ha0 | exact an_take ha0 _
  have hlen : ((f0.take 12)).length ≤ 12 := by first | omega | (simp only [List.length_take]; omega)
  rw [hff] at ha hlen
  refine .br [.r [(1, X (Xst elemT 3 f0 12))], .r [(1, X (Xc0 (fc_partError (f0.take 12) (by assumption)) X0))], .le (.eq 0 (VL 3 elemT (f0.take 12)) (VL 3 elemT o) (.of_eq (by rw [hff])))] ((partE (f0.take 12) 0) != 0) (fun h5 => ?_) (fun h5 => ?_)
  ·
   (try simp only [bne_iff_ne, bne_eq_false_iff_eq, ne_eq] at h5)
   exact .fin [.r []] []
  ·
   (try simp only [bne_iff_ne, bne_eq_false_iff_eq, ne_eq] at h5)
   rw [hff] at h5
   have po : partE o 0 = 0 := by omega
   have no := an_up ha (k := 10000000) (by decide)
   have ne := an_up ha (k := 100000000000) (by decide)
   have vo := part_av po
   unfold AV at vo
   obtain ⟨v1, o1, w1, pa, na, la⟩ := drawn (raw := p) tag_one po ha hlen (d := doneD (actR (chgX p ({ data := #[111, 110, 101] }) (Int.toNat ((o).length : Int))) 0)) rfl
   obtain ⟨v2, o2, w2, pb, nb, lb⟩ := drawn (raw := q) tag_two po ha hlen (d := doneD (actR (chgX q ({ data := #[116, 119, 111] }) (Int.toNat ((o).length : Int))) 0)) rfl
   obtain ⟨a, hA⟩ : ∃ z, rawD o (doneD (actR (chgX p ({ data := #[111, 110, 101] }) (Int.toNat ((o).length : Int))) 0)) = z := ⟨_, rfl⟩
   obtain ⟨b, hB⟩ : ∃ z, rawD o (doneD (actR (chgX q ({ data := #[116, 119, 111] }) (Int.toNat ((o).length : Int))) 0)) = z := ⟨_, rfl⟩
   rw [hA] at pa na la
   rw [hB] at pb nb lb
   have A1 := act_bd po pa no na (by omega) (by omega)
   have A2 := act_bd po pb no nb (by omega) (by omega)
   have no' := an_up no (k := 1000000000) (by decide)
   obtain ⟨_, _, _, _, _, x1, _⟩ := diff_law po pa no' (an_up na (k := 1000000000) (by decide)) (by omega) (by omega)
   obtain ⟨_, _, _, _, _, x2, _⟩ := diff_law po pb no' (an_up nb (k := 1000000000) (by decide)) (by omega) (by omega)
   have hE := mrg_ex 0 A1 A2 (act_vg x1) (act_vg x2) (part_av po)
   have y1 := gap_bd (node := 0) (mrg_bd (node := 0) A1 A2 no o.length (Nat.le_refl _)) (A1.at_ (Nat.le_refl _)) (A2.at_ (Nat.le_refl _))
   have y2 := gap_bd (node := 0) (mrg_bd (node := 0) A2 A1 no o.length (Nat.le_refl _)) (A2.at_ (Nat.le_refl _)) (A1.at_ (Nat.le_refl _))
   obtain ⟨f, hf⟩ : ∃ z, mrgO 0 o (actOfL (doneD (diffU o a))) (actOfL (doneD (diffU o b))) = z := ⟨_, rfl⟩
   obtain ⟨g, hg⟩ : ∃ z, mrgO 0 o (actOfL (doneD (diffU o b))) (actOfL (doneD (diffU o a))) = z := ⟨_, rfl⟩
   obtain ⟨c, hc⟩ : ∃ z, mrgC 0 o (actOfL (doneD (diffU o a))) (actOfL (doneD (diffU o b))) = z := ⟨_, rfl⟩
   obtain ⟨d, hd⟩ : ∃ z, mrgC 0 o (actOfL (doneD (diffU o b))) (actOfL (doneD (diffU o a))) = z := ⟨_, rfl⟩
   rw [hf, hg, hc, hd] at hE
   have lf : f.length ≤ 1000000 := by rw [← hf]; have := y1.1; unfold mrgO; omega
   have lc : c.length ≤ 1000000000 := by rw [← hc]; have := y1.2.2; unfold mrgC; omega
   have ld : d.length ≤ 1000000000 := by rw [← hd]; have := y2.2.2; unfold mrgC; omega
   have hel := hE.len
   refine .br [.r [(2, X (Xl elemT o)), (4, X (Xc1 128 (fc_draw (o.length : Int) p ({ data := #[111, 110, 101] }) (by assumption) (by omega)) X0)), (5, X (Xc1 136 (fc_after o (doneD (actR (chgX p ({ data := #[111, 110, 101] }) (Int.toNat (o.length : Int))) 0)) (by assumption) (by assumption) (by omega) (by assumption) (by assumption)) X0))], .le (.eq 7 (VL 3 elemT (rawD o (doneD (actR (chgX p ({ data := #[111, 110, 101] }) (Int.toNat (o.length : Int))) 0)))) (VL 3 elemT a) (.of_eq (by rw [hA]))), .r [(2, X (Xl elemT o)), (4, X (Xc1 184 (fc_draw (o.length : Int) q ({ data := #[116, 119, 111] }) (by assumption) (by omega)) X0)), (5, X (Xc1 192 (fc_after o (doneD (actR (chgX q ({ data := #[116, 119, 111] }) (Int.toNat (o.length : Int))) 0)) (by assumption) (by assumption) (by omega) (by assumption) (by assumption)) X0))], .le (.eq 8 (VL 3 elemT (rawD o (doneD (actR (chgX q ({ data := #[116, 119, 111] }) (Int.toNat (o.length : Int))) 0)))) (VL 3 elemT b) (.of_eq (by rw [hB]))), .r [(3, X (Xc1 232 (fc_mergeFlows o a b (by assumption) (by assumption) (by assumption) (by assumption) (by assumption) (by assumption) (by omega) (by omega) (by omega)) X0))], .le (.eq 9 (VL 3 elemT (mrgO 0 o (actOfL (doneD (diffU o a))) (actOfL (doneD (diffU o b))))) (VL 3 elemT f) (.of_eq (by rw [hf]))), .le (.eq 10 (VL 5 confT (mrgC 0 o (actOfL (doneD (diffU o a))) (actOfL (doneD (diffU o b))))) (VL 5 confT c) (.of_eq (by rw [hc]))), .r [(3, X (Xc1 320 (fc_mergeFlows o b a (by assumption) (by assumption) (by assumption) (by assumption) (by assumption) (by assumption) (by omega) (by omega) (by omega)) X0))], .le (.eq 12 (VL 3 elemT (mrgO 0 o (actOfL (doneD (diffU o b))) (actOfL (doneD (diffU o a))))) (VL 3 elemT g) (.of_eq (by rw [hg]))), .le (.eq 13 (VL 5 confT (mrgC 0 o (actOfL (doneD (diffU o b))) (actOfL (doneD (diffU o a))))) (VL 5 confT d) (.of_eq (by rw [hd]))), .r [(4, Xv 1 (!false) X0), (5, X (Xk' false)), (8, Xv 1 (!(false || false)) (Xl elemT f)), (10, Xv 1 (!(false || false)) (Xl elemT g)), (11, Xv 2 (!(false || false)) X0), (12, X (Xk' (false || false)))]] ((false || false) || ((f.length : Int) != (g.length : Int))) (fun h11 => ?_) (fun h11 => ?_)
   ·
    (try simp only [Bool.or_eq_true, Bool.or_eq_false_iff, bne_iff_ne, bne_eq_false_iff_eq, ne_eq] at h11)
    exfalso
    first | omega | (simp at h11; omega)
   ·
    (try simp only [Bool.or_eq_true, Bool.or_eq_false_iff, bne_iff_ne, bne_eq_false_iff_eq, ne_eq] at h11)
    refine .loop (α := Nat × (List Bool)) [.r [(1, X (Xl elemT f)), (2, X (Xn ((f.length : Int) + 1))), (3, X (Xmk 1 boolT 512 ((f.length : Int) + 1) ((f.length : Int) + 1) false))], .r [(1, X (Xl confT c))]] 552 (fun (i, m) => ([(9, VL 3 elemT f), (10, VL 5 confT c), (12, VL 3 elemT g), (13, VL 5 confT d), (15, .row 512 (f.length + 1)), (80, VL 5 confT c), (81, VI (c.length : Int)), (82, VI (i : Int))], [(512, OR 1 boolT m)])) (fun (i, m) => i ≤ c.length ∧ m.length = f.length + 1 ∧ Mk m (c.take i)) (fun (i, m) => c.length - i) (0, (List.replicate (f.length + 1) false)) ?_ ?_
    ·
     exact ⟨by omega, by simp, fun x hx => by simp at hx⟩
    rintro ⟨i, m⟩ I15 ih15
    try dsimp only at I15
    refine .br [.r []] (decide ((i : Int) < (c.length : Int))) (fun h15 => ?_) (fun h15 => ?_)
    ·
     (try simp only [decide_eq_true_eq, decide_eq_false_iff_not, Int.not_lt, Int.not_le] at h15)
     have hr := hE.rng _ (getD_mem' (l := c) (k := i) (by omega))
     refine .loop (α := Int × (List Bool)) [.r [(0, X (Xi confT c (i : Int)))], .r []] 616 (fun (j, m2) => ([(9, VL 3 elemT f), (10, VL 5 confT c), (12, VL 3 elemT g), (13, VL 5 confT d), (15, .row 512 (f.length + 1)), (17, .ptr 576 0), (18, VI j), (80, VL 5 confT c), (81, VI (c.length : Int)), (82, VI (i : Int))], [(512, OR 1 boolT m2), (576, .box [VI (((c.getD i default)).kind), VI (((c.getD i default)).node), VI (((c.getD i default)).fr), VI (((c.getD i default)).to), VS (((c.getD i default)).name)])])) (fun (j, m2) => (c.getD i default).fr ≤ j ∧ m2.length = f.length + 1 ∧ Mk m2 (c.take i) ∧ ∀ k : Nat, (c.getD i default).fr ≤ (k : Int) → (k : Int) < j → m2.getD k default = true) (fun (j, m2) => ((c.getD i default).to - j).toNat) (((c.getD i default)).fr, m) ?_ ?_
     ·
      exact ⟨by omega, I15.2.1, I15.2.2, fun k h1 h2 => by omega⟩
     rintro ⟨j, m2⟩ I18 ih18
     try dsimp only at I18
     refine .br [.r []] (decide (j < (((c.getD i default)).to))) (fun h18 => ?_) (fun h18 => ?_)
     ·
      (try simp only [decide_eq_true_eq, decide_eq_false_iff_not, Int.not_lt, Int.not_le] at h18)
      refine .br [.r [(5, Xv 1 (!(decide (j < 0))) (Xl elemT f)), (6, Xv 2 (!(decide (j < 0))) X0), (7, X (Xk' (decide (j < 0))))]] (decide (j < 0) || decide (j ≥ (f.length : Int))) (fun h20 => ?_) (fun h20 => ?_)
      ·
       (try simp only [decide_eq_true_eq, decide_eq_false_iff_not, Int.not_lt, Int.not_le, ge_iff_le, Bool.or_eq_true, Bool.or_eq_false_iff] at h20)
       exfalso
       omega
      ·
       (try simp only [decide_eq_true_eq, decide_eq_false_iff_not, Int.not_lt, Int.not_le, ge_iff_le, Bool.or_eq_true, Bool.or_eq_false_iff] at h20)
       refine .back [.r [(2, X (Xpn (f.length + 1) boolT m2 j)), (3, X (Xsn (f.length + 1) 1 boolT 512 m2 (Int.toNat j) true))], .r [(1, X (Xn (j + 1)))]] [(512, 512), (576, 576)] (ih18 ((j + 1), (m2.set (Int.toNat j) true)) ?_ ?_)
       ·
        refine ⟨by omega, by rw [List.length_set]; omega, I18.2.2.1.set _, fun k h1 h2 => ?_⟩
        by_cases e : (k : Int) = j
        · rw [show Int.toNat j = k by omega]; exact getD_set_eq (by omega)
        · exact set_keeps (I18.2.2.2 k h1 (by omega))
       ·
        ((try dsimp only); omega)
     ·
      (try simp only [decide_eq_true_eq, decide_eq_false_iff_not, Int.not_lt, Int.not_le] at h18)
      refine .back [.r [(0, X (Xn ((i : Int) + 1)))]] [(512, 512)] (ih15 ((i + 1), m2) ?_ ?_)
      ·
       exact ⟨by omega, I18.2.1, I18.2.2.1.snoc (by omega) (fun k h1 h2 => I18.2.2.2 k h1 (by omega))⟩
      ·
       ((try dsimp only); omega)
    ·
     (try simp only [decide_eq_true_eq, decide_eq_false_iff_not, Int.not_lt, Int.not_le] at h15)
     refine .loop (α := Nat) [.r [(1, X (Xl elemT f))]] 584 (fun n => ([(9, VL 3 elemT f), (10, VL 5 confT c), (12, VL 3 elemT g), (13, VL 5 confT d), (15, .row 512 (f.length + 1)), (107, VI (f.length : Int)), (108, VI (n : Int))], [(512, OR 1 boolT m)])) (fun n => n ≤ f.length) (fun n => f.length - n) (0 : Nat) ?_ ?_
     ·
      omega
     rintro n I25 ih25
     try dsimp only at I25
     refine .br [.r []] (decide ((n : Int) < (f.length : Int))) (fun h25 => ?_) (fun h25 => ?_)
     ·
      (try simp only [decide_eq_true_eq, decide_eq_false_iff_not, Int.not_lt, Int.not_le] at h25)
      refine .br [.r [], .r [(2, X (Xpn (f.length + 1) boolT m (n : Int))), (3, X (Xen (f.length + 1) boolT m n)), (8, Xv 2 (!(m.getD n default)) (Xi elemT f (n : Int)) (fun hg => by (try simp only [Bool.not_eq_true', Bool.not_eq_false'] at hg); exact ⟨(by omega), (by omega)⟩)), (9, Xv 1 (!(m.getD n default)) X0), (12, Xv 2 (!(m.getD n default)) (Xi elemT g (n : Int)) (fun hg => by (try simp only [Bool.not_eq_true', Bool.not_eq_false'] at hg); exact ⟨(by omega), (by omega)⟩)), (13, Xv 1 (!(m.getD n default)) X0), (14, Xv 2 (!(m.getD n default)) (Xc0 (fc_sameElem ((f.getD n default)) ((g.getD n default))) X0)), (15, Xv 1 (!(m.getD n default)) X0), (16, X (Xk (!(m.getD n default))))]] (!(m.getD n default) && !(sameE ((f.getD n default)) ((g.getD n default)))) (fun h27 => ?_) (fun h27 => ?_)
      ·
       (try simp only [Bool.not_eq_true', Bool.not_eq_false', Bool.and_eq_true, Bool.and_eq_false_iff] at h27)
       exfalso
       obtain ⟨k1, k2⟩ := h27
       rcases hE.same n (by omega) with r | r
       · have := I15.2.2.all (by omega) r; rw [this] at k1; cases k1
       · rw [r] at k2; cases k2
      ·
       (try simp only [Bool.not_eq_true', Bool.not_eq_false', Bool.and_eq_true, Bool.and_eq_false_iff] at h27)
       refine .back [.r [(0, X (Xn ((n : Int) + 1)))]] [(512, 512)] (ih25 ((n + 1) : Nat) ?_ ?_)
       ·
        show _ ≤ _; omega
       ·
        ((try dsimp only); omega)
     ·
      (try simp only [decide_eq_true_eq, decide_eq_false_iff_not, Int.not_lt, Int.not_le] at h25)
      refine .loop (α := Int × Nat) [.r [], .r [(1, X (Xl confT c))]] 624 (fun (t, u) => ([(13, VL 5 confT d), (20, VI t), (129, VL 5 confT c), (130, VI (c.length : Int)), (131, VI (u : Int))], [])) (fun (t, u) => u ≤ c.length ∧ t + kn (c.drop u) = kn c) (fun (t, u) => c.length - u) (0, 0) ?_ ?_
      ·
       exact ⟨by omega, by simp⟩
      rintro ⟨t, u⟩ I32 ih32
      try dsimp only at I32
      have kb := kn_bd (c.drop u)
      have kc := kn_bd c
      rw [List.length_drop] at kb
      refine .br [.r []] (decide ((u : Int) < (c.length : Int))) (fun h32 => ?_) (fun h32 => ?_)
      ·
       (try simp only [decide_eq_true_eq, decide_eq_false_iff_not, Int.not_lt, Int.not_le] at h32)
       have hs := kn_at (c := c) (i := u) (by omega)
       refine .br [.r [(0, X (Xi confT c (u : Int)))], .r []] ((((c.getD u default)).kind) == 0) (fun h34 => ?_) (fun h34 => ?_)
       ·
        (try simp only [beq_iff_eq, beq_eq_false_iff_ne, ne_eq] at h34)
        refine .back [.r [(1, X (Xn (t + 1)))], .r [(0, X (Xn ((u : Int) + 1)))]] [] (ih32 ((t + 1), (u + 1)) ?_ ?_)
        ·
         rw [if_pos h34] at hs
         exact ⟨by omega, by omega⟩
        ·
         ((try dsimp only); omega)
       ·
        (try simp only [beq_iff_eq, beq_eq_false_iff_ne, ne_eq] at h34)
        refine .back [.r [(0, X (Xn ((u : Int) + 1)))]] [] (ih32 (t, (u + 1)) ?_ ?_)
        ·
         rw [if_neg h34] at hs
         exact ⟨by omega, by omega⟩
        ·
         ((try dsimp only); omega)
      ·
       (try simp only [decide_eq_true_eq, decide_eq_false_iff_not, Int.not_lt, Int.not_le] at h32)
       refine .loop (α := Int × Nat) [.r [(1, X (Xl confT d))]] 656 (fun (y, w) => ([(20, VI y), (141, VL 5 confT d), (142, VI (d.length : Int)), (143, VI (w : Int))], [])) (fun (y, w) => w ≤ d.length ∧ y = kn (d.drop w)) (fun (y, w) => d.length - w) (t, 0) ?_ ?_
       ·
        exact ⟨by omega, by rw [List.drop_zero, ← hE.adds, ← I32.2, List.drop_eq_nil_of_le (by omega)]; simp [kn]⟩
       rintro ⟨y, w⟩ I38 ih38
       try dsimp only at I38
       have kd := kn_bd (d.drop w)
       rw [List.length_drop] at kd
       refine .br [.r []] (decide ((w : Int) < (d.length : Int))) (fun h38 => ?_) (fun h38 => ?_)
       ·
        (try simp only [decide_eq_true_eq, decide_eq_false_iff_not, Int.not_lt, Int.not_le] at h38)
        have hs := kn_at (c := d) (i := w) (by omega)
        refine .br [.r [(0, X (Xi confT d (w : Int)))], .r []] ((((d.getD w default)).kind) == 0) (fun h40 => ?_) (fun h40 => ?_)
        ·
         (try simp only [beq_iff_eq, beq_eq_false_iff_ne, ne_eq] at h40)
         refine .back [.r [(1, X (Xn (y - 1)))], .r [(0, X (Xn ((w : Int) + 1)))]] [] (ih38 ((y - 1), (w + 1)) ?_ ?_)
         ·
          rw [if_pos h40] at hs
          exact ⟨by omega, by omega⟩
         ·
          ((try dsimp only); omega)
        ·
         (try simp only [beq_iff_eq, beq_eq_false_iff_ne, ne_eq] at h40)
         refine .back [.r [(0, X (Xn ((w : Int) + 1)))]] [] (ih38 (y, (w + 1)) ?_ ?_)
         ·
          rw [if_neg h40] at hs
          exact ⟨by omega, by omega⟩
         ·
          ((try dsimp only); omega)
       ·
        (try simp only [decide_eq_true_eq, decide_eq_false_iff_not, Int.not_lt, Int.not_le] at h38)
        have hy : y = 0 := by rw [I38.2, List.drop_eq_nil_of_le (by omega)]; rfl
        have e1 : ((y == 0) : Bool) = true := by
         rw [hy]; rfl
        exact .finE [.r []] [] (fun z0 => (VB z0, [])) ((y == 0) : Bool) (true : Bool) e1.symm
 ·
  (try simp only [decide_eq_true_eq, decide_eq_false_iff_not, Int.not_lt, Int.not_le, gt_iff_lt] at h3)
  obtain ⟨o, hff⟩ : ∃ z, f0 = z := ⟨_, rfl⟩
  have hz0 : SzE f0 := by first | exact hsz | exact fun x hx => hsz x (List.mem_of_mem_take hx)
  have ha : AN 1048576 f0 := by first | exact ha0 | exact an_take ha0 _
  have hlen : (f0).length ≤ 12 := by first | omega | (simp only [List.length_take]; omega)
  rw [hff] at ha hlen
  refine .br [.r [(1, X (Xc0 (fc_partError f0 (by assumption)) X0))], .le (.eq 0 (VL 3 elemT f0) (VL 3 elemT o) (.of_eq (by rw [hff])))] ((partE f0 0) != 0) (fun h5 => ?_) (fun h5 => ?_)
  ·
   (try simp only [bne_iff_ne, bne_eq_false_iff_eq, ne_eq] at h5)
   exact .fin [.r []] []
  ·
   (try simp only [bne_iff_ne, bne_eq_false_iff_eq, ne_eq] at h5)
   rw [hff] at h5
   have po : partE o 0 = 0 := by omega
   have no := an_up ha (k := 10000000) (by decide)
   have ne := an_up ha (k := 100000000000) (by decide)
   have vo := part_av po
   unfold AV at vo
   obtain ⟨v1, o1, w1, pa, na, la⟩ := drawn (raw := p) tag_one po ha hlen (d := doneD (actR (chgX p ({ data := #[111, 110, 101] }) (Int.toNat ((o).length : Int))) 0)) rfl
   obtain ⟨v2, o2, w2, pb, nb, lb⟩ := drawn (raw := q) tag_two po ha hlen (d := doneD (actR (chgX q ({ data := #[116, 119, 111] }) (Int.toNat ((o).length : Int))) 0)) rfl
   obtain ⟨a, hA⟩ : ∃ z, rawD o (doneD (actR (chgX p ({ data := #[111, 110, 101] }) (Int.toNat ((o).length : Int))) 0)) = z := ⟨_, rfl⟩
   obtain ⟨b, hB⟩ : ∃ z, rawD o (doneD (actR (chgX q ({ data := #[116, 119, 111] }) (Int.toNat ((o).length : Int))) 0)) = z := ⟨_, rfl⟩
   rw [hA] at pa na la
   rw [hB] at pb nb lb
   have A1 := act_bd po pa no na (by omega) (by omega)
   have A2 := act_bd po pb no nb (by omega) (by omega)
   have no' := an_up no (k := 1000000000) (by decide)
   obtain ⟨_, _, _, _, _, x1, _⟩ := diff_law po pa no' (an_up na (k := 1000000000) (by decide)) (by omega) (by omega)
   obtain ⟨_, _, _, _, _, x2, _⟩ := diff_law po pb no' (an_up nb (k := 1000000000) (by decide)) (by omega) (by omega)
   have hE := mrg_ex 0 A1 A2 (act_vg x1) (act_vg x2) (part_av po)
   have y1 := gap_bd (node := 0) (mrg_bd (node := 0) A1 A2 no o.length (Nat.le_refl _)) (A1.at_ (Nat.le_refl _)) (A2.at_ (Nat.le_refl _))
   have y2 := gap_bd (node := 0) (mrg_bd (node := 0) A2 A1 no o.length (Nat.le_refl _)) (A2.at_ (Nat.le_refl _)) (A1.at_ (Nat.le_refl _))
   obtain ⟨f, hf⟩ : ∃ z, mrgO 0 o (actOfL (doneD (diffU o a))) (actOfL (doneD (diffU o b))) = z := ⟨_, rfl⟩
   obtain ⟨g, hg⟩ : ∃ z, mrgO 0 o (actOfL (doneD (diffU o b))) (actOfL (doneD (diffU o a))) = z := ⟨_, rfl⟩
   obtain ⟨c, hc⟩ : ∃ z, mrgC 0 o (actOfL (doneD (diffU o a))) (actOfL (doneD (diffU o b))) = z := ⟨_, rfl⟩
   obtain ⟨d, hd⟩ : ∃ z, mrgC 0 o (actOfL (doneD (diffU o b))) (actOfL (doneD (diffU o a))) = z := ⟨_, rfl⟩
   rw [hf, hg, hc, hd] at hE
   have lf : f.length ≤ 1000000 := by rw [← hf]; have := y1.1; unfold mrgO; omega
   have lc : c.length ≤ 1000000000 := by rw [← hc]; have := y1.2.2; unfold mrgC; omega
   have ld : d.length ≤ 1000000000 := by rw [← hd]; have := y2.2.2; unfold mrgC; omega
   have hel := hE.len
   refine .br [.r [(2, X (Xl elemT o)), (4, X (Xc1 104 (fc_draw (o.length : Int) p ({ data := #[111, 110, 101] }) (by assumption) (by omega)) X0)), (5, X (Xc1 112 (fc_after o (doneD (actR (chgX p ({ data := #[111, 110, 101] }) (Int.toNat (o.length : Int))) 0)) (by assumption) (by assumption) (by omega) (by assumption) (by assumption)) X0))], .le (.eq 7 (VL 3 elemT (rawD o (doneD (actR (chgX p ({ data := #[111, 110, 101] }) (Int.toNat (o.length : Int))) 0)))) (VL 3 elemT a) (.of_eq (by rw [hA]))), .r [(2, X (Xl elemT o)), (4, X (Xc1 160 (fc_draw (o.length : Int) q ({ data := #[116, 119, 111] }) (by assumption) (by omega)) X0)), (5, X (Xc1 168 (fc_after o (doneD (actR (chgX q ({ data := #[116, 119, 111] }) (Int.toNat (o.length : Int))) 0)) (by assumption) (by assumption) (by omega) (by assumption) (by assumption)) X0))], .le (.eq 8 (VL 3 elemT (rawD o (doneD (actR (chgX q ({ data := #[116, 119, 111] }) (Int.toNat (o.length : Int))) 0)))) (VL 3 elemT b) (.of_eq (by rw [hB]))), .r [(3, X (Xc1 208 (fc_mergeFlows o a b (by assumption) (by assumption) (by assumption) (by assumption) (by assumption) (by assumption) (by omega) (by omega) (by omega)) X0))], .le (.eq 9 (VL 3 elemT (mrgO 0 o (actOfL (doneD (diffU o a))) (actOfL (doneD (diffU o b))))) (VL 3 elemT f) (.of_eq (by rw [hf]))), .le (.eq 10 (VL 5 confT (mrgC 0 o (actOfL (doneD (diffU o a))) (actOfL (doneD (diffU o b))))) (VL 5 confT c) (.of_eq (by rw [hc]))), .r [(3, X (Xc1 296 (fc_mergeFlows o b a (by assumption) (by assumption) (by assumption) (by assumption) (by assumption) (by assumption) (by omega) (by omega) (by omega)) X0))], .le (.eq 12 (VL 3 elemT (mrgO 0 o (actOfL (doneD (diffU o b))) (actOfL (doneD (diffU o a))))) (VL 3 elemT g) (.of_eq (by rw [hg]))), .le (.eq 13 (VL 5 confT (mrgC 0 o (actOfL (doneD (diffU o b))) (actOfL (doneD (diffU o a))))) (VL 5 confT d) (.of_eq (by rw [hd]))), .r [(4, Xv 1 (!false) X0), (5, X (Xk' false)), (8, Xv 1 (!(false || false)) (Xl elemT f)), (10, Xv 1 (!(false || false)) (Xl elemT g)), (11, Xv 2 (!(false || false)) X0), (12, X (Xk' (false || false)))]] ((false || false) || ((f.length : Int) != (g.length : Int))) (fun h11 => ?_) (fun h11 => ?_)
   ·
    (try simp only [Bool.or_eq_true, Bool.or_eq_false_iff, bne_iff_ne, bne_eq_false_iff_eq, ne_eq] at h11)
    exfalso
    first | omega | (simp at h11; omega)
   ·
    (try simp only [Bool.or_eq_true, Bool.or_eq_false_iff, bne_iff_ne, bne_eq_false_iff_eq, ne_eq] at h11)
    refine .loop (α := Nat × (List Bool)) [.r [(1, X (Xl elemT f)), (2, X (Xn ((f.length : Int) + 1))), (3, X (Xmk 1 boolT 488 ((f.length : Int) + 1) ((f.length : Int) + 1) false))], .r [(1, X (Xl confT c))]] 528 (fun (i, m) => ([(9, VL 3 elemT f), (10, VL 5 confT c), (12, VL 3 elemT g), (13, VL 5 confT d), (15, .row 488 (f.length + 1)), (80, VL 5 confT c), (81, VI (c.length : Int)), (82, VI (i : Int))], [(488, OR 1 boolT m)])) (fun (i, m) => i ≤ c.length ∧ m.length = f.length + 1 ∧ Mk m (c.take i)) (fun (i, m) => c.length - i) (0, (List.replicate (f.length + 1) false)) ?_ ?_
    ·
     exact ⟨by omega, by simp, fun x hx => by simp at hx⟩
    rintro ⟨i, m⟩ I15 ih15
    try dsimp only at I15
    refine .br [.r []] (decide ((i : Int) < (c.length : Int))) (fun h15 => ?_) (fun h15 => ?_)
    ·
     (try simp only [decide_eq_true_eq, decide_eq_false_iff_not, Int.not_lt, Int.not_le] at h15)
     have hr := hE.rng _ (getD_mem' (l := c) (k := i) (by omega))
     refine .loop (α := Int × (List Bool)) [.r [(0, X (Xi confT c (i : Int)))], .r []] 592 (fun (j, m2) => ([(9, VL 3 elemT f), (10, VL 5 confT c), (12, VL 3 elemT g), (13, VL 5 confT d), (15, .row 488 (f.length + 1)), (17, .ptr 552 0), (18, VI j), (80, VL 5 confT c), (81, VI (c.length : Int)), (82, VI (i : Int))], [(488, OR 1 boolT m2), (552, .box [VI (((c.getD i default)).kind), VI (((c.getD i default)).node), VI (((c.getD i default)).fr), VI (((c.getD i default)).to), VS (((c.getD i default)).name)])])) (fun (j, m2) => (c.getD i default).fr ≤ j ∧ m2.length = f.length + 1 ∧ Mk m2 (c.take i) ∧ ∀ k : Nat, (c.getD i default).fr ≤ (k : Int) → (k : Int) < j → m2.getD k default = true) (fun (j, m2) => ((c.getD i default).to - j).toNat) (((c.getD i default)).fr, m) ?_ ?_
     ·
      exact ⟨by omega, I15.2.1, I15.2.2, fun k h1 h2 => by omega⟩
     rintro ⟨j, m2⟩ I18 ih18
     try dsimp only at I18
     refine .br [.r []] (decide (j < (((c.getD i default)).to))) (fun h18 => ?_) (fun h18 => ?_)
     ·
      (try simp only [decide_eq_true_eq, decide_eq_false_iff_not, Int.not_lt, Int.not_le] at h18)
      refine .br [.r [(5, Xv 1 (!(decide (j < 0))) (Xl elemT f)), (6, Xv 2 (!(decide (j < 0))) X0), (7, X (Xk' (decide (j < 0))))]] (decide (j < 0) || decide (j ≥ (f.length : Int))) (fun h20 => ?_) (fun h20 => ?_)
      ·
       (try simp only [decide_eq_true_eq, decide_eq_false_iff_not, Int.not_lt, Int.not_le, ge_iff_le, Bool.or_eq_true, Bool.or_eq_false_iff] at h20)
       exfalso
       omega
      ·
       (try simp only [decide_eq_true_eq, decide_eq_false_iff_not, Int.not_lt, Int.not_le, ge_iff_le, Bool.or_eq_true, Bool.or_eq_false_iff] at h20)
       refine .back [.r [(2, X (Xpn (f.length + 1) boolT m2 j)), (3, X (Xsn (f.length + 1) 1 boolT 488 m2 (Int.toNat j) true))], .r [(1, X (Xn (j + 1)))]] [(488, 488), (552, 552)] (ih18 ((j + 1), (m2.set (Int.toNat j) true)) ?_ ?_)
       ·
        refine ⟨by omega, by rw [List.length_set]; omega, I18.2.2.1.set _, fun k h1 h2 => ?_⟩
        by_cases e : (k : Int) = j
        · rw [show Int.toNat j = k by omega]; exact getD_set_eq (by omega)
        · exact set_keeps (I18.2.2.2 k h1 (by omega))
       ·
        ((try dsimp only); omega)
     ·
      (try simp only [decide_eq_true_eq, decide_eq_false_iff_not, Int.not_lt, Int.not_le] at h18)
      refine .back [.r [(0, X (Xn ((i : Int) + 1)))]] [(488, 488)] (ih15 ((i + 1), m2) ?_ ?_)
      ·
       exact ⟨by omega, I18.2.1, I18.2.2.1.snoc (by omega) (fun k h1 h2 => I18.2.2.2 k h1 (by omega))⟩
      ·
       ((try dsimp only); omega)
    ·
     (try simp only [decide_eq_true_eq, decide_eq_false_iff_not, Int.not_lt, Int.not_le] at h15)
     refine .loop (α := Nat) [.r [(1, X (Xl elemT f))]] 560 (fun n => ([(9, VL 3 elemT f), (10, VL 5 confT c), (12, VL 3 elemT g), (13, VL 5 confT d), (15, .row 488 (f.length + 1)), (107, VI (f.length : Int)), (108, VI (n : Int))], [(488, OR 1 boolT m)])) (fun n => n ≤ f.length) (fun n => f.length - n) (0 : Nat) ?_ ?_
     ·
      omega
     rintro n I25 ih25
     try dsimp only at I25
     refine .br [.r []] (decide ((n : Int) < (f.length : Int))) (fun h25 => ?_) (fun h25 => ?_)
     ·
      (try simp only [decide_eq_true_eq, decide_eq_false_iff_not, Int.not_lt, Int.not_le] at h25)
      refine .br [.r [], .r [(2, X (Xpn (f.length + 1) boolT m (n : Int))), (3, X (Xen (f.length + 1) boolT m n)), (8, Xv 2 (!(m.getD n default)) (Xi elemT f (n : Int)) (fun hg => by (try simp only [Bool.not_eq_true', Bool.not_eq_false'] at hg); exact ⟨(by omega), (by omega)⟩)), (9, Xv 1 (!(m.getD n default)) X0), (12, Xv 2 (!(m.getD n default)) (Xi elemT g (n : Int)) (fun hg => by (try simp only [Bool.not_eq_true', Bool.not_eq_false'] at hg); exact ⟨(by omega), (by omega)⟩)), (13, Xv 1 (!(m.getD n default)) X0), (14, Xv 2 (!(m.getD n default)) (Xc0 (fc_sameElem ((f.getD n default)) ((g.getD n default))) X0)), (15, Xv 1 (!(m.getD n default)) X0), (16, X (Xk (!(m.getD n default))))]] (!(m.getD n default) && !(sameE ((f.getD n default)) ((g.getD n default)))) (fun h27 => ?_) (fun h27 => ?_)
      ·
       (try simp only [Bool.not_eq_true', Bool.not_eq_false', Bool.and_eq_true, Bool.and_eq_false_iff] at h27)
       exfalso
       obtain ⟨k1, k2⟩ := h27
       rcases hE.same n (by omega) with r | r
       · have := I15.2.2.all (by omega) r; rw [this] at k1; cases k1
       · rw [r] at k2; cases k2
      ·
       (try simp only [Bool.not_eq_true', Bool.not_eq_false', Bool.and_eq_true, Bool.and_eq_false_iff] at h27)
       refine .back [.r [(0, X (Xn ((n : Int) + 1)))]] [(488, 488)] (ih25 ((n + 1) : Nat) ?_ ?_)
       ·
        show _ ≤ _; omega
       ·
        ((try dsimp only); omega)
     ·
      (try simp only [decide_eq_true_eq, decide_eq_false_iff_not, Int.not_lt, Int.not_le] at h25)
      refine .loop (α := Int × Nat) [.r [], .r [(1, X (Xl confT c))]] 600 (fun (t, u) => ([(13, VL 5 confT d), (20, VI t), (129, VL 5 confT c), (130, VI (c.length : Int)), (131, VI (u : Int))], [])) (fun (t, u) => u ≤ c.length ∧ t + kn (c.drop u) = kn c) (fun (t, u) => c.length - u) (0, 0) ?_ ?_
      ·
       exact ⟨by omega, by simp⟩
      rintro ⟨t, u⟩ I32 ih32
      try dsimp only at I32
      have kb := kn_bd (c.drop u)
      have kc := kn_bd c
      rw [List.length_drop] at kb
      refine .br [.r []] (decide ((u : Int) < (c.length : Int))) (fun h32 => ?_) (fun h32 => ?_)
      ·
       (try simp only [decide_eq_true_eq, decide_eq_false_iff_not, Int.not_lt, Int.not_le] at h32)
       have hs := kn_at (c := c) (i := u) (by omega)
       refine .br [.r [(0, X (Xi confT c (u : Int)))], .r []] ((((c.getD u default)).kind) == 0) (fun h34 => ?_) (fun h34 => ?_)
       ·
        (try simp only [beq_iff_eq, beq_eq_false_iff_ne, ne_eq] at h34)
        refine .back [.r [(1, X (Xn (t + 1)))], .r [(0, X (Xn ((u : Int) + 1)))]] [] (ih32 ((t + 1), (u + 1)) ?_ ?_)
        ·
         rw [if_pos h34] at hs
         exact ⟨by omega, by omega⟩
        ·
         ((try dsimp only); omega)
       ·
        (try simp only [beq_iff_eq, beq_eq_false_iff_ne, ne_eq] at h34)
        refine .back [.r [(0, X (Xn ((u : Int) + 1)))]] [] (ih32 (t, (u + 1)) ?_ ?_)
        ·
         rw [if_neg h34] at hs
         exact ⟨by omega, by omega⟩
        ·
         ((try dsimp only); omega)
      ·
       (try simp only [decide_eq_true_eq, decide_eq_false_iff_not, Int.not_lt, Int.not_le] at h32)
       refine .loop (α := Int × Nat) [.r [(1, X (Xl confT d))]] 632 (fun (y, w) => ([(20, VI y), (141, VL 5 confT d), (142, VI (d.length : Int)), (143, VI (w : Int))], [])) (fun (y, w) => w ≤ d.length ∧ y = kn (d.drop w)) (fun (y, w) => d.length - w) (t, 0) ?_ ?_
       ·
        exact ⟨by omega, by rw [List.drop_zero, ← hE.adds, ← I32.2, List.drop_eq_nil_of_le (by omega)]; simp [kn]⟩
       rintro ⟨y, w⟩ I38 ih38
       try dsimp only at I38
       have kd := kn_bd (d.drop w)
       rw [List.length_drop] at kd
       refine .br [.r []] (decide ((w : Int) < (d.length : Int))) (fun h38 => ?_) (fun h38 => ?_)
       ·
        (try simp only [decide_eq_true_eq, decide_eq_false_iff_not, Int.not_lt, Int.not_le] at h38)
        have hs := kn_at (c := d) (i := w) (by omega)
        refine .br [.r [(0, X (Xi confT d (w : Int)))], .r []] ((((d.getD w default)).kind) == 0) (fun h40 => ?_) (fun h40 => ?_)
        ·
         (try simp only [beq_iff_eq, beq_eq_false_iff_ne, ne_eq] at h40)
         refine .back [.r [(1, X (Xn (y - 1)))], .r [(0, X (Xn ((w : Int) + 1)))]] [] (ih38 ((y - 1), (w + 1)) ?_ ?_)
         ·
          rw [if_pos h40] at hs
          exact ⟨by omega, by omega⟩
         ·
          ((try dsimp only); omega)
        ·
         (try simp only [beq_iff_eq, beq_eq_false_iff_ne, ne_eq] at h40)
         refine .back [.r [(0, X (Xn ((w : Int) + 1)))]] [] (ih38 (y, (w + 1)) ?_ ?_)
         ·
          rw [if_neg h40] at hs
          exact ⟨by omega, by omega⟩
         ·
          ((try dsimp only); omega)
       ·
        (try simp only [decide_eq_true_eq, decide_eq_false_iff_not, Int.not_lt, Int.not_le] at h38)
        have hy : y = 0 := by rw [I38.2, List.drop_eq_nil_of_le (by omega)]; rfl
        have e2 : ((y == 0) : Bool) = true := by
         rw [hy]; rfl
        exact .finE [.r []] [] (fun z0 => (VB z0, [])) ((y == 0) : Bool) (true : Bool) e2.symm
end Go.Ch
end
section
set_option linter.unusedVariables false
set_option linter.unusedSimpArgs false
namespace Go.Proofs.Ytbdbibmbfmlobaa.frame
open Go Go.Proofs
def chs (l : List Nat) : List Char := l.map Char.ofNat
def w1 : List Char := chs [104, 97, 114, 110, 101, 115, 115]
def w2 : List Char := chs [102, 99, 57, 53, 99, 99, 54, 48, 52, 99, 55, 51, 55, 49, 100, 51, 97, 56, 102, 99, 55, 97, 51, 57, 52, 52, 50, 100, 100, 57, 102, 97, 97, 99, 52, 99, 99, 102, 50, 53, 100, 98, 52, 98, 52, 52, 50, 100, 56, 50, 102, 102, 97, 49, 97, 50, 48, 51, 57, 48, 102, 97, 101, 102]
def w3 : List Char := chs [99, 117, 116]
def sp : Char := Char.ofNat 32
theorem ws_sp (r : List Char) : wordsSigns (sp :: r) = [] :: wordsSigns r := rfl
theorem ws_c (c : Char) (r : List Char) (h : c ≠ sp) : wordsSigns (c :: r) = match wordsSigns r with
    | w :: ws => (c :: w) :: ws
    | [] => [[c]] := by
  rw [wordsSigns.eq_def]
  split
  · rename_i e; cases e
  · rename_i e; simp only [List.cons.injEq] at e; exact absurd e.1 h
  · rename_i e; simp only [List.cons.injEq] at e; obtain ⟨rfl, rfl⟩ := e; rfl
theorem ws_app : ∀ (a : List Char), (a.all fun c => c != sp) = true → ∀ r, wordsSigns (a ++ sp :: r) = a :: wordsSigns r
  | [], _, r => ws_sp r
  | c :: a, h, r => by
    simp only [List.all_cons, Bool.and_eq_true, bne_iff_ne] at h
    rw [List.cons_append, ws_c _ _ h.1, ws_app a h.2 r]
theorem tl (l : List Char) : (String.ofList l).toList = l := String.toList_ofList
theorem k1 : ("harness" : String).toList = w1 := tl w1
theorem k2 : ("cut" : String).toList = w3 := tl w3
theorem k3 : ("gc" : String).toList = chs [103, 99] := tl (chs [103, 99])
theorem k4 : ("spec" : String).toList = chs [115, 112, 101, 99] := tl (chs [115, 112, 101, 99])
theorem k5 : ("carried" : String).toList = chs [99, 97, 114, 114, 105, 101, 100] := tl (chs [99, 97, 114, 114, 105, 101, 100])
theorem lifts (r : List (List Char)) : stripLifts liftWords (w3 :: r) = ([], w3 :: r) := by
  unfold liftWords
  simp only [stripLifts]
  have key : ∀ l : List Nat, (w3 == chs l) = false → ∀ (s : String), s = String.ofList (chs l) → (w3 == s.toList) = false := fun l h s e => by rw [e, tl]; exact h
  rw [if_neg (by rw [key [102, 105, 110, 97, 108, 115] (by kernel_rfl) "finals" rfl]; decide)]
  rw [if_neg (by rw [key [114, 101, 102, 108, 101, 99, 116, 114, 111, 119, 115] (by kernel_rfl) "reflectrows" rfl]; decide)]
  rw [if_neg (by rw [key [108, 101, 97, 110, 114, 111, 119, 115] (by kernel_rfl) "leanrows" rfl]; decide)]
  rw [if_neg (by rw [key [111, 110, 101, 98, 117, 105, 108, 100] (by kernel_rfl) "onebuild" rfl]; decide)]
  rw [if_neg (by rw [key [112, 117, 98, 108, 105, 99, 115, 117, 109, 115] (by kernel_rfl) "publicsums" rfl]; decide)]
  rw [if_neg (by rw [key [101, 113, 103, 117, 97, 114, 100] (by kernel_rfl) "eqguard" rfl]; decide)]
  rw [if_neg (by rw [key [111, 119, 110, 117, 110, 115, 97, 102, 101] (by kernel_rfl) "ownunsafe" rfl]; decide)]
  rw [if_neg (by rw [key [108, 105, 98, 98, 101, 115, 105, 100, 101] (by kernel_rfl) "libbeside" rfl]; decide)]
  rw [if_neg (by rw [key [111, 119, 110, 98, 101, 115, 105, 100, 101] (by kernel_rfl) "ownbeside" rfl]; decide)]
  rw [if_neg (by rw [key [114, 101, 102, 108, 98, 101, 115, 105, 100, 101] (by kernel_rfl) "reflbeside" rfl]; decide)]
  rw [if_neg (by rw [key [97, 108, 105, 97, 115, 101, 115] (by kernel_rfl) "aliases" rfl]; decide)]
  rw [if_neg (by rw [key [97, 102, 116, 101, 114, 105, 110, 105, 116] (by kernel_rfl) "afterinit" rfl]; decide)]
  rw [if_neg (by rw [key [99, 114, 99, 112, 108, 97, 105, 110] (by kernel_rfl) "crcplain" rfl]; decide)]
  rw [if_neg (by rw [key [114, 111, 97, 100, 117, 110, 115, 97, 102, 101] (by kernel_rfl) "roadunsafe" rfl]; decide)]
  rw [if_neg (by rw [key [102, 109, 116, 104, 97, 110, 100, 111, 110] (by kernel_rfl) "fmthandon" rfl]; decide)]
theorem words {P : Program} {rest : List Char} (h : P.initOrder.toList = w1 ++ sp :: (w2 ++ sp :: (w3 ++ sp :: rest))) : behindMainWord (wordsSigns P.initOrder.toList) = w3 :: wordsSigns rest := by
  rw [h, ws_app w1 (by kernel_rfl), ws_app w2 (by kernel_rfl), ws_app w3 (by kernel_rfl)]
  unfold behindMainWord
  rw [k1]
  exact if_pos (by kernel_rfl)
theorem may {P : Program} {rest : List Char} (h : P.initOrder.toList = w1 ++ sp :: (w2 ++ sp :: (w3 ++ sp :: rest))) (hl : P.laysLater = false) (hb : P.bearsReflect = false) (hd : P.doorFits [] = true) : P.mayEnter = true := by
  unfold Program.mayEnter
  rw [words h]
  simp only [lifts, k2, k3, k4, k5, hl, hb, hd]
  have h1 : (w3 == chs [103, 99]) = false := by kernel_rfl
  have h2 : (w3 == chs [115, 112, 101, 99]) = false := by kernel_rfl
  have h3 : (w3 == chs [99, 97, 114, 114, 105, 101, 100]) = false := by kernel_rfl
  rw [h1, h2, h3]
  simp
theorem fin {P : Program} {rest : List Char} (h : P.initOrder.toList = w1 ++ sp :: (w2 ++ sp :: (w3 ++ sp :: rest))) : P.liftsFinal = false := by
  unfold Program.liftsFinal Program.headLifts
  rw [words h]
  simp only [lifts, k2, k5]
  have h3 : (w3 == chs [99, 97, 114, 114, 105, 101, 100]) = false := by kernel_rfl
  simp [h3]
theorem mk {P : Program} {rest : List Char} (h : P.initOrder.toList = w1 ++ sp :: (w2 ++ sp :: (w3 ++ sp :: rest))) : P.make = some .cut := by
  unfold Program.make
  rw [words h]
  simp only [k2, k3, k4, k5]
  have h1 : (w3 == chs [103, 99]) = false := by kernel_rfl
  have h2 : (w3 == chs [115, 112, 101, 99]) = false := by kernel_rfl
  rw [h1, h2]
  simp
theorem head : Try.pinned.checked.prog.initOrder = String.ofList (w1 ++ sp :: (w2 ++ sp :: (w3 ++ sp :: chs [97, 116, 32, 99, 104, 97, 110, 99, 101, 114, 121, 47, 99, 104, 97, 110, 99, 101, 114, 121, 107, 101, 101, 112, 49, 46, 83, 112, 97, 110, 83, 105, 122, 101, 115, 65, 100, 100, 32, 99, 104, 97, 110, 99, 101, 114, 121, 47, 99, 104, 97, 110, 99, 101, 114, 121, 107, 101, 101, 112, 49, 46, 65, 116, 116, 114, 85, 110, 100, 111, 82, 101, 115, 116, 111, 114, 101, 115, 32, 99, 104, 97, 110, 99, 101, 114, 121, 47, 99, 104, 97, 110, 99, 101, 114, 121, 107, 101, 101, 112, 49, 46, 65, 116, 116, 114, 66, 101, 116, 119, 101, 101, 110, 76, 101, 97, 100, 115, 32, 99, 104, 97, 110, 99, 101, 114, 121, 47, 99, 104, 97, 110, 99, 101, 114, 121, 107, 101, 101, 112, 49, 46, 65, 116, 116, 114, 80, 97, 105, 114, 77, 101, 101, 116, 115, 32, 99, 104, 97, 110, 99, 101, 114, 121, 47, 99, 104, 97, 110, 99, 101, 114, 121, 107, 101, 101, 112, 49, 46, 65, 120, 105, 115, 74, 111, 105, 110, 65, 115, 115, 111, 99, 105, 97, 116, 101, 115, 32, 99, 104, 97, 110, 99, 101, 114, 121, 47, 99, 104, 97, 110, 99, 101, 114, 121, 107, 101, 101, 112, 49, 46, 65, 120, 105, 115, 80, 97, 105, 114, 77, 101, 101, 116, 115, 32, 99, 104, 97, 110, 99, 101, 114, 121, 47, 99, 104, 97, 110, 99, 101, 114, 121, 107, 101, 101, 112, 49, 46, 65, 120, 105, 115, 80, 108, 97, 99, 101, 115, 75, 101, 101, 112, 79, 114, 100, 101, 114, 32, 99, 104, 97, 110, 99, 101, 114, 121, 47, 99, 104, 97, 110, 99, 101, 114, 121, 107, 101, 101, 112, 49, 46, 68, 101, 108, 116, 97, 84, 105, 100, 121, 65, 99, 116, 115, 32, 99, 104, 97, 110, 99, 101, 114, 121, 47, 99, 104, 97, 110, 99, 101, 114, 121, 107, 101, 101, 112, 49, 46, 68, 101, 108, 116, 97, 85, 110, 100, 111, 82, 101, 115, 116, 111, 114, 101, 115, 32, 99, 104, 97, 110, 99, 101, 114, 121, 47, 99, 104, 97, 110, 99, 101, 114, 121, 107, 101, 101, 112, 49, 46, 68, 101, 108, 116, 97, 74, 111, 105, 110, 65, 99, 116, 115, 32, 99, 104, 97, 110, 99, 101, 114, 121, 47, 99, 104, 97, 110, 99, 101, 114, 121, 107, 101, 101, 112, 49, 46, 68, 101, 108, 116, 97, 80, 97, 105, 114, 77, 101, 101, 116, 115, 32, 99, 104, 97, 110, 99, 101, 114, 121, 47, 99, 104, 97, 110, 99, 101, 114, 121, 107, 101, 101, 112, 49, 46, 68, 105, 102, 102, 66, 111, 116, 104, 87, 97, 121, 115, 32, 99, 104, 97, 110, 99, 101, 114, 121, 47, 99, 104, 97, 110, 99, 101, 114, 121, 107, 101, 101, 112, 49, 46, 84, 114, 97, 99, 107, 65, 99, 99, 101, 112, 116, 83, 104, 111, 119, 115, 32, 99, 104, 97, 110, 99, 101, 114, 121, 47, 99, 104, 97, 110, 99, 101, 114, 121, 107, 101, 101, 112, 49, 46, 83, 112, 97, 110, 84, 104, 114, 111, 117, 103, 104, 67, 111, 110, 116, 97, 105, 110, 115, 32, 99, 104, 97, 110, 99, 101, 114, 121, 47, 99, 104, 97, 110, 99, 101, 114, 121, 107, 101, 101, 112, 49, 46, 77, 101, 114, 103, 101, 79, 110, 101, 83, 105, 100, 101, 100, 32, 99, 104, 97, 110, 99, 101, 114, 121, 47, 99, 104, 97, 110, 99, 101, 114, 121, 107, 101, 101, 112, 49, 46, 77, 101, 114, 103, 101, 69, 120, 99, 104, 97, 110, 103, 101, 100, 32, 99, 104, 97, 110, 99, 101, 114, 121, 47, 99, 104, 97, 110, 99, 101, 114, 121, 107, 101, 101, 112, 49, 46, 68, 101, 108, 116, 97, 65, 120, 105, 115, 65, 103, 114, 101, 101, 115]))) := by kernel_rfl
set_option maxRecDepth 100000 in
theorem headL : Try.pinned.checked.prog.initOrder.toList = w1 ++ sp :: (w2 ++ sp :: (w3 ++ sp :: chs [97, 116, 32, 99, 104, 97, 110, 99, 101, 114, 121, 47, 99, 104, 97, 110, 99, 101, 114, 121, 107, 101, 101, 112, 49, 46, 83, 112, 97, 110, 83, 105, 122, 101, 115, 65, 100, 100, 32, 99, 104, 97, 110, 99, 101, 114, 121, 47, 99, 104, 97, 110, 99, 101, 114, 121, 107, 101, 101, 112, 49, 46, 65, 116, 116, 114, 85, 110, 100, 111, 82, 101, 115, 116, 111, 114, 101, 115, 32, 99, 104, 97, 110, 99, 101, 114, 121, 47, 99, 104, 97, 110, 99, 101, 114, 121, 107, 101, 101, 112, 49, 46, 65, 116, 116, 114, 66, 101, 116, 119, 101, 101, 110, 76, 101, 97, 100, 115, 32, 99, 104, 97, 110, 99, 101, 114, 121, 47, 99, 104, 97, 110, 99, 101, 114, 121, 107, 101, 101, 112, 49, 46, 65, 116, 116, 114, 80, 97, 105, 114, 77, 101, 101, 116, 115, 32, 99, 104, 97, 110, 99, 101, 114, 121, 47, 99, 104, 97, 110, 99, 101, 114, 121, 107, 101, 101, 112, 49, 46, 65, 120, 105, 115, 74, 111, 105, 110, 65, 115, 115, 111, 99, 105, 97, 116, 101, 115, 32, 99, 104, 97, 110, 99, 101, 114, 121, 47, 99, 104, 97, 110, 99, 101, 114, 121, 107, 101, 101, 112, 49, 46, 65, 120, 105, 115, 80, 97, 105, 114, 77, 101, 101, 116, 115, 32, 99, 104, 97, 110, 99, 101, 114, 121, 47, 99, 104, 97, 110, 99, 101, 114, 121, 107, 101, 101, 112, 49, 46, 65, 120, 105, 115, 80, 108, 97, 99, 101, 115, 75, 101, 101, 112, 79, 114, 100, 101, 114, 32, 99, 104, 97, 110, 99, 101, 114, 121, 47, 99, 104, 97, 110, 99, 101, 114, 121, 107, 101, 101, 112, 49, 46, 68, 101, 108, 116, 97, 84, 105, 100, 121, 65, 99, 116, 115, 32, 99, 104, 97, 110, 99, 101, 114, 121, 47, 99, 104, 97, 110, 99, 101, 114, 121, 107, 101, 101, 112, 49, 46, 68, 101, 108, 116, 97, 85, 110, 100, 111, 82, 101, 115, 116, 111, 114, 101, 115, 32, 99, 104, 97, 110, 99, 101, 114, 121, 47, 99, 104, 97, 110, 99, 101, 114, 121, 107, 101, 101, 112, 49, 46, 68, 101, 108, 116, 97, 74, 111, 105, 110, 65, 99, 116, 115, 32, 99, 104, 97, 110, 99, 101, 114, 121, 47, 99, 104, 97, 110, 99, 101, 114, 121, 107, 101, 101, 112, 49, 46, 68, 101, 108, 116, 97, 80, 97, 105, 114, 77, 101, 101, 116, 115, 32, 99, 104, 97, 110, 99, 101, 114, 121, 47, 99, 104, 97, 110, 99, 101, 114, 121, 107, 101, 101, 112, 49, 46, 68, 105, 102, 102, 66, 111, 116, 104, 87, 97, 121, 115, 32, 99, 104, 97, 110, 99, 101, 114, 121, 47, 99, 104, 97, 110, 99, 101, 114, 121, 107, 101, 101, 112, 49, 46, 84, 114, 97, 99, 107, 65, 99, 99, 101, 112, 116, 83, 104, 111, 119, 115, 32, 99, 104, 97, 110, 99, 101, 114, 121, 47, 99, 104, 97, 110, 99, 101, 114, 121, 107, 101, 101, 112, 49, 46, 83, 112, 97, 110, 84, 104, 114, 111, 117, 103, 104, 67, 111, 110, 116, 97, 105, 110, 115, 32, 99, 104, 97, 110, 99, 101, 114, 121, 47, 99, 104, 97, 110, 99, 101, 114, 121, 107, 101, 101, 112, 49, 46, 77, 101, 114, 103, 101, 79, 110, 101, 83, 105, 100, 101, 100, 32, 99, 104, 97, 110, 99, 101, 114, 121, 47, 99, 104, 97, 110, 99, 101, 114, 121, 107, 101, 101, 112, 49, 46, 77, 101, 114, 103, 101, 69, 120, 99, 104, 97, 110, 103, 101, 100, 32, 99, 104, 97, 110, 99, 101, 114, 121, 47, 99, 104, 97, 110, 99, 101, 114, 121, 107, 101, 101, 112, 49, 46, 68, 101, 108, 116, 97, 65, 120, 105, 115, 65, 103, 114, 101, 101, 115])) := by rw [head, tl]
theorem later : Try.pinned.checked.prog.laysLater = false := by kernel_rfl
theorem refl : Try.pinned.checked.prog.bearsReflect = false := by kernel_rfl
theorem door : Try.pinned.checked.prog.doorFits [] = true := by kernel_rfl
theorem mayEnter : Try.pinned.checked.prog.mayEnter = true := may headL later refl door
theorem made : Try.pinned.checked.prog.make = some .cut := mk headL
theorem laid : laidOutB Try.pinned.checked.prog = true := by kernel_rfl
theorem rowed : mapsRowed Try.pinned.checked.prog = true := by kernel_rfl
theorem noStops : Try.pinned.checked.prog.stops = [] := by kernel_rfl
theorem noKnobs : Try.pinned.checked.prog.stopKnobs = [] := by kernel_rfl
theorem heard : Try.pinned.checked.prog.stopsHeard = true := by kernel_rfl
theorem keys : Try.pinned.checked.prog.plainKeys = true := by kernel_rfl
theorem liftsNo : Try.pinned.checked.prog.liftsFinal = false := fin headL
end Go.Proofs.Ytbdbibmbfmlobaa.frame
end
section
set_option linter.unusedVariables false
namespace Go.Ab
open Go Go.Proofs.Ytbdbibmbfmlobaa
variable {P : Program} {W : World}

def RdM (P : Program) (t : TypeId) (k : Nat) {α : Type} (f : α → Tree) (μ : α → Nat) : Prop :=
  (∀ a, Elt k (f a)) ∧ P.cellsOf t = k ∧ ∀ (H : Type) (enc : TypeId × Value → H) (W : World) (fuel : Nat) (cs : List Value) (x : DataW H × List MemPlace),
    DataW.trod enc P W 0 (fun _ => true) true fuel t cs = some x → ∃ a : α, CellsR W (f a).cells cs ∧ μ a ≤ Rows.uptoBulk x.1

theorem bulk_pos {H : Type} (d : DataW H) : 1 ≤ Rows.uptoBulk d := by
  cases d with
  | lit l => cases l <;> simp [Rows.uptoBulk]
  | _ => simp [Rows.uptoBulk]

theorem RdM.int {t : TypeId} {k : IntKind} (ht : P.underlying t = some (.int k)) (hc : P.cellsOf t = 1) : RdM P t 1 (fun z : Int => .sc (.int k z)) (fun _ => 1) := by
  refine ⟨fun _ => elt1, hc, fun H enc W fuel cs x h => ?_⟩
  obtain ⟨n, rfl, _, _⟩ := DataW.trod_int ht h
  exact ⟨n, cells1 rfl (.sc _ rfl), bulk_pos _⟩
/-- An integer with its bounds. -/
theorem RdM.i64 {t : TypeId} (ht : P.underlying t = some (.int .i64)) (hc : P.cellsOf t = 1) : RdM P t 1 (fun z : { z : Int // -9223372036854775808 ≤ z ∧ z ≤ 9223372036854775807 } => .sc (.int .i64 z.1)) (fun _ => 1) := by
  refine ⟨fun _ => elt1, hc, fun H enc W fuel cs x h => ?_⟩
  obtain ⟨n, rfl, _, hw⟩ := DataW.trod_int ht h
  exact ⟨⟨n, by simpa [Lit.wf, IntKind.min, IntKind.max, IntKind.signed, IntKind.bits] using hw⟩, cells1 rfl (.sc _ rfl), bulk_pos _⟩
theorem RdM.bool {t : TypeId} (ht : P.underlying t = some .bool) (hc : P.cellsOf t = 1) : RdM P t 1 (fun b : Bool => .sc (.bool b)) (fun _ => 1) := by
  refine ⟨fun _ => elt1, hc, fun H enc W fuel cs x h => ?_⟩
  obtain ⟨n, rfl, _⟩ := DataW.trod_bool ht h
  exact ⟨n, cells1 rfl (.sc _ rfl), bulk_pos _⟩
theorem RdM.str {t : TypeId} (ht : P.underlying t = some .string) (hc : P.cellsOf t = 1) : RdM P t 1 (fun s : ByteArray => .sc (.string s)) (fun s => s.size + 1) := by
  refine ⟨fun _ => elt1, hc, fun H enc W fuel cs x h => ?_⟩
  obtain ⟨n, rfl, rfl, _⟩ := DataW.trod_string ht h
  exact ⟨n, cells1 rfl (.sc _ rfl), by simp [Rows.uptoBulk]⟩

theorem sum_le {α H : Type} {μ : α → Nat} : ∀ {l : List α} {es : List (DataW H)}, l.length = es.length → (∀ (i : Nat) (a : α) (d : DataW H), l[i]? = some a → es[i]? = some d → μ a ≤ Rows.uptoBulk d) → (l.map μ).sum ≤ Rows.uptoBulkAll es
  | [], es, _, _ => by simp
  | a :: l, [], h, _ => by simp at h
  | a :: l, d :: es, h, hi => by
    have h0 := hi 0 a d rfl rfl
    have ih := sum_le (l := l) (es := es) (by simpa using h) (fun i a' d' h1 h2 => hi (i + 1) a' d' (by simpa using h1) (by simpa using h2))
    simp only [List.map_cons, List.sum_cons, Rows.uptoBulkAll]
    omega

theorem RdM.slice {t e : TypeId} {k : Nat} {α : Type} {f : α → Tree} {μ : α → Nat} (ht : P.underlying t = some (.slice e)) (hk : 0 < k) (hc : P.cellsOf t = 1) (he : RdM P e k f μ) : RdM P t 1 (fun l : List α => .lst k (l.map f)) (fun l => (l.map μ).sum + 1) := by
  obtain ⟨h1, h2, h3⟩ := he
  refine ⟨fun l => ⟨rfl, fun T hT => by simp [Tree.cells] at hT; subst hT; rfl⟩, hc, fun H enc W fuel cs x h => ?_⟩
  have hx : ∀ l : List α, ∀ x ∈ l.map f, Elt k x := fun l x hx => by
    obtain ⟨a, _, rfl⟩ := List.mem_map.1 hx
    exact h1 a
  rcases DataW.trod_slice ht h with ⟨rfl, hx0⟩ | ⟨a, len, cap, elems, rest, n, _, rfl, hxe, hb, hl, hm, hlen, hel, _, _⟩
  · refine ⟨[], cells1 rfl (.lst k [] none 0 [] hk (fun x hx => by simp at hx) (Nat.le_refl _) (by simp [maxLen]) (fun h => absurd rfl h) (by simp) (fun j T u hT => by simp [flat] at hT)), ?_⟩
    exact bulk_pos _
  · have key : ∀ i, i < len → ∃ y : α, (∃ cs', cs'.length = k ∧ (∀ r, r < k → W.cell? (a.add (i * k + r)) = cs'[r]?) ∧ CellsR W (f y).cells cs') ∧ ∀ d, (elems.map (·.1))[i]? = some d → μ y ≤ Rows.uptoBulk d := by
      intro i hi
      have h4 := hel i hi
      have h5 : elems[i]? = some elems[i] := by rw [List.getElem?_eq_getElem (by omega)]
      rw [h5, h2] at h4
      obtain ⟨cs', h6, h7⟩ := Option.bind_eq_some_iff.1 h4
      obtain ⟨q1, q2, q3⟩ := World.cells?_some h6
      obtain ⟨y, hy, hμ⟩ := h3 H enc W n cs' _ h7
      refine ⟨y, ⟨cs', q2, fun r hr => ?_, hy⟩, fun d hd => ?_⟩
      · rw [← q3 r hr]
        rw [Addr.add_add]
      · rw [List.getElem?_map, h5] at hd
        simp only [Option.map_some, Option.some.injEq] at hd
        subst hd; exact hμ
    obtain ⟨l, hl1, hl2'⟩ := list_of len _ key
    have hl2 := fun i a h => (hl2' i a h).1
    have hspot : l ≠ [] → ∃ u, W.cell? a = some u := by
      intro hne
      have h0 : 0 < len := by rw [← hl1]; exact List.length_pos_iff.2 hne
      obtain ⟨cs', c1, c2, c3⟩ := hl2 0 l[0] (by rw [List.getElem?_eq_getElem (by omega)])
      have := c2 0 hk
      simp only [Nat.zero_mul, Nat.add_zero] at this
      rw [List.getElem?_eq_getElem (by omega)] at this
      have e : a.add 0 = a := by simp [Addr.add]
      rw [e] at this
      exact ⟨_, this⟩
    refine ⟨l, cells1 rfl ?_, ?_⟩
    rotate_left
    · rw [hxe]
      simp only [Rows.uptoBulk]
      have := sum_le (μ := μ) (l := l) (es := elems.map (·.1)) (by simp [hl1, hlen]) (fun i y d h1 h2 => (hl2' i y h1).2 d h2)
      omega
    have hget : ∀ j, j < len * k → ∃ u, W.cell? (a.add j) = some u ∧ ∀ T, (flat (l.map f))[j]? = some T → TRep W (fun b => b < W.heap.size) T u := by
      intro j hj
      have hi : j / k < len := Nat.div_lt_of_lt_mul (by rw [Nat.mul_comm]; exact hj)
      have hr : j % k < k := Nat.mod_lt _ hk
      have hji : j = j / k * k + j % k := by rw [Nat.mul_comm]; exact (Nat.div_add_mod j k).symm
      obtain ⟨cs', c1, c2, c3⟩ := hl2 (j / k) l[j / k] (by rw [List.getElem?_eq_getElem (by omega)])
      have c4 := c2 (j % k) hr
      rw [← hji, List.getElem?_eq_getElem (by omega)] at c4
      refine ⟨_, c4, fun T hT => ?_⟩
      rw [hji, flat_get (hx l) (i := j / k) (X := f l[j / k]) (by simp [List.getElem?_eq_getElem (show j / k < l.length by omega)]) hr] at hT
      exact c3.2 (j % k) T _ hT (by rw [List.getElem?_eq_getElem (by omega)])
    obtain ⟨us, hu1, hu2⟩ := list_of (len * k) _ hget
    have hlm : (l.map f).length = len := by simp [hl1]
    have := TRep.lst (w := W) (ok := fun b => b < W.heap.size) k (l.map f) (some a) cap us hk (hx l) (by omega) hm (fun hne => ?_) (by rw [hlm]; exact hu1) (fun j T u hT hu => (hu2 j u hu).2 T hT)
    · rw [hlm] at this; exact this
    · obtain ⟨u, hu⟩ := hspot (fun e => hne (by rw [e]; rfl))
      have hs := World.cell?_spot hu
      obtain ⟨b, o, sp⟩ := a
      simp only at hs
      subst hs
      refine ⟨b, o, rfl, ?_, fun j u hj => ?_⟩
      · simp only [World.cell?] at hu
        by_cases hb : b < W.heap.size
        · exact hb
        · rw [Array.getElem?_eq_none (by omega)] at hu; simp at hu
      · have := (hu2 j u hj).1
        rw [add_lit'] at this
        exact this

theorem RdM.map {t : TypeId} {k : Nat} {α β : Type} {f : α → Tree} {μ : α → Nat} {f' : β → Tree} {μ' : β → Nat} (h : RdM P t k f μ) (g : α → β) (hf : ∀ a, f' (g a) = f a) (hm : ∀ a, μ' (g a) ≤ μ a) (he : ∀ b, Elt k (f' b)) : RdM P t k f' μ' := by
  obtain ⟨h1, h2, h3⟩ := h
  refine ⟨he, h2, fun H enc W fuel cs x hx => ?_⟩
  obtain ⟨a, ha, hb⟩ := h3 H enc W fuel cs x hx
  exact ⟨g a, by rw [hf]; exact ha, Nat.le_trans (hm a) hb⟩

/-- The fields of a struct, from a cell on. -/
def RdFM (P : Program) (off : Nat) (fs : List Field) (k : Nat) {β : Type} (g : β → List Tree) (μ : β → Nat) : Prop :=
  (∀ b, (g b).length = k ∧ ∀ T ∈ g b, T.isCell = true) ∧ ∀ (H : Type) (enc : TypeId × Value → H) (W : World) (n : Nat) (cs : List Value) (ys : List (DataW H × List MemPlace)),
    ys.length = fs.length → (∀ (i : Nat) (f : Field), fs[i]? = some f → DataW.trod enc P W 0 (fun _ => true) true n f.type ((cs.drop f.offset).take (P.cellsOf f.type)) = ys[i]?) →
    ∃ b : β, (∀ (j : Nat) (T : Tree) (u : Value), (g b)[j]? = some T → cs[off + j]? = some u → TRep W (fun b => b < W.heap.size) T u) ∧ μ b ≤ Rows.uptoBulkAll (ys.map (·.1))
theorem RdFM.nil {off : Nat} : RdFM P off [] 0 (fun _ : Unit => []) (fun _ => 0) :=
  ⟨fun _ => ⟨rfl, fun T hT => by simp at hT⟩, fun H enc W n cs ys h1 h2 => ⟨(), fun j T u hT => by simp at hT, Nat.zero_le _⟩⟩
theorem RdFM.cons {off : Nat} {f : Field} {fs : List Field} {k1 k2 : Nat} {α β : Type} {f1 : α → Tree} {μ1 : α → Nat} {g2 : β → List Tree} {μ2 : β → Nat} (ho : f.offset = off) (h : RdM P f.type k1 f1 μ1) (hs : RdFM P (off + k1) fs k2 g2 μ2) : RdFM P off (f :: fs) (k1 + k2) (fun p : α × β => (f1 p.1).cells ++ g2 p.2) (fun p => μ1 p.1 + μ2 p.2) := by
  obtain ⟨h1, h2, h3⟩ := h
  obtain ⟨s1, s2⟩ := hs
  refine ⟨fun p => ⟨by rw [List.length_append, (h1 p.1).1, (s1 p.2).1], fun T hT => ?_⟩, fun H enc W n cs ys hl hy => ?_⟩
  · rcases List.mem_append.1 hT with hT | hT
    · exact (h1 p.1).2 T hT
    · exact (s1 p.2).2 T hT
  · cases ys with
    | nil => simp at hl
    | cons y ys =>
      have e0 := hy 0 f rfl
      simp only [List.getElem?_cons_zero, ho, h2] at e0
      obtain ⟨a, ⟨ha1, ha2⟩, ha3⟩ := h3 H enc W n _ _ e0
      obtain ⟨b, hb, hb3⟩ := s2 H enc W n cs ys (by simpa using hl) (fun i f' hf => by simpa using hy (i + 1) f' (by simpa using hf))
      refine ⟨(a, b), fun j T u hT hu => ?_, by simp only [List.map_cons, Rows.uptoBulkAll]; omega⟩
      by_cases hj : j < (f1 a).cells.length
      · rw [List.getElem?_append_left hj] at hT
        have hk : j < k1 := by rw [(h1 a).1] at hj; exact hj
        refine ha2 j T u hT ?_
        rw [List.getElem?_take, if_pos hk, List.getElem?_drop]
        exact hu
      · rw [List.getElem?_append_right (by show (f1 a).cells.length ≤ j; omega)] at hT
        rw [(h1 a).1] at hj hT
        refine hb (j - k1) T u hT ?_
        rw [← hu]; congr 1; omega
theorem RdM.struct {t : TypeId} {fs : Array Field} {k : Nat} {β : Type} {g : β → List Tree} {μ : β → Nat} (ht : P.underlying t = some (.struct fs)) (hc : P.cellsOf t = k) (h : RdFM P 0 fs.toList k g μ) : RdM P t k (fun b => .agg (g b)) (fun b => μ b + 1) := by
  obtain ⟨s1, s2⟩ := h
  refine ⟨fun b => s1 b, hc, fun H enc W fuel cs x hx => ?_⟩
  obtain ⟨xs, n, _, hxe, hl, hlen, hf⟩ := DataW.trod_struct ht hx
  obtain ⟨b, hb, hμ⟩ := s2 H enc W n cs xs (by simpa using hlen) (fun i f hi => hf i f (by simpa using hi))
  refine ⟨b, ⟨by rw [hl, hc]; exact (s1 b).1.symm, fun j T u hT hu => hb j T u hT (by simpa using hu)⟩, ?_⟩
  rw [hxe]; simp only [Rows.uptoBulk]; omega

/-- A one-cell argument. -/
theorem RdM.arg {t : TypeId} {α : Type} {f : α → Tree} {μ : α → Nat} (h : RdM P t 1 f μ) (h1 : ∀ a, (f a).isCell = true) {H : Type} {enc : TypeId × Value → H} {v : Value} {d : DataW H} {ps : List MemPlace} (hd : DataW.Trod enc P W 0 (fun _ => true) true t v d ps) (hv : v.cells.toList = [v]) :
    ∃ a, TRep W (fun b => b < W.heap.size) (f a) v ∧ μ a ≤ Rows.uptoBulk d := by
  obtain ⟨fuel, hf⟩ := hd
  obtain ⟨a, ⟨c1, c2⟩, c3⟩ := h.2.2 H enc W fuel _ _ hf
  refine ⟨a, c2 0 _ _ ?_ (by rw [hv]; rfl), c3⟩
  cases hfa : f a with
  | agg cs => have := h1 a; rw [hfa] at this; cases this
  | sc v => rfl
  | lst k xs => rfl
theorem bulk_bound {H : Type} {l : List (DataW H)} (hk : Rows.uptoSmall H l = true) : Rows.uptoBulkAll l ≤ 1048576 := of_decide_eq_true hk
theorem sum_mem {α : Type} {μ : α → Nat} {l : List α} {a : α} (h : a ∈ l) : μ a ≤ (l.map μ).sum := by
  induction l with
  | nil => cases h
  | cons b l ih =>
    simp only [List.map_cons, List.sum_cons]
    rcases List.mem_cons.1 h with rfl | h
    · omega
    · have := ih h; omega
theorem sum_len {α : Type} {μ : α → Nat} (hμ : ∀ a, 1 ≤ μ a) (l : List α) : l.length ≤ (l.map μ).sum := by
  induction l with
  | nil => simp
  | cons b l ih => have := hμ b; simp only [List.map_cons, List.sum_cons, List.length_cons]; omega
end Go.Ab
end
