/- Readers of deltas: what they are still to give, run by run. -/
import Derived.Test.YtbdbibmbfmlobaaM1
import Derived.Test.YtbdbibmbfmlobaaM2
import Derived.Test.YtbdbibmbfmlobaaM3
import Derived.Test.YtbdbibmbfmlobaaM4
import Derived.Test.YtbdbibmbfmlobaaM5
import Derived.Test.YtbdbibmbfmlobaaRows
import Derived.JoinedOf
import Derived.ProofKit
section
set_option linter.unusedVariables false
set_option linter.unusedSimpArgs false
namespace Go.Ch
open Go Go.Ab

def ruD (l : List DStep) (u : Int) : List DU := (exD l).drop u.toNat
structure GoodRD (l : List DStep) (u : Int) : Prop where
  ok : ∀ s ∈ l, DOk s
  pos : 0 ≤ u
  lt : 0 < l.length → u < szD (l.getD 0 default)
  nil : l.length = 0 → u = 0
theorem exS_sz {s : DStep} (h : DOk s) : ((exS s).length : Int) = szD s := by
  unfold exS szD
  rcases h with ⟨k, _⟩ | ⟨k, _, _, n1, _⟩
  · rw [if_pos k, if_pos k, List.length_map]
  · have k1 : ¬ s.kind = 1 := by omega
    rw [if_neg k1, if_neg k1]
    split <;> rw [List.length_replicate] <;> omega
theorem ruD0 (l : List DStep) : ruD l 0 = exD l := rfl
theorem ruD_nil {l : List DStep} {u : Int} (h : l.length = 0) : ruD l u = [] := by
  rw [List.length_eq_zero_iff.1 h]; unfold ruD; simp [exD]
theorem tkE_split {l : List DStep} {u n : Int} (ho : DOk (l.getD 0 default)) (hu : 0 ≤ u) (hn : 0 ≤ n) (hl : u + n ≤ szD (l.getD 0 default)) :
    (exS (l.getD 0 default)).drop u.toNat = exS (tkE l u n) ++ (exS (l.getD 0 default)).drop (u + n).toNat := by
  unfold tkE
  generalize l.getD 0 default = s at *
  have hz : (u + n).toNat = u.toNat + n.toNat := by omega
  unfold szD at hl
  by_cases k1 : s.kind = 1
  · rw [if_pos k1] at hl ⊢
    unfold exS
    simp only [if_pos k1]
    rw [← List.map_drop, ← List.map_drop, ← List.map_append]
    congr 1
    conv => lhs; rw [← List.take_append_drop (u + n).toNat s.elems]
    rw [List.drop_append_of_le_length (by rw [List.length_take]; omega)]
  · rw [if_neg k1] at hl ⊢
    unfold exS
    simp only [if_neg k1]
    split
    · rw [List.drop_replicate, List.drop_replicate, List.replicate_append_replicate]; congr 1; omega
    · rw [List.drop_replicate, List.drop_replicate, List.replicate_append_replicate]; congr 1; omega
theorem tkD_ok {l : List DStep} {u n : Int} (h : GoodRD l u) (h0 : 0 < l.length) (hn : 0 ≤ n) (hl : u + n ≤ szD (l.getD 0 default)) :
    GoodRD (tkL l u n) (tkN l u n) ∧ ruD l u = exS (tkE l u n) ++ ruD (tkL l u n) (tkN l u n) := by
  have ho : DOk (l.getD 0 default) := h.ok _ (getD_mem' h0)
  have hz := exS_sz ho
  have hp := h.pos
  have hs := tkE_split ho hp hn hl
  have hd := dropD (l := l) (i := 0) h0
  rw [List.drop_zero] at hd
  have he : exD l = exS (l.getD 0 default) ++ exD (l.drop 1) := by conv => lhs; rw [hd, exD]
  have hlt := h.lt h0
  unfold tkL tkN
  by_cases e : u + n = szD (l.getD 0 default)
  · rw [if_pos e, if_pos e]
    refine ⟨⟨fun s hs => h.ok s (List.mem_of_mem_drop hs), Int.le_refl _, fun h1 => ?_, fun _ => rfl⟩, ?_⟩
    · have := stepD_sz (step_iff.2 (h.ok _ (List.mem_of_mem_drop (getD_mem' h1))))
      omega
    · rw [ruD0]
      unfold ruD
      rw [he, List.drop_append_of_le_length (by omega), hs, List.drop_eq_nil_of_le (show (exS (l.getD 0 default)).length ≤ (u + n).toNat by omega), List.append_nil]
  · rw [if_neg e, if_neg e]
    refine ⟨⟨h.ok, by omega, fun _ => by omega, fun h1 => by omega⟩, ?_⟩
    unfold ruD
    rw [he, List.drop_append_of_le_length (by omega), List.drop_append_of_le_length (by omega), hs, List.append_assoc]
end Go.Ch
end
section
set_option linter.unusedVariables false
set_option linter.unusedSimpArgs false
namespace Go.Ch
open Go Go.Ab

theorem jd_C (n : Nat) (p q : List DU) : joinDU (List.replicate n .C ++ p) q = List.replicate n .C ++ joinDU p q := by
  induction n with
  | zero => rfl
  | succ n ih => rw [List.replicate_succ, List.cons_append, joinDU, ih, List.cons_append]
def NoCD : List DU → Prop
  | .C :: _ => False
  | _ => True
theorem jd_A1 {p : List DU} (hp : NoCD p) (e : Elem) (q : List DU) : joinDU p (.A e :: q) = .A e :: joinDU p q := by
  rw [joinDU]
  intro p' h
  subst h
  exact hp
theorem jd_A (e : List Elem) {p : List DU} (hp : NoCD p) (q : List DU) : joinDU p (e.map .A ++ q) = e.map .A ++ joinDU p q := by
  induction e with
  | nil => rfl
  | cons x e ih => rw [List.map_cons, List.cons_append, jd_A1 hp, ih, List.cons_append]
theorem jd_KK (n : Nat) (c d : List Attr) (p q : List DU) : joinDU (List.replicate n (.K c) ++ p) (List.replicate n (.K d) ++ q) = List.replicate n (.K (fm botG c d)) ++ joinDU p q := by
  induction n with
  | zero => rfl
  | succ n ih => rw [List.replicate_succ, List.replicate_succ, List.replicate_succ, List.cons_append, List.cons_append, joinDU, ih, List.cons_append]
theorem jd_KC (n : Nat) (c : List Attr) (p q : List DU) : joinDU (List.replicate n (.K c) ++ p) (List.replicate n .C ++ q) = List.replicate n .C ++ joinDU p q := by
  induction n with
  | zero => rfl
  | succ n ih => rw [List.replicate_succ, List.replicate_succ, List.cons_append, List.cons_append, joinDU, ih, List.cons_append]
theorem jd_AK (e : List Elem) (d : List Attr) (p q : List DU) : joinDU (e.map .A ++ p) (List.replicate e.length (.K d) ++ q) = (e.map (chgE d)).map .A ++ joinDU p q := by
  induction e with
  | nil => rfl
  | cons x e ih => rw [List.map_cons, List.length_cons, List.replicate_succ, List.cons_append, List.cons_append, joinDU, ih]; rfl
theorem jd_AC (e : List Elem) (p q : List DU) : joinDU (e.map .A ++ p) (List.replicate e.length .C ++ q) = joinDU p q := by
  induction e with
  | nil => rfl
  | cons x e ih => rw [List.map_cons, List.length_cons, List.replicate_succ, List.cons_append, List.cons_append, joinDU, ih]
end Go.Ch
end
section
set_option linter.unusedVariables false
set_option linter.unusedSimpArgs false
namespace Go.Ch
open Go Go.Ab

structure JD (w : DWr) (ps : List DStep) (pu : Int) (qs : List DStep) (qu : Int) (T : Nat) (G : DWr) : Prop where
  gp : GoodRD ps pu
  gq : GoodRD qs qu
  dp : DN 100000000000 ps
  dq : DN 100000000000 qs
  eq : newN (ruD ps pu) = oldN (ruD qs qu)
  di : DI w (joinDU (ruD ps pu) (ruD qs qu)) T G
def jmD (ps : List DStep) (pu : Int) (qs : List DStep) (qu : Int) : Nat := (ruD ps pu).length + (ruD qs qu).length
theorem dn_tk {m : Nat} {l : List DStep} {u n : Int} (h : DN m l) : DN m (tkL l u n) := by
  unfold tkL; split
  · exact fun s hs => h s (List.mem_of_mem_drop hs)
  · exact h
theorem exS_C {l : List DStep} {u n : Int} (k : (l.getD 0 default).kind = 2) : exS (tkE l u n) = List.replicate n.toNat .C := by
  unfold tkE
  rw [if_neg (by omega)]
  unfold exS
  simp only
  rw [if_neg (by omega), if_pos k]
theorem exS_A {l : List DStep} {u n : Int} (k : (l.getD 0 default).kind = 1) : exS (tkE l u n) = (tkE l u n).elems.map .A := by
  unfold tkE
  rw [if_pos k]
  unfold exS
  simp only
  rw [if_pos k]
theorem exS_K {l : List DStep} {u n : Int} (k : (l.getD 0 default).kind = 0) : exS (tkE l u n) = List.replicate n.toNat (.K (l.getD 0 default).attrs) := by
  unfold tkE
  rw [if_neg (by omega)]
  unfold exS
  simp only
  rw [if_neg (by omega), if_neg (by omega)]
section
variable {w : DWr} {ps qs : List DStep} {pu qu : Int} {T : Nat} {G : DWr}
theorem JD.cut (h : JD w ps pu qs qu T G) (h0 : 0 < ps.length) (hk : (ps.getD 0 default).kind = 2) {n : Int} (hn : n = szD (ps.getD 0 default) - pu) :
    JD ⟨w.out, w.add, w.cut + n⟩ (tkL ps pu n) (tkN ps pu n) qs qu T G ∧ jmD (tkL ps pu n) (tkN ps pu n) qs qu < jmD ps pu qs qu := by
  have hl := h.gp.lt h0
  obtain ⟨g, e⟩ := tkD_ok (n := n) h.gp h0 (by omega) (by omega)
  rw [exS_C hk] at e
  have hd := h.di
  have he := h.eq
  rw [e, jd_C] at hd
  rw [e, newN_app, (lens_Cs _).2] at he
  have hd2 := hd.cuts
  rw [show ((n.toNat : Nat) : Int) = n by omega] at hd2
  refine ⟨⟨g, h.gq, dn_tk h.dp, h.dq, by omega, hd2⟩, ?_⟩
  unfold jmD
  rw [e, List.length_append, List.length_replicate]
  omega
theorem noCD {l : List DStep} {u : Int} (h : GoodRD l u) (hk : 0 < l.length → (l.getD 0 default).kind ≠ 2) : NoCD (ruD l u) := by
  by_cases h0 : 0 < l.length
  · have hl := h.lt h0
    have hp := h.pos
    have k2 := hk h0
    obtain ⟨g, e⟩ := tkD_ok (n := 1) h h0 (by decide) (by omega)
    have hs := (stepD_sz (step_iff.2 (h.ok _ (getD_mem' h0)))).1
    rcases hs with k | k | k
    · rw [e, exS_K k]; trivial
    · rw [e, exS_A k]
      have hem : (tkE l u 1).elems.length = 1 := by
        unfold tkE
        rw [if_pos k]
        simp only [List.length_drop, List.length_take]
        have : szD (l.getD 0 default) = (l.getD 0 default).elems.length := by unfold szD; rw [if_pos k]
        omega
      generalize (tkE l u 1).elems = z at hem
      cases z with
      | nil => simp at hem
      | cons x r => trivial
    · exact absurd k k2
  · rw [ruD_nil (by omega)]; trivial
theorem JD.add (h : JD w ps pu qs qu T G) (hp : 0 < ps.length → (ps.getD 0 default).kind ≠ 2) (h0 : 0 < qs.length) (hk : (qs.getD 0 default).kind = 1) {n : Int} (hn : n = szD (qs.getD 0 default) - qu) :
    JD ⟨w.out, w.add ++ (tkE qs qu n).elems, w.cut⟩ ps pu (tkL qs qu n) (tkN qs qu n) T G := by
  have hl := h.gq.lt h0
  obtain ⟨g, e⟩ := tkD_ok (n := n) h.gq h0 (by omega) (by omega)
  rw [exS_A hk] at e
  have hd := h.di
  have he := h.eq
  rw [e, jd_A _ (noCD h.gp hp)] at hd
  rw [e, oldN_app, (lens_As _).1] at he
  exact ⟨h.gp, g, h.dp, dn_tk h.dq, by omega, hd.elems⟩
theorem tkE_len {l : List DStep} {u n : Int} (k : (l.getD 0 default).kind = 1) (hu : 0 ≤ u) (hn : 0 ≤ n) (hl : u + n ≤ szD (l.getD 0 default)) : (tkE l u n).elems.length = n.toNat := by
  unfold tkE
  rw [if_pos k]
  simp only [List.length_drop, List.length_take]
  have : szD (l.getD 0 default) = (l.getD 0 default).elems.length := by unfold szD; rw [if_pos k]
  omega
theorem JD.both (h : JD w ps pu qs qu T G) (a : 0 < ps.length) (b : 0 < qs.length) (kp : (ps.getD 0 default).kind ≠ 2) (kq : (qs.getD 0 default).kind ≠ 1) {n : Int} (hn : n = min (szD (ps.getD 0 default) - pu) (szD (qs.getD 0 default) - qu)) :
    (((ps.getD 0 default).kind = 0 ∧ (qs.getD 0 default).kind = 0 → JD ⟨keepD (flushD w) n (fm botG (ps.getD 0 default).attrs (qs.getD 0 default).attrs), [], 0⟩ (tkL ps pu n) (tkN ps pu n) (tkL qs qu n) (tkN qs qu n) T G) ∧
    ((ps.getD 0 default).kind = 0 ∧ (qs.getD 0 default).kind = 2 → JD ⟨w.out, w.add, w.cut + n⟩ (tkL ps pu n) (tkN ps pu n) (tkL qs qu n) (tkN qs qu n) T G) ∧
    ((ps.getD 0 default).kind = 1 ∧ (qs.getD 0 default).kind = 0 → JD ⟨w.out, w.add ++ (tkE ps pu n).elems.map (chgE (qs.getD 0 default).attrs), w.cut⟩ (tkL ps pu n) (tkN ps pu n) (tkL qs qu n) (tkN qs qu n) T G) ∧
    ((ps.getD 0 default).kind = 1 ∧ (qs.getD 0 default).kind = 2 → JD w (tkL ps pu n) (tkN ps pu n) (tkL qs qu n) (tkN qs qu n) T G)) ∧
    jmD (tkL ps pu n) (tkN ps pu n) (tkL qs qu n) (tkN qs qu n) < jmD ps pu qs qu := by
  have l1 := h.gp.lt a
  have l2 := h.gq.lt b
  have p1 := h.gp.pos
  have p2 := h.gq.pos
  obtain ⟨g1, e1⟩ := tkD_ok (n := n) h.gp a (by omega) (by omega)
  obtain ⟨g2, e2⟩ := tkD_ok (n := n) h.gq b (by omega) (by omega)
  have hd := h.di
  have he := h.eq
  have k1 := (stepD_sz (step_iff.2 (h.gp.ok _ (getD_mem' a)))).1
  have k2 := (stepD_sz (step_iff.2 (h.gq.ok _ (getD_mem' b)))).1
  refine ⟨⟨fun k => ?_, fun k => ?_, fun k => ?_, fun k => ?_⟩, ?_⟩
  · rw [e1, e2, exS_K k.1, exS_K k.2] at hd he
    rw [jd_KK, show n.toNat = (n.toNat - 1) + 1 by omega] at hd
    rw [newN_app, oldN_app, (lens_Ks _ _).1, (lens_Ks _ _).2] at he
    have hd2 := hd.keep
    rw [show (((n.toNat - 1 + 1 : Nat)) : Int) = n by omega] at hd2
    exact ⟨g1, g2, dn_tk h.dp, dn_tk h.dq, by omega, hd2⟩
  · rw [e1, e2, exS_K k.1, exS_C k.2] at hd he
    rw [jd_KC] at hd
    rw [newN_app, oldN_app, (lens_Cs _).1, (lens_Ks _ _).2] at he
    have hd2 := hd.cuts
    rw [show ((n.toNat : Nat) : Int) = n by omega] at hd2
    exact ⟨g1, g2, dn_tk h.dp, dn_tk h.dq, by omega, hd2⟩
  · have hz := tkE_len (n := n) k.1 p1 (by omega) (by omega)
    rw [e1, e2, exS_A k.1, exS_K k.2] at hd he
    rw [newN_app, oldN_app, (lens_Ks _ _).1, (lens_As _).2] at he
    rw [← hz, jd_AK] at hd
    exact ⟨g1, g2, dn_tk h.dp, dn_tk h.dq, by omega, hd.elems⟩
  · have hz := tkE_len (n := n) k.1 p1 (by omega) (by omega)
    rw [e1, e2, exS_A k.1, exS_C k.2] at hd he
    rw [newN_app, oldN_app, (lens_Cs _).1, (lens_As _).2] at he
    rw [← hz, jd_AC] at hd
    exact ⟨g1, g2, dn_tk h.dp, dn_tk h.dq, by omega, hd⟩
  · have hs := exS_sz (h.gp.ok _ (getD_mem' a))
    have hl := congrArg List.length (tkE_split (n := n) (h.gp.ok _ (getD_mem' a)) p1 (by omega) (by omega))
    simp only [List.length_append, List.length_drop] at hl
    unfold jmD
    rw [e1, e2, List.length_append, List.length_append]
    omega
end
end Go.Ch
end
section
set_option linter.unusedVariables false
set_option linter.unusedSimpArgs false
namespace Go.Ch
open Go Go.Ab

def joinD (a b : List DStep) : List DStep := doneD (joinDU (exD a) (exD b))
theorem goodRD0 {l : List DStep} (h : DValid l) : GoodRD l 0 := ⟨h.1.all, Int.le_refl _, fun h0 => by have := stepD_sz (step_iff.2 (h.1.all _ (getD_mem' h0))); omega, fun _ => rfl⟩
theorem lens_V {l : List DStep} (h : DValid l) : (oldN (exD l) : Int) = oldD l ∧ (newN (exD l) : Int) = newD l := lens_D (fun s hs => okW (h.1.all s hs))
theorem rd_one {l : List DStep} {u : Int} (h : GoodRD l u) (h0 : 0 < l.length) : ((l.getD 0 default).kind ≠ 1 → 1 ≤ oldN (ruD l u)) ∧ ((l.getD 0 default).kind ≠ 2 → 1 ≤ newN (ruD l u)) := by
  have hl := h.lt h0
  have hp := h.pos
  obtain ⟨g, e⟩ := tkD_ok (n := 1) h h0 (by decide) (by omega)
  have hs := (stepD_sz (step_iff.2 (h.ok _ (getD_mem' h0)))).1
  rcases hs with k | k | k
  · rw [e, exS_K k, oldN_app, newN_app, (lens_Ks _ _).1, (lens_Ks _ _).2]; constructor <;> intro _ <;> omega
  · have hz := tkE_len (n := 1) k hp (by omega) (by omega)
    rw [e, exS_A k, oldN_app, newN_app, (lens_As _).1, (lens_As _).2, hz]; constructor <;> intro _ <;> omega
  · rw [e, exS_C k, oldN_app, newN_app, (lens_Cs _).1, (lens_Cs _).2]; constructor <;> intro _ <;> omega
variable {w : DWr} {ps qs : List DStep} {pu qu : Int} {T : Nat} {G : DWr}
theorem JD.two (h : JD w ps pu qs qu T G) (h0 : 0 < ps.length ∨ 0 < qs.length) (hp : 0 < ps.length → (ps.getD 0 default).kind ≠ 2) (hq : 0 < qs.length → (qs.getD 0 default).kind ≠ 1) : 0 < ps.length ∧ 0 < qs.length := by
  have he := h.eq
  rcases Nat.eq_zero_or_pos ps.length with a | a
  · rcases Nat.eq_zero_or_pos qs.length with b | b
    · omega
    · have := (rd_one h.gq b).1 (hq b)
      rw [ruD_nil a] at he
      simp only [newN] at he
      omega
  · rcases Nat.eq_zero_or_pos qs.length with b | b
    · have := (rd_one h.gp a).2 (hp a)
      rw [ruD_nil b] at he
      simp only [oldN] at he
      omega
    · exact ⟨a, b⟩
theorem JD.done (h : JD w ps pu qs qu T G) (a : ps.length = 0) (b : qs.length = 0) : w = G := by
  have := h.di
  rw [ruD_nil a, ruD_nil b] at this
  exact DI.done (by simpa [joinDU] using this)
theorem kindD_cases {l : List DStep} {u : Int} (h : GoodRD l u) : (kindD l = -1 ∧ l.length = 0) ∨ (kindD l = (l.getD 0 default).kind ∧ 0 < l.length ∧ (kindD l = 0 ∨ kindD l = 1 ∨ kindD l = 2)) := by
  unfold kindD
  split
  · rename_i h0; exact .inl ⟨rfl, h0⟩
  · rename_i h0
    have h0' : 0 < l.length := by omega
    have hs := (stepD_sz (step_iff.2 (h.ok _ (getD_mem' h0')))).1
    exact .inr ⟨rfl, by omega, hs⟩
theorem k02 {l : List DStep} {u : Int} (h : GoodRD l u) (h0 : 0 < l.length) (k : (l.getD 0 default).kind ≠ 1) : (l.getD 0 default).kind = 0 ∨ (l.getD 0 default).kind = 2 := by
  have := (stepD_sz (step_iff.2 (h.ok _ (getD_mem' h0)))).1
  omega
theorem szD_bd {l : List DStep} {u : Int} (h : GoodRD l u) (hd : DN 100000000000 l) (h0 : 0 < l.length) : 0 ≤ u ∧ u < szD (l.getD 0 default) ∧ szD (l.getD 0 default) ≤ 100000000000 ∧
    (l.getD 0 default).attrs.length ≤ 100000000000 ∧ (l.getD 0 default).elems.length ≤ 100000000000 ∧ AN 100000000000 (l.getD 0 default).elems := by
  have hs := stepD_sz (step_iff.2 (h.ok _ (getD_mem' h0)))
  obtain ⟨b1, b2, b3⟩ := hd _ (getD_mem' h0)
  have hl := h.lt h0
  exact ⟨h.pos, hl, by omega, b2, b1, b3⟩
theorem szD_k {l : List DStep} {u : Int} (h : GoodRD l u) (h0 : 0 < l.length) (k : (l.getD 0 default).kind ≠ 1) : szD (l.getD 0 default) ≤ 2147483647 := by
  have hs := stepD_sz (step_iff.2 (h.ok _ (getD_mem' h0)))
  have : szD (l.getD 0 default) = (l.getD 0 default).n := by unfold szD; rw [if_neg k]
  omega
theorem tkE_kind (l : List DStep) (u n : Int) : (tkE l u n).kind = (l.getD 0 default).kind := by unfold tkE; split <;> rfl
theorem tkE_attrs (l : List DStep) (u n : Int) : (tkE l u n).attrs = (l.getD 0 default).attrs := by unfold tkE; split <;> rfl
theorem tkE_an {l : List DStep} {u n : Int} {m : Nat} (h : AN m (l.getD 0 default).elems) : AN m (tkE l u n).elems := by
  unfold tkE
  split
  · exact fun x hx => h x (List.mem_of_mem_take (List.mem_of_mem_drop hx))
  · exact h
theorem an_up {m k : Nat} {l : List Elem} (h : AN m l) (hm : m ≤ k) : AN k l := fun x hx => Nat.le_trans (h x hx) hm
end Go.Ch
end
section
set_option linter.unusedVariables false
set_option linter.unusedSimpArgs false
namespace Go.Ch
open Go Go.Ab

def NoAD : List DU → Prop
  | .A _ :: _ => False
  | _ => True
theorem pd_A1 (e : Elem) (p q : List DU) : pairDU (.A e :: p) q = (.A e :: (pairDU p q).1, .K [] :: (pairDU p q).2) := by rw [pairDU]
theorem pd_A2' {p : List DU} (hp : NoAD p) (e : Elem) (q : List DU) : pairDU p (.A e :: q) = (.K [] :: (pairDU p q).1, .A e :: (pairDU p q).2) := by
  cases p with
  | nil => rw [pairDU]
  | cons u p =>
    cases u with
    | A x => exact hp.elim
    | K c => rw [pairDU]
    | C => rw [pairDU]
theorem pd_A (e : List Elem) (p q : List DU) : pairDU (e.map .A ++ p) q = (e.map .A ++ (pairDU p q).1, List.replicate e.length (.K []) ++ (pairDU p q).2) := by
  induction e with
  | nil => rfl
  | cons x e ih => rw [List.map_cons, List.cons_append, pd_A1, ih]; rfl
theorem pd_A2 (e : List Elem) {p : List DU} (hp : NoAD p) (q : List DU) : pairDU p (e.map .A ++ q) = (List.replicate e.length (.K []) ++ (pairDU p q).1, e.map .A ++ (pairDU p q).2) := by
  induction e with
  | nil => rfl
  | cons x e ih => rw [List.map_cons, List.cons_append, pd_A2' hp, ih]; rfl
theorem pd_KK (n : Nat) (c d : List Attr) (p q : List DU) : pairDU (List.replicate n (.K c) ++ p) (List.replicate n (.K d) ++ q) = (List.replicate n (.K (fm wioG c d)) ++ (pairDU p q).1, List.replicate n (.K d) ++ (pairDU p q).2) := by
  induction n with
  | zero => rfl
  | succ n ih => rw [List.replicate_succ, List.replicate_succ, List.replicate_succ, List.cons_append, List.cons_append, pairDU, ih]; rfl
theorem pd_KC (n : Nat) (c : List Attr) (p q : List DU) : pairDU (List.replicate n (.K c) ++ p) (List.replicate n .C ++ q) = ((pairDU p q).1, List.replicate n .C ++ (pairDU p q).2) := by
  induction n with
  | zero => rfl
  | succ n ih => rw [List.replicate_succ, List.replicate_succ, List.cons_append, List.cons_append, pairDU, ih]; rfl
theorem pd_CK (n : Nat) (c : List Attr) (p q : List DU) : pairDU (List.replicate n .C ++ p) (List.replicate n (.K c) ++ q) = (List.replicate n .C ++ (pairDU p q).1, (pairDU p q).2) := by
  induction n with
  | zero => rfl
  | succ n ih => rw [List.replicate_succ, List.replicate_succ, List.cons_append, List.cons_append, pairDU, ih]; rfl
theorem pd_CC (n : Nat) (p q : List DU) : pairDU (List.replicate n .C ++ p) (List.replicate n .C ++ q) = pairDU p q := by
  induction n with
  | zero => rfl
  | succ n ih => rw [List.replicate_succ, List.cons_append, List.cons_append, pairDU, ih]
theorem pairDU_units (p q : List DU) (hp : KOk p) (hq : KOk q) : (∀ u ∈ (pairDU p q).1, UnitOk u) ∧ (∀ u ∈ (pairDU p q).2, UnitOk u) := by
  have okA : ∀ e : Elem, elemE e = 0 ∧ e.attrs.length ≤ 100000000000 → UnitOk (.A e) := fun e h => ⟨h.1, by omega⟩
  have okK : ∀ c : List Attr, VG true c ∧ c.length ≤ 100000000000 → UnitOk (.K c) := fun e h => ⟨h.1, by omega⟩
  have ok0 : UnitOk (.K []) := ⟨vg_nil, by simp⟩
  have cons : ∀ (x : DU) (l : List DU), UnitOk x → (∀ u ∈ l, UnitOk u) → ∀ u ∈ x :: l, UnitOk u := fun x l h k u hu => by
    rcases List.mem_cons.1 hu with rfl | hu
    · exact h
    · exact k u hu
  induction p, q using pairDU.induct with
  | case1 e p q ih => rw [pairDU]; have i := ih hp.tail hq; exact ⟨cons _ _ (okA e (hp.2 e (by simp))) i.1, cons _ _ ok0 i.2⟩
  | case2 e q ih => rw [pairDU]; have i := ih hp hq.tail; exact ⟨cons _ _ ok0 i.1, cons _ _ (okA e (hq.2 e (by simp))) i.2⟩
  | case3 c p e q ih => rw [pairDU]; have i := ih hp hq.tail; exact ⟨cons _ _ ok0 i.1, cons _ _ (okA e (hq.2 e (by simp))) i.2⟩
  | case4 p e q ih => rw [pairDU]; have i := ih hp hq.tail; exact ⟨cons _ _ ok0 i.1, cons _ _ (okA e (hq.2 e (by simp))) i.2⟩
  | case5 c p d q ih =>
    rw [pairDU]
    have i := ih hp.tail hq.tail
    have h1 := hp.1 c (by simp)
    have h2 := hq.1 d (by simp)
    have := fm_len' wioG c d
    exact ⟨cons _ _ ⟨wio_V np_mt h1.1 h2.1, by omega⟩ i.1, cons _ _ (okK d h2) i.2⟩
  | case6 c p q ih => rw [pairDU]; have i := ih hp.tail hq.tail; exact ⟨i.1, cons _ _ trivial i.2⟩
  | case7 p d q ih => rw [pairDU]; have i := ih hp.tail hq.tail; exact ⟨cons _ _ trivial i.1, i.2⟩
  | case8 p q ih => rw [pairDU]; exact ih hp.tail hq.tail
  | case9 p hne =>
    rw [show pairDU p [] = ([], []) by unfold pairDU; split <;> simp_all]
    exact ⟨fun u hu => absurd hu (List.not_mem_nil), fun u hu => absurd hu (List.not_mem_nil)⟩
  | case10 q h1 h2 =>
    rw [show pairDU [] q = ([], []) by unfold pairDU; split <;> simp_all]
    exact ⟨fun u hu => absurd hu (List.not_mem_nil), fun u hu => absurd hu (List.not_mem_nil)⟩
theorem pairDU_new (p q : List DU) : newN (pairDU p q).1 ≤ newN p + newN q ∧ newN (pairDU p q).2 ≤ newN p + newN q := by
  induction p, q using pairDU.induct with
  | case9 p hne =>
    rw [show pairDU p [] = ([], []) by unfold pairDU; split <;> simp_all]
    simp [newN]
  | case10 q h1 h2 =>
    rw [show pairDU [] q = ([], []) by unfold pairDU; split <;> simp_all]
    simp [newN]
  | _ => rw [pairDU]; simp only [newN] at *; omega
def pairD1 (a b : List DStep) : List DStep := doneD (pairDU (exD a) (exD b)).1
def pairD2 (a b : List DStep) : List DStep := doneD (pairDU (exD a) (exD b)).2
structure PD (wx wy : DWr) (ps : List DStep) (pu : Int) (qs : List DStep) (qu : Int) (T U : Nat) (G H : DWr) : Prop where
  gp : GoodRD ps pu
  gq : GoodRD qs qu
  dp : DN 100000000000 ps
  dq : DN 100000000000 qs
  eq : oldN (ruD ps pu) = oldN (ruD qs qu)
  dx : DI wx (pairDU (ruD ps pu) (ruD qs qu)).1 T G
  dy : DI wy (pairDU (ruD ps pu) (ruD qs qu)).2 U H
theorem noAD {l : List DStep} {u : Int} (h : GoodRD l u) (hk : 0 < l.length → (l.getD 0 default).kind ≠ 1) : NoAD (ruD l u) := by
  by_cases h0 : 0 < l.length
  · have hl := h.lt h0
    obtain ⟨g, e⟩ := tkD_ok (n := 1) h h0 (by decide) (by omega)
    rcases k02 h h0 (hk h0) with k | k
    · rw [e, exS_K k]; trivial
    · rw [e, exS_C k]; trivial
  · rw [ruD_nil (by omega)]; trivial
section
variable {wx wy : DWr} {ps qs : List DStep} {pu qu : Int} {T U : Nat} {G H : DWr}
theorem PD.addP (h : PD wx wy ps pu qs qu T U G H) (h0 : 0 < ps.length) (hk : (ps.getD 0 default).kind = 1) {n : Int} (hn : n = szD (ps.getD 0 default) - pu) :
    PD ⟨wx.out, wx.add ++ (tkE ps pu n).elems, wx.cut⟩ ⟨keepD (flushD wy) ((tkE ps pu n).elems.length : Int) [], [], 0⟩ (tkL ps pu n) (tkN ps pu n) qs qu T U G H ∧
    jmD (tkL ps pu n) (tkN ps pu n) qs qu < jmD ps pu qs qu ∧ ((tkE ps pu n).elems.length : Int) = n := by
  have hl := h.gp.lt h0
  obtain ⟨g, e⟩ := tkD_ok (n := n) h.gp h0 (by omega) (by omega)
  have hz := tkE_len (n := n) hk h.gp.pos (by omega) (by omega)
  rw [exS_A hk] at e
  have hx := h.dx
  have hy := h.dy
  have he := h.eq
  rw [e, pd_A] at hx hy
  rw [e, oldN_app, (lens_As _).1] at he
  obtain ⟨k, hk2⟩ : ∃ k, (tkE ps pu n).elems.length = k + 1 := ⟨(tkE ps pu n).elems.length - 1, by omega⟩
  refine ⟨⟨g, h.gq, dn_tk h.dp, h.dq, by omega, hx.elems, ?_⟩, ?_, by omega⟩
  · rw [hk2] at hy ⊢
    exact hy.keep
  · unfold jmD
    rw [e, List.length_append, List.length_map, hz]
    omega
theorem PD.addQ (h : PD wx wy ps pu qs qu T U G H) (hp : 0 < ps.length → (ps.getD 0 default).kind ≠ 1) (h0 : 0 < qs.length) (hk : (qs.getD 0 default).kind = 1) {n : Int} (hn : n = szD (qs.getD 0 default) - qu) :
    PD ⟨keepD (flushD wx) ((tkE qs qu n).elems.length : Int) [], [], 0⟩ ⟨wy.out, wy.add ++ (tkE qs qu n).elems, wy.cut⟩ ps pu (tkL qs qu n) (tkN qs qu n) T U G H ∧
    jmD ps pu (tkL qs qu n) (tkN qs qu n) < jmD ps pu qs qu ∧ ((tkE qs qu n).elems.length : Int) = n := by
  have hl := h.gq.lt h0
  obtain ⟨g, e⟩ := tkD_ok (n := n) h.gq h0 (by omega) (by omega)
  have hz := tkE_len (n := n) hk h.gq.pos (by omega) (by omega)
  rw [exS_A hk] at e
  have hx := h.dx
  have hy := h.dy
  have he := h.eq
  rw [e, pd_A2 _ (noAD h.gp hp)] at hx hy
  rw [e, oldN_app, (lens_As _).1] at he
  obtain ⟨k, hk2⟩ : ∃ k, (tkE qs qu n).elems.length = k + 1 := ⟨(tkE qs qu n).elems.length - 1, by omega⟩
  refine ⟨⟨h.gp, g, h.dp, dn_tk h.dq, by omega, ?_, hy.elems⟩, ?_, by omega⟩
  · rw [hk2] at hx ⊢
    exact hx.keep
  · unfold jmD
    rw [e, List.length_append, List.length_map, hz]
    omega
theorem PD.both (h : PD wx wy ps pu qs qu T U G H) (a : 0 < ps.length) (b : 0 < qs.length) (kp : (ps.getD 0 default).kind ≠ 1) (kq : (qs.getD 0 default).kind ≠ 1) {n : Int} (hn : n = min (szD (ps.getD 0 default) - pu) (szD (qs.getD 0 default) - qu)) :
    (((ps.getD 0 default).kind = 0 ∧ (qs.getD 0 default).kind = 0 → PD ⟨keepD (flushD wx) n (fm wioG (ps.getD 0 default).attrs (qs.getD 0 default).attrs), [], 0⟩ ⟨keepD (flushD wy) n (qs.getD 0 default).attrs, [], 0⟩ (tkL ps pu n) (tkN ps pu n) (tkL qs qu n) (tkN qs qu n) T U G H) ∧
    ((ps.getD 0 default).kind = 0 ∧ (qs.getD 0 default).kind = 2 → PD wx ⟨wy.out, wy.add, wy.cut + n⟩ (tkL ps pu n) (tkN ps pu n) (tkL qs qu n) (tkN qs qu n) T U G H) ∧
    ((ps.getD 0 default).kind = 2 ∧ (qs.getD 0 default).kind = 0 → PD ⟨wx.out, wx.add, wx.cut + n⟩ wy (tkL ps pu n) (tkN ps pu n) (tkL qs qu n) (tkN qs qu n) T U G H) ∧
    ((ps.getD 0 default).kind = 2 ∧ (qs.getD 0 default).kind = 2 → PD wx wy (tkL ps pu n) (tkN ps pu n) (tkL qs qu n) (tkN qs qu n) T U G H)) ∧
    jmD (tkL ps pu n) (tkN ps pu n) (tkL qs qu n) (tkN qs qu n) < jmD ps pu qs qu := by
  have l1 := h.gp.lt a
  have l2 := h.gq.lt b
  have p1 := h.gp.pos
  have p2 := h.gq.pos
  obtain ⟨g1, e1⟩ := tkD_ok (n := n) h.gp a (by omega) (by omega)
  obtain ⟨g2, e2⟩ := tkD_ok (n := n) h.gq b (by omega) (by omega)
  have hx := h.dx
  have hy := h.dy
  have he := h.eq
  refine ⟨⟨fun k => ?_, fun k => ?_, fun k => ?_, fun k => ?_⟩, ?_⟩
  · rw [e1, e2, exS_K k.1, exS_K k.2] at hx hy he
    rw [pd_KK, show n.toNat = (n.toNat - 1) + 1 by omega] at hx hy
    rw [oldN_app, oldN_app, (lens_Ks _ _).1, (lens_Ks _ _).1] at he
    have hx2 := hx.keep
    have hy2 := hy.keep
    rw [show (((n.toNat - 1 + 1 : Nat)) : Int) = n by omega] at hx2 hy2
    exact ⟨g1, g2, dn_tk h.dp, dn_tk h.dq, by omega, hx2, hy2⟩
  · rw [e1, e2, exS_K k.1, exS_C k.2] at hx hy he
    rw [pd_KC] at hx hy
    rw [oldN_app, oldN_app, (lens_Cs _).1, (lens_Ks _ _).1] at he
    have hy2 := hy.cuts
    rw [show ((n.toNat : Nat) : Int) = n by omega] at hy2
    exact ⟨g1, g2, dn_tk h.dp, dn_tk h.dq, by omega, hx, hy2⟩
  · rw [e1, e2, exS_C k.1, exS_K k.2] at hx hy he
    rw [pd_CK] at hx hy
    rw [oldN_app, oldN_app, (lens_Cs _).1, (lens_Ks _ _).1] at he
    have hx2 := hx.cuts
    rw [show ((n.toNat : Nat) : Int) = n by omega] at hx2
    exact ⟨g1, g2, dn_tk h.dp, dn_tk h.dq, by omega, hx2, hy⟩
  · rw [e1, e2, exS_C k.1, exS_C k.2] at hx hy he
    rw [pd_CC] at hx hy
    rw [oldN_app, oldN_app, (lens_Cs _).1] at he
    exact ⟨g1, g2, dn_tk h.dp, dn_tk h.dq, by omega, hx, hy⟩
  · have hs := exS_sz (h.gp.ok _ (getD_mem' a))
    have hl := congrArg List.length (tkE_split (n := n) (h.gp.ok _ (getD_mem' a)) p1 (by omega) (by omega))
    simp only [List.length_append, List.length_drop] at hl
    unfold jmD
    rw [e1, e2, List.length_append, List.length_append]
    omega
theorem PD.two (h : PD wx wy ps pu qs qu T U G H) (h0 : 0 < ps.length ∨ 0 < qs.length) (hp : 0 < ps.length → (ps.getD 0 default).kind ≠ 1) (hq : 0 < qs.length → (qs.getD 0 default).kind ≠ 1) : 0 < ps.length ∧ 0 < qs.length := by
  have he := h.eq
  rcases Nat.eq_zero_or_pos ps.length with a | a
  · rcases Nat.eq_zero_or_pos qs.length with b | b
    · omega
    · have := (rd_one h.gq b).1 (hq b)
      rw [ruD_nil a] at he
      simp only [oldN] at he
      omega
  · rcases Nat.eq_zero_or_pos qs.length with b | b
    · have := (rd_one h.gp a).1 (hp a)
      rw [ruD_nil b] at he
      simp only [oldN] at he
      omega
    · exact ⟨a, b⟩
theorem PD.done (h : PD wx wy ps pu qs qu T U G H) (a : ps.length = 0) (b : qs.length = 0) : wx = G ∧ wy = H := by
  have hx := h.dx
  have hy := h.dy
  rw [ruD_nil a, ruD_nil b] at hx hy
  exact ⟨DI.done (by simpa [pairDU] using hx), DI.done (by simpa [pairDU] using hy)⟩
end
theorem pair_start {a b : List DStep} (va : DValid a) (vb : DValid b) (da : DN 100000000000 a) (db : DN 100000000000 b) (hm : oldD a = oldD b) (hs : newD a + newD b ≤ 2147483647) :
    (∀ u ∈ (pairDU (exD a) (exD b)).1, UnitOk u) ∧ (∀ u ∈ (pairDU (exD a) (exD b)).2, UnitOk u) ∧
    PD ⟨[], [], 0⟩ ⟨[], [], 0⟩ a 0 b 0 (pairDU (exD a) (exD b)).1.length (pairDU (exD a) (exD b)).2.length (foldD ⟨[], [], 0⟩ (pairDU (exD a) (exD b)).1) (foldD ⟨[], [], 0⟩ (pairDU (exD a) (exD b)).2) ∧
    DValid (pairD1 a b) ∧ DValid (pairD2 a b) ∧ DSw (exD (pairD1 a b)) (pairDU (exD a) (exD b)).1 ∧ DSw (exD (pairD2 a b)) (pairDU (exD a) (exD b)).2 ∧
    oldD (pairD1 a b) = newD b ∧ oldD (pairD2 a b) = newD a ∧ DN 400000000000 (pairD1 a b) ∧ DN 400000000000 (pairD2 a b) := by
  obtain ⟨hu, hv⟩ := pairDU_units _ _ (exD_K va.1.all da) (exD_K vb.1.all db)
  have la := lens_V va
  have lb := lens_V vb
  have o : ∃ l : List Elem, l.length = oldN (exD a) ∧ ∀ x ∈ l, VG false x.attrs := ⟨List.replicate (oldN (exD a)) ⟨0, 0, []⟩, by simp, fun x hx => by rw [List.eq_of_mem_replicate hx]; exact (chk_iff (e := false) (l := [])).1 (by rw [chkA]; rfl)⟩
  obtain ⟨l, hl1, hl2⟩ := o
  obtain ⟨_, m2, m1, _⟩ := pairDU_meets _ (exD a) (exD b) l (Nat.le_refl _) hl1.symm (by omega) (okU_of (exD_K va.1.all da)) (okU_of (exD_K vb.1.all db)) hl2
  have nn := pairDU_new (exD a) (exD b)
  have s1 := len_sum (pairDU (exD a) (exD b)).1
  have s2 := len_sum (pairDU (exD a) (exD b)).2
  have a1 := va.2.2
  have b1 := vb.2.2
  obtain ⟨d1, d2, d3, d4⟩ := doneD_ok hu (by omega) (by omega)
  obtain ⟨e1, e2, e3, e4⟩ := doneD_ok hv (by omega) (by omega)
  exact ⟨hu, hv, ⟨goodRD0 va, goodRD0 vb, da, db, by rw [ruD0, ruD0]; omega, by rw [ruD0, ruD0]; exact DI.start hu (by omega), by rw [ruD0, ruD0]; exact DI.start hv (by omega)⟩, d1, e1, d2, e2, by unfold pairD1; omega, by unfold pairD2; omega,
    doneD_dn hu (by omega), doneD_dn hv (by omega)⟩
end Go.Ch
end
section
set_option linter.unusedVariables false
set_option linter.unusedSimpArgs false
namespace Go.Ch
open Go Go.Ab

def onA (tag : ByteArray) : List Attr := [⟨tag, { data := #[111, 110] }⟩]
def Tagd (tag : ByteArray) (x : Elem) : Prop := x.attrs = onA tag ∧ 65 ≤ x.char ∧ x.char ≤ 90
def selB (tag : ByteArray) (x : Elem) : Bool := sameL x.attrs (onA tag) && decide (65 ≤ x.char ∧ x.char ≤ 90)
def bareE (x : Elem) : Elem := ⟨x.char, 0, []⟩
def withL (f : List Elem) (tag : ByteArray) : List Elem := (f.filter (selB tag)).map bareE
def addsU : List DU → List Elem
  | [] => []
  | .A e :: u => e :: addsU u
  | .K _ :: u => addsU u
  | .C :: u => addsU u
def addedL (d : List DStep) : List Elem := d.flatMap fun s => s.elems.map bareE
theorem sel_yes {tag : ByteArray} {x : Elem} (h : Tagd tag x) : selB tag x = true := by
  unfold selB; rw [h.1, sameL_eq.2 rfl, decide_eq_true h.2]; rfl
theorem sel_no {t u : ByteArray} {x : Elem} (h : Tagd t x) (hne : t ≠ u) : selB u x = false := by
  unfold selB
  rw [Bool.and_eq_false_iff]; left
  rw [← Bool.not_eq_true, sameL_eq, h.1]
  intro e
  simp only [onA, List.cons.injEq, Attr.mk.injEq] at e
  exact hne e.1.1
theorem sel_low {t : ByteArray} {x : Elem} (h : ¬ (65 ≤ x.char ∧ x.char ≤ 90)) : selB t x = false := by
  unfold selB; rw [decide_eq_false h, Bool.and_false]
theorem low_chg {x : Elem} {c : List Attr} (h : ¬ (65 ≤ x.char ∧ x.char ≤ 90)) : ¬ (65 ≤ (chgE c x).char ∧ (chgE c x).char ≤ 90) := h
theorem applyU_A (e : Elem) (p : List DU) (l : List Elem) : applyU (.A e :: p) l = e :: applyU p l := by simp [applyU]
theorem pair_tags {s t : ByteArray} (hst : s ≠ t) (p q : List DU) : ∀ (l : List Elem), oldN p = l.length → oldN q = l.length → (∀ x ∈ l, ¬ (65 ≤ x.char ∧ x.char ≤ 90)) → (∀ e, DU.A e ∈ p → Tagd s e) → (∀ e, DU.A e ∈ q → Tagd t e) →
    (applyU (pairDU p q).2 (applyU p l)).filter (selB s) = addsU p ∧ (applyU (pairDU p q).2 (applyU p l)).filter (selB t) = addsU q := by
  have tl : ∀ {x : DU} {u : List DU} {g : ByteArray}, (∀ e, DU.A e ∈ x :: u → Tagd g e) → ∀ e, DU.A e ∈ u → Tagd g e := fun h e he => h e (List.mem_cons_of_mem _ he)
  have nl : ∀ {x : Elem} {l : List Elem}, (∀ y ∈ x :: l, ¬ (65 ≤ y.char ∧ y.char ≤ 90)) → ∀ y ∈ l, ¬ (65 ≤ y.char ∧ y.char ≤ 90) := fun h y hy => h y (List.mem_cons_of_mem _ hy)
  have qA : ∀ {p : List DU} {e : Elem} {q : List DU}, NoAD p → (∀ (l : List Elem), oldN p = l.length → oldN q = l.length → (∀ x ∈ l, ¬ (65 ≤ x.char ∧ x.char ≤ 90)) → (∀ e, DU.A e ∈ p → Tagd s e) → (∀ e, DU.A e ∈ q → Tagd t e) →
      (applyU (pairDU p q).2 (applyU p l)).filter (selB s) = addsU p ∧ (applyU (pairDU p q).2 (applyU p l)).filter (selB t) = addsU q) →
      ∀ (l : List Elem), oldN p = l.length → oldN (.A e :: q) = l.length → (∀ x ∈ l, ¬ (65 ≤ x.char ∧ x.char ≤ 90)) → (∀ e, DU.A e ∈ p → Tagd s e) → (∀ e', DU.A e' ∈ .A e :: q → Tagd t e') →
      (applyU (pairDU p (.A e :: q)).2 (applyU p l)).filter (selB s) = addsU p ∧ (applyU (pairDU p (.A e :: q)).2 (applyU p l)).filter (selB t) = addsU (.A e :: q) := by
    intro p e q hp ih l h1 h2 hl a b
    have he := b e (by simp)
    obtain ⟨i1, i2⟩ := ih l h1 (by simpa [oldN] using h2) hl a (tl b)
    rw [pd_A2' hp, applyU_A, List.filter_cons_of_neg (by rw [sel_no he (Ne.symm hst)]; decide), List.filter_cons_of_pos (sel_yes he), i1, i2]
    exact ⟨rfl, rfl⟩
  induction p, q using pairDU.induct with
  | case1 e p q ih =>
    intro l h1 h2 hl a b
    have he := a e (by simp)
    obtain ⟨i1, i2⟩ := ih l (by simpa [oldN] using h1) h2 hl (tl a) b
    rw [pd_A1, applyU_A]
    simp only [applyU, chgE_nil]
    rw [List.filter_cons_of_pos (sel_yes he), List.filter_cons_of_neg (by rw [sel_no he hst]; decide), i1, i2]
    exact ⟨rfl, rfl⟩
  | case2 e q ih => exact qA trivial ih
  | case3 c p e q ih => exact qA trivial ih
  | case4 p e q ih => exact qA trivial ih
  | case5 c p d q ih =>
    intro l h1 h2 hl a b
    cases l with
    | nil => simp [oldN] at h1
    | cons x l =>
      obtain ⟨i1, i2⟩ := ih l (by simpa [oldN] using h1) (by simpa [oldN] using h2) (nl hl) (tl a) (tl b)
      have hx := hl x (by simp)
      rw [pairDU]
      simp only [applyU, addsU]
      rw [List.filter_cons_of_neg (by rw [sel_low (low_chg (low_chg hx))]; decide), List.filter_cons_of_neg (by rw [sel_low (low_chg (low_chg hx))]; decide)]
      exact ⟨i1, i2⟩
  | case6 c p q ih =>
    intro l h1 h2 hl a b
    cases l with
    | nil => simp [oldN] at h1
    | cons x l =>
      rw [pairDU]
      simp only [applyU, addsU]
      exact ih l (by simpa [oldN] using h1) (by simpa [oldN] using h2) (nl hl) (tl a) (tl b)
  | case7 p d q ih =>
    intro l h1 h2 hl a b
    cases l with
    | nil => simp [oldN] at h1
    | cons x l =>
      rw [pairDU]
      simp only [applyU, addsU]
      exact ih l (by simpa [oldN] using h1) (by simpa [oldN] using h2) (nl hl) (tl a) (tl b)
  | case8 p q ih =>
    intro l h1 h2 hl a b
    cases l with
    | nil => simp [oldN] at h1
    | cons x l =>
      rw [pairDU]
      simp only [applyU, addsU]
      exact ih l (by simpa [oldN] using h1) (by simpa [oldN] using h2) (nl hl) (tl a) (tl b)
  | case9 p hne =>
    intro l h1 h2 hl a b
    have hl0 : l = [] := List.length_eq_zero_iff.1 (by simpa [oldN] using h2.symm)
    subst hl0
    cases p with
    | nil => simp [pairDU, applyU, addsU]
    | cons u p =>
      cases u with
      | A e => exact (hne e p rfl).elim
      | K c => simp [oldN] at h1
      | C => simp [oldN] at h1
  | case10 q h1 h2 =>
    intro l e1 e2 hl a b
    cases q with
    | nil => exact (h2 rfl).elim
    | cons u q =>
      cases u with
      | A e => exact (h1 e q rfl).elim
      | K c => simp [oldN] at e1 e2; omega
      | C => simp [oldN] at e1 e2; omega
theorem addsU_app (u v : List DU) : addsU (u ++ v) = addsU u ++ addsU v := by
  induction u with
  | nil => rfl
  | cons x u ih => cases x <;> simp [addsU, ih]
theorem addsU_A (e : List Elem) : addsU (e.map .A) = e := by induction e with | nil => rfl | cons x e ih => simp [addsU, ih]
theorem addsU_rep (n : Nat) {x : DU} (h : addsU [x] = []) : addsU (List.replicate n x) = [] := by
  induction n with
  | zero => rfl
  | succ n ih =>
    rw [List.replicate_succ]
    cases x with
    | A e => simp [addsU] at h
    | K c => exact ih
    | C => exact ih
theorem added_ex {l : List DStep} (h : ∀ s ∈ l, DOk s) : addedL l = (addsU (exD l)).map bareE := by
  induction l with
  | nil => rfl
  | cons s l ih =>
    have i := ih (fun t ht => h t (List.mem_cons_of_mem _ ht))
    unfold addedL at i ⊢
    rw [List.flatMap_cons, i, exD, addsU_app, List.map_append]
    congr 1
    unfold exS
    rcases h s (by simp) with ⟨k, _⟩ | ⟨k, e, _⟩
    · rw [if_pos k, addsU_A]
    · rw [if_neg (by omega), e]
      split <;> rw [addsU_rep _ rfl] <;> rfl
theorem chgF_tag {raw : List Int} {tag : ByteArray} (n : Nat) : ∀ (k : Nat) (used : Int) (x : Act), (∀ e ∈ x.ins, ∀ y ∈ e, Tagd tag y) → ∀ e ∈ (chgF raw tag n k used x).ins, ∀ y ∈ e, Tagd tag y := by
  have hi : ∀ i k, ∀ y ∈ insL tag i k, Tagd tag y := fun i k y hy => by
    obtain ⟨j, _, rfl⟩ := List.mem_map.1 hy
    have h1 := Int.emod_nonneg ((i : Int) + (j : Int)) (b := 26) (by decide)
    have h2 := Int.emod_lt_of_pos ((i : Int) + (j : Int)) (b := 26) (by decide)
    refine ⟨rfl, ?_, ?_⟩
    · show 65 ≤ 65 + ((i : Int) + (j : Int)) % 26; omega
    · show 65 + ((i : Int) + (j : Int)) % 26 ≤ 90; omega
  intro k
  induction k with
  | zero =>
    intro used x hx e he
    simp only [chgF] at he
    rcases List.mem_append.1 he with he | he
    · exact hx e he
    · rw [List.mem_singleton] at he; subst he; exact hi _ _
  | succ k ih =>
    intro used x hx
    simp only [chgF]
    refine ih _ _ (fun e he => ?_)
    rcases List.mem_append.1 he with he | he
    · exact hx e he
    · rw [List.mem_singleton] at he; subst he; exact hi _ _
theorem actR_tag {x : Act} {tag : ByteArray} (h : ∀ e ∈ x.ins, ∀ y ∈ e, Tagd tag y) : ∀ (m i : Nat), x.cut.length - i = m → ∀ e, DU.A e ∈ actR x i → Tagd tag e := by
  have hg : ∀ i, ∀ y ∈ x.ins.getD i default, Tagd tag y := fun i y hy => by
    by_cases hi : i < x.ins.length
    · exact h _ (getD_mem' hi) y hy
    · rw [show x.ins.getD i default = [] by simp [List.getD, List.getElem?_eq_none (by omega : x.ins.length ≤ i)]; rfl] at hy
      cases hy
  intro m
  induction m with
  | zero =>
    intro i hm e he
    rw [actR, if_neg (by omega)] at he
    obtain ⟨y, hy, q⟩ := List.mem_map.1 he
    cases q; exact hg i _ hy
  | succ m ih =>
    intro i hm e he
    rw [actR, if_pos (by omega)] at he
    rcases List.mem_append.1 he with he | he
    · obtain ⟨y, hy, q⟩ := List.mem_map.1 he
      cases q; exact hg i _ hy
    · rcases List.mem_cons.1 he with he | he
      · split at he <;> cases he
      · exact ih (i + 1) (by omega) e he
theorem chg_tag {raw : List Int} {tag : ByteArray} {n : Nat} {d : List DStep} (h : DSw (exD d) (actR (chgX raw tag n) 0)) : ∀ e, DU.A e ∈ exD d → Tagd tag e := fun e he =>
  actR_tag (chgF_tag n n 0 _ (fun e he => by cases he)) _ 0 rfl e ((dsw_mem h _).1 he)
def lowE (x : Elem) : Elem := if 65 ≤ x.char ∧ x.char ≤ 90 then ⟨x.char + 32, x.ref, x.attrs⟩ else x
theorem lowE_no (x : Elem) : ¬ (65 ≤ (lowE x).char ∧ (lowE x).char ≤ 90) := by
  unfold lowE; split
  · simp only; omega
  · assumption
theorem lowE_attrs (x : Elem) : (lowE x).attrs = x.attrs := by unfold lowE; split <;> rfl
end Go.Ch
end
section
set_option linter.unusedVariables false
set_option linter.unusedSimpArgs false
namespace Go.Ch
open Go Go.Ab

theorem elem_low {x : Elem} (h : elemE x = 0) : elemE (lowE x) = 0 := by
  unfold lowE
  split
  · rename_i hc
    unfold elemE at h ⊢
    simp only
    split at h
    · cases h
    · rename_i h1
      split at h
      · cases h
      · rename_i h2
        rw [if_neg (by omega), if_neg]
        · exact h
        · rintro (⟨q1, q2⟩ | q)
          · apply q2; unfold CharP; omega
          · exact h2 (.inr q)
  · exact h
theorem low_facts {f : List Elem} (hp : partE f 0 = 0) (ha : AN 100000000000 f) : partE (f.map lowE) 0 = 0 ∧ AN 100000000000 (f.map lowE) ∧ ∀ x ∈ f.map lowE, ¬ (65 ≤ x.char ∧ x.char ≤ 90) := by
  refine ⟨part_iff.2 (fun x hx => ?_), fun x hx => ?_, fun x hx => ?_⟩ <;> obtain ⟨y, hy, rfl⟩ := List.mem_map.1 hx
  · exact elem_low (part_iff.1 hp y hy)
  · rw [lowE_attrs]; exact ha y hy
  · exact lowE_no y
theorem getD_eq {α : Type} [Inhabited α] {l : List α} {i : Nat} (h : i < l.length) : l.getD i default = l[i] := by simp [List.getD, List.getElem?_eq_getElem h]
theorem low_at {f : List Elem} {i : Nat} (h : i < f.length) : ((f.take i).map lowE ++ f.drop i).getD i default = f.getD i default := by
  have hl : ((f.take i).map lowE).length = i := by simp; omega
  rw [List.getD, List.getElem?_append_right (by omega), hl, Nat.sub_self, List.getElem?_drop]; rfl
theorem low_set {f o : List Elem} {i : Nat} (h : i < f.length) (ho : o = (f.take i).map lowE ++ f.drop i) (hc : 65 ≤ (o.getD i default).char ∧ (o.getD i default).char ≤ 90) :
    o.set i ⟨(o.getD i default).char + 32, (o.getD i default).ref, (o.getD i default).attrs⟩ = (f.take (i + 1)).map lowE ++ f.drop (i + 1) := by
  have e := low_at h
  rw [← ho] at e
  rw [e] at hc ⊢
  have hl : ((f.take i).map lowE).length = i := by simp; omega
  rw [ho, List.set_append, if_neg (by omega), hl, Nat.sub_self, List.drop_eq_getElem_cons h, List.set_cons_zero, List.take_succ_eq_append_getElem h, List.map_append, List.append_assoc]
  congr 1
  simp only [List.map_cons, List.map_nil, List.singleton_append]
  rw [getD_eq h] at hc ⊢
  unfold lowE
  rw [if_pos hc]
theorem low_keep {f o : List Elem} {i : Nat} (h : i < f.length) (ho : o = (f.take i).map lowE ++ f.drop i) (hc : ¬ (65 ≤ (o.getD i default).char ∧ (o.getD i default).char ≤ 90)) : o = (f.take (i + 1)).map lowE ++ f.drop (i + 1) := by
  have e := low_at h
  rw [← ho] at e
  rw [e, getD_eq h] at hc
  rw [ho, List.take_succ_eq_append_getElem h, List.map_append, List.append_assoc, List.drop_eq_getElem_cons h]
  congr 1
  simp only [List.map_cons, List.map_nil, List.singleton_append]
  unfold lowE
  rw [if_neg hc]
theorem with_step {f : List Elem} {t : ByteArray} {i : Nat} (h : i < f.length) : withL (f.take (i + 1)) t = withL (f.take i) t ++ (if selB t (f.getD i default) = true then [bareE (f.getD i default)] else []) := by
  unfold withL
  rw [List.take_succ_eq_append_getElem h, List.filter_append, List.map_append, getD_eq h]
  congr 1
  by_cases hs : selB t f[i] = true
  · rw [if_pos hs, List.filter_cons_of_pos hs]; rfl
  · rw [if_neg hs, List.filter_cons_of_neg hs]; rfl
theorem with_len (f : List Elem) (t : ByteArray) : (withL f t).length ≤ f.length := by unfold withL; rw [List.length_map]; exact List.length_filter_le _ _
theorem added_step {d : List DStep} {i : Nat} (h : i < d.length) : addedL (d.take (i + 1)) = addedL (d.take i) ++ (d.getD i default).elems.map bareE := by
  unfold addedL
  rw [List.take_succ_eq_append_getElem h, List.flatMap_append, getD_eq h]
  simp
theorem added_len (d : List DStep) (i : Nat) : (addedL (d.take i)).length ≤ (addedL d).length := by
  conv => rhs; rw [← List.take_append_drop i d]
  unfold addedL
  rw [List.flatMap_append, List.length_append]
  omega
theorem addsU_len (u : List DU) : (addsU u).length ≤ newN u := by
  induction u with
  | nil => exact Nat.le_refl _
  | cons x u ih => cases x <;> simp only [addsU, newN, List.length_cons] <;> omega
theorem pair_law {f : List Elem} {a b : List DStep} {s t : ByteArray} (hst : s ≠ t) (hp : partE f 0 = 0) (ha : AN 100000000000 f) (hf : ∀ x ∈ f, ¬ (65 ≤ x.char ∧ x.char ≤ 90)) (va : DValid a) (vb : DValid b) (da : DN 100000000000 a) (db : DN 100000000000 b)
    (la : oldD a = f.length) (lb : oldD b = f.length) (hs : newD a + newD b ≤ 2147483647) (ta : ∀ e, DU.A e ∈ exD a → Tagd s e) (tb : ∀ e, DU.A e ∈ exD b → Tagd t e) :
    (AN 400000000000 f ∧ DN 400000000000 a ∧ DN 400000000000 b) ∧
    (partE (rawD f a) 0 = 0 ∧ AN 400000000000 (rawD f a) ∧ ((rawD f a).length : Int) = newD a) ∧ (partE (rawD f b) 0 = 0 ∧ AN 400000000000 (rawD f b) ∧ ((rawD f b).length : Int) = newD b) ∧
    (DValid (pairD1 a b) ∧ DN 400000000000 (pairD1 a b) ∧ oldD (pairD1 a b) = newD b) ∧ (DValid (pairD2 a b) ∧ DN 400000000000 (pairD2 a b) ∧ oldD (pairD2 a b) = newD a) ∧
    ((rawD (rawD f a) (pairD2 a b)).length ≤ 1000000000000 ∧ (addedL a).length ≤ 1000000000000 ∧ (addedL b).length ≤ 1000000000000) ∧
    sameF (rawD (rawD f a) (pairD2 a b)) (rawD (rawD f b) (pairD1 a b)) = true ∧ sameF (withL (rawD (rawD f a) (pairD2 a b)) s) (addedL a) = true ∧ sameF (withL (rawD (rawD f a) (pairD2 a b)) t) (addedL b) = true := by
  have hE := eok_of hp ha
  have ka := exD_K va.1.all da
  have kb := exD_K vb.1.all db
  obtain ⟨u1, u2, _, d1, d2, w1, w2, o1, o2, n1, n2⟩ := pair_start va vb da db (by omega) hs
  have qa := lens_V va
  have qb := lens_V vb
  have hla := applyU_len (exD a) f (by omega)
  have hlb := applyU_len (exD b) f (by omega)
  have oa := applyU_ok _ _ ka hE
  have ob := applyU_ok _ _ kb hE
  have a1 := va.2.2
  have b1 := vb.2.2
  have d2n := d2.2.2
  have ql2 := lens_V d2
  have hx : rawD (rawD f a) (pairD2 a b) = applyU (pairDU (exD a) (exD b)).2 (applyU (exD a) f) := sw_applyU w2 _
  have hy : rawD (rawD f b) (pairD1 a b) = applyU (pairDU (exD a) (exD b)).1 (applyU (exD b) f) := sw_applyU w1 _
  obtain ⟨m1, _, _, _⟩ := pairDU_meets _ (exD a) (exD b) f (Nat.le_refl _) (by omega) (by omega) (okU_of ka) (okU_of kb) (fun x hx => elem_ok (hE x hx).1)
  obtain ⟨t1, t2⟩ := pair_tags hst (exD a) (exD b) f (by omega) (by omega) hf ta tb
  have e0 : (applyU (exD a) f).length = newN (exD a) := by omega
  have hlx := applyU_len (exD (pairD2 a b)) (applyU (exD a) f) (by omega)
  have la1 := addsU_len (exD a)
  have lb1 := addsU_len (exD b)
  refine ⟨⟨hE.an, da.mono (by decide), db.mono (by decide)⟩, ⟨part_iff.2 (fun x hx => (oa x hx).1), fun x hx => by have := (oa x hx).2; omega, ?_⟩, ⟨part_iff.2 (fun x hx => (ob x hx).1), fun x hx => by have := (ob x hx).2; omega, ?_⟩,
    ⟨d1, n1, o1⟩, ⟨d2, n2, o2⟩, ⟨?_, ?_, ?_⟩, ?_, ?_, ?_⟩
  · show ((applyU (exD a) f).length : Int) = _; omega
  · show ((applyU (exD b) f).length : Int) = _; omega
  · show (applyU (exD (pairD2 a b)) (applyU (exD a) f)).length ≤ _; omega
  · rw [added_ex va.1.all, List.length_map]; omega
  · rw [added_ex vb.1.all, List.length_map]; omega
  · rw [hx, hy, m1]; exact sameF_self _
  · unfold withL; rw [hx, t1, added_ex va.1.all]; exact sameF_self _
  · unfold withL; rw [hx, t2, added_ex vb.1.all]; exact sameF_self _
end Go.Ch
end
section
set_option linter.unusedVariables false
set_option linter.unusedSimpArgs false
set_option maxRecDepth 100000
set_option maxHeartbeats 4000000
open Go Go.Proofs Go.Ab
namespace Go.Ch
theorem fc_with (f : List Elem) (s : ByteArray) (hn : f.length ≤ 1000000000000) : FC Try.prog 59 [VL 3 elemT f, VS s] (app emp []) (VL 3 elemT (withL f s)) (app emp []) := by
 refine .go Try.f59 ?_
 refine .len 0 (fun hl0 => ?_)
 refine .loop (α := Nat × (List Elem)) [.r [], .r [], .r [(1, X (Xl elemT f))], .le (.nR 5 3)] 41 (fun (i, o) => ([(0, VL 3 elemT f), (1, VS s), (5, .row 40 o.length), (8, VI (f.length : Int)), (9, VI (i : Int))], [(40, OR 3 elemT o)])) (fun (i, o) => i ≤ f.length ∧ o = withL (f.take i) s) (fun (i, o) => f.length - i) (0, []) ?_ ?_
 ·
  exact ⟨by omega, rfl⟩
 rintro ⟨i, o⟩ I3 ih3
 try dsimp only at I3
 have ol : o.length ≤ i := by rw [I3.2]; have := with_len (f.take i) s; rw [List.length_take] at this; omega
 refine .br [.r []] (decide ((i : Int) < (f.length : Int))) (fun h3 => ?_) (fun h3 => ?_)
 ·
  (try simp only [decide_eq_true_eq, decide_eq_false_iff_not, Int.not_lt, Int.not_le] at h3)
  refine .br [.r [], .r [(2, X (Xi elemT f (i : Int))), (6, X (Xc1 113 (fc_on s) X0)), (7, X (Xc0 (fc_sameAttrs (((f.getD i default)).attrs) [({ name := s, val := { data := #[111, 110] } } : Attr)]) X0)), (11, Xv 2 (sameL (((f.getD i default)).attrs) [({ name := s, val := { data := #[111, 110] } } : Attr)]) (Xi elemT f (i : Int))), (12, Xv 1 (sameL (((f.getD i default)).attrs) [({ name := s, val := { data := #[111, 110] } } : Attr)]) X0), (13, Xv 1 (sameL (((f.getD i default)).attrs) [({ name := s, val := { data := #[111, 110] } } : Attr)]) X0), (14, Xv 1 (sameL (((f.getD i default)).attrs) [({ name := s, val := { data := #[111, 110] } } : Attr)]) (Xc0 (fc_in (((f.getD i default)).char) 65 90) X0)), (15, X (Xk (sameL (((f.getD i default)).attrs) [({ name := s, val := { data := #[111, 110] } } : Attr)])))]] ((sameL (((f.getD i default)).attrs) [({ name := s, val := { data := #[111, 110] } } : Attr)]) && (decide (65 ≤ (((f.getD i default)).char) ∧ (((f.getD i default)).char) ≤ 90))) (fun h5 => ?_) (fun h5 => ?_)
  ·
   (try simp only [decide_eq_true_eq, decide_eq_false_iff_not, Int.not_lt, Int.not_le, Bool.and_eq_true, Bool.and_eq_false_iff, Bool.not_eq_true', Bool.not_eq_false'] at h5)
   refine .back [.r [(3, X (Xi elemT f (i : Int))), (6, X (Xf [(2, 2)])), (8, X (rowC elemT [({ char := ((f.getD i default)).char, ref := 0, attrs := [] } : Elem)] (Xap 3 elemT 40 o [({ char := ((f.getD i default)).char, ref := 0, attrs := [] } : Elem)])))], .r [(0, X (Xn ((i : Int) + 1)))]] [(40, 40)] (ih3 ((i + 1), (o ++ [({ char := ((f.getD i default)).char, ref := 0, attrs := [] } : Elem)])) ?_ ?_)
   ·
    refine ⟨by omega, ?_⟩
    have hs : selB s (f.getD i default) = true := by unfold selB onA; rw [h5.1, decide_eq_true h5.2]; rfl
    rw [with_step (by omega), if_pos hs, ← I3.2]; rfl
   ·
    ((try dsimp only); omega)
  ·
   (try simp only [decide_eq_true_eq, decide_eq_false_iff_not, Int.not_lt, Int.not_le, Bool.and_eq_true, Bool.and_eq_false_iff, Bool.not_eq_true', Bool.not_eq_false'] at h5)
   refine .back [.r [(0, X (Xn ((i : Int) + 1)))]] [(40, 40)] (ih3 ((i + 1), o) ?_ ?_)
   ·
    refine ⟨by omega, ?_⟩
    have hs : selB s (f.getD i default) = false := by
      unfold selB onA
      rcases h5 with h | h
      · rw [h]; rfl
      · rw [decide_eq_false (by omega), Bool.and_false]
    rw [with_step (by omega), if_neg (by rw [hs]; decide), ← I3.2, List.append_nil]
   ·
    ((try dsimp only); omega)
 ·
  (try simp only [decide_eq_true_eq, decide_eq_false_iff_not, Int.not_lt, Int.not_le] at h3)
  have e1 : ((withL f s) : List Elem) = o := by
   rw [I3.2, List.take_of_length_le (by omega)]
  exact .finE [.r [], .le (.fr 4 [(o.length : Nat) = (List.map elemT o).length] ⟨lm, trivial⟩)] [] (fun z0 => (VL 3 elemT z0, [])) (o : List Elem) ((withL f s) : List Elem) e1

theorem fc_added (d : List DStep) (hn : (addedL d).length ≤ 1000000000000) : FC Try.prog 60 [VL 4 dstepT d] (app emp []) (VL 3 elemT (addedL d)) (app emp []) := by
 refine .go Try.f60 ?_
 refine .len 0 (fun hl0 => ?_)
 refine .loop (α := Nat × (List Elem)) [.r [], .r [], .r [(1, X (Xl dstepT d))], .le (.nR 3 3)] 41 (fun (i, o) => ([(0, VL 4 dstepT d), (3, .row 40 o.length), (7, VI (d.length : Int)), (8, VI (i : Int))], [(40, OR 3 elemT o)])) (fun (i, o) => i ≤ d.length ∧ o = addedL (d.take i)) (fun (i, o) => d.length - i) (0, []) ?_ ?_
 ·
  exact ⟨by omega, rfl⟩
 rintro ⟨i, o⟩ I3 ih3
 try dsimp only at I3
 have hq := added_len d (i + 1)
 refine .br [.r []] (decide ((i : Int) < (d.length : Int))) (fun h3 => ?_) (fun h3 => ?_)
 ·
  (try simp only [decide_eq_true_eq, decide_eq_false_iff_not, Int.not_lt, Int.not_le] at h3)
  refine .loop (α := Nat × (List Elem)) [.r [], .r [(2, X (Xi dstepT d (i : Int))), (5, X (Xl elemT (((d.getD i default)).elems)))]] 121 (fun (j, o2) => ([(0, VL 4 dstepT d), (3, .row 40 o2.length), (4, VI (i : Int)), (7, VI (d.length : Int)), (8, VI (i : Int)), (16, VI ((((d.getD i default)).elems).length : Int)), (17, VI (j : Int))], [(40, OR 3 elemT o2)])) (fun (j, o2) => j ≤ (d.getD i default).elems.length ∧ o2 = addedL (d.take i) ++ ((d.getD i default).elems.take j).map bareE) (fun (j, o2) => (d.getD i default).elems.length - j) (0, o) ?_ ?_
  ·
   exact ⟨by omega, by simp [I3.2]⟩
  rintro ⟨j, o2⟩ I6 ih6
  try dsimp only at I6
  have hst := added_step (d := d) (i := i) (by omega)
  have hel : (d.getD i default).elems.length ≤ (addedL (d.take (i + 1))).length := by rw [hst]; simp
  have ol : o2.length ≤ (addedL (d.take (i + 1))).length := by rw [I6.2, hst]; simp only [List.length_append, List.length_map, List.length_take]; omega
  refine .br [.r []] (decide ((j : Int) < ((((d.getD i default)).elems).length : Int))) (fun h6 => ?_) (fun h6 => ?_)
  ·
   (try simp only [decide_eq_true_eq, decide_eq_false_iff_not, Int.not_lt, Int.not_le] at h6)
   refine .back [.r [], .r [(3, X (Xi dstepT d (i : Int))), (7, X (Xi elemT (((d.getD i default)).elems) (j : Int))), (10, X (Xf [(2, 2)])), (12, X (rowC elemT [({ char := (((((d.getD i default)).elems).getD j default)).char, ref := 0, attrs := [] } : Elem)] (Xap 3 elemT 40 o2 [({ char := (((((d.getD i default)).elems).getD j default)).char, ref := 0, attrs := [] } : Elem)])))], .r [(0, X (Xn ((j : Int) + 1)))]] [(40, 40)] (ih6 ((j + 1), (o2 ++ [({ char := (((((d.getD i default)).elems).getD j default)).char, ref := 0, attrs := [] } : Elem)])) ?_ ?_)
   ·
    refine ⟨by omega, ?_⟩
    rw [I6.2, List.append_assoc, List.take_succ_eq_append_getElem (l := (d.getD i default).elems) (i := j) (by omega), List.map_append, getD_eq (l := (d.getD i default).elems) (by omega)]
    rfl
   ·
    ((try dsimp only); omega)
  ·
   (try simp only [decide_eq_true_eq, decide_eq_false_iff_not, Int.not_lt, Int.not_le] at h6)
   refine .back [.r [(0, X (Xn ((i : Int) + 1)))]] [(40, 40)] (ih3 ((i + 1), o2) ?_ ?_)
   ·
    refine ⟨by omega, ?_⟩
    rw [I6.2, List.take_of_length_le (l := (d.getD i default).elems) (i := j) (by omega), added_step (by omega)]
   ·
    ((try dsimp only); omega)
 ·
  (try simp only [decide_eq_true_eq, decide_eq_false_iff_not, Int.not_lt, Int.not_le] at h3)
  have e1 : ((addedL d) : List Elem) = o := by
   rw [I3.2, List.take_of_length_le (by omega)]
  exact .finE [.r [], .le (.fr 2 [(o.length : Nat) = (List.map elemT o).length] ⟨lm, trivial⟩)] [] (fun z0 => (VL 3 elemT z0, [])) (o : List Elem) ((addedL d) : List Elem) e1
end Go.Ch
end
section
set_option linter.unusedVariables false
set_option linter.unusedSimpArgs false
set_option maxRecDepth 100000
set_option maxHeartbeats 4000000
open Go Go.Proofs Go.Ab
namespace Go.Ch
theorem fc_dTake2 (l : List DStep) (u n : Int) (s : DStep) (hs : tkE l u n = s) (h0 : 0 < l.length) (hu : 0 ≤ u ∧ 0 ≤ n ∧ u + n ≤ szD (l.getD 0 default) ∧ u + n ≤ 9223372036854775807) :
    FC Try.prog 112 [.ptr 0 0, VI n] (app emp [(0, .box [VL 4 dstepT l, VI u])]) (.t (dstepT s)) (app emp [(0, .box [VL 4 dstepT (tkL l u n), VI (tkN l u n)]), (1, .box [VI s.kind, VI s.n, VL 2 attrT s.attrs, VL 3 elemT s.elems])]) := hs ▸ fc_dTake l u n h0 hu

end Go.Ch
end
section
set_option linter.unusedVariables false
set_option linter.unusedSimpArgs false
set_option maxRecDepth 100000
set_option maxHeartbeats 4000000
open Go Go.Proofs Go.Ab
namespace Go.Ch
theorem fc_dPair (a b : List DStep) (va : DValid a) (vb : DValid b) (da : DN 100000000000 a) (db : DN 100000000000 b) (hm : oldD a = oldD b) (hs : newD a + newD b ≤ 2147483647) : FC Try.prog 58 [VL 4 dstepT a, VL 4 dstepT b] (app emp []) (.tup [VL 4 dstepT (pairD1 a b), VL 4 dstepT (pairD2 a b), VI 0]) (app emp []) := by
 refine .go Try.f58 ?_
 refine .len 0 (fun hl0 => ?_)
 refine .len 1 (fun hl1 => ?_)
 have ca := checkD_iff.2 va
 have cb := checkD_iff.2 vb
 have da4 := da.mono (n := 400000000000) (by decide)
 have db4 := db.mono (n := 400000000000) (by decide)
 obtain ⟨_, _, st, v1, v2, _⟩ := pair_start va vb da db hm hs
 have c1 := checkD_iff.2 v1
 have c2 := checkD_iff.2 v2
 refine .br [.r [], .r [(1, X (Xc0 (fc_dCheck a (by assumption)) X0))], .r []] ((checkD a) != 0) (fun h2 => ?_) (fun h2 => ?_)
 ·
  (try simp only [bne_iff_ne, bne_eq_false_iff_eq, ne_eq] at h2)
  exfalso
  omega
 ·
  (try simp only [bne_iff_ne, bne_eq_false_iff_eq, ne_eq] at h2)
  refine .br [.r [(1, X (Xc0 (fc_dCheck b (by assumption)) X0))], .r []] ((checkD b) != 0) (fun h5 => ?_) (fun h5 => ?_)
  ·
   (try simp only [bne_iff_ne, bne_eq_false_iff_eq, ne_eq] at h5)
   exfalso
   omega
  ·
   (try simp only [bne_iff_ne, bne_eq_false_iff_eq, ne_eq] at h5)
   refine .br [.r [(1, X (Xc0 (fc_dLens a (by assumption)) X0))], .r [(1, X (Xc0 (fc_dLens b (by assumption)) X0))], .r []] ((oldD a) != (oldD b)) (fun h9 => ?_) (fun h9 => ?_)
   ·
    (try simp only [bne_iff_ne, bne_eq_false_iff_eq, ne_eq] at h9)
    exfalso
    omega
   ·
    (try simp only [bne_iff_ne, bne_eq_false_iff_eq, ne_eq] at h9)
    refine .loop (α := Int × Int × (List DStep) × (List Elem) × (List DStep) × (List Elem) × (List DStep) × Int × (List DStep) × Int) [.r [], .le (.nB 240 0 4), .le (.nB 240 1 3), .le (.nB 248 0 4), .le (.nB 248 1 3), .r []] 324 (fun (y1, y2, o1, x1, o2, x2, ps, pu, qs, qu) => ([(13, .ptr 240 0), (14, .ptr 248 0), (15, .ptr 276 0), (16, .ptr 300 0)], [(240, .box [.row 256 o1.length, .row 257 x1.length, VI y1]), (248, .box [.row 258 o2.length, .row 259 x2.length, VI y2]), (256, OR 4 dstepT o1), (257, OR 3 elemT x1), (258, OR 4 dstepT o2), (259, OR 3 elemT x2), (276, .box [VL 4 dstepT ps, VI pu]), (300, .box [VL 4 dstepT qs, VI qu])])) (fun (y1, y2, o1, x1, o2, x2, ps, pu, qs, qu) => PD ⟨o1, x1, y1⟩ ⟨o2, x2, y2⟩ ps pu qs qu (pairDU (exD a) (exD b)).1.length (pairDU (exD a) (exD b)).2.length (foldD ⟨[], [], 0⟩ (pairDU (exD a) (exD b)).1) (foldD ⟨[], [], 0⟩ (pairDU (exD a) (exD b)).2)) (fun (y1, y2, o1, x1, o2, x2, ps, pu, qs, qu) => jmD ps pu qs qu) (0, 0, [], [], [], [], a, 0, b, 0) ?_ ?_
    ·
     exact st
    rintro ⟨y1, y2, o1, x1, o2, x2, ps, pu, qs, qu⟩ I13 ih13
    try dsimp only at I13
    have kp := kindD_cases I13.gp
    have kq := kindD_cases I13.gq
    have bx := I13.dx.bd
    have by2 := I13.dy.bd
    simp only at bx by2
    have fx := I13.dx.fl.1
    have fy := I13.dy.fl.1
    refine .br [.r [(1, X (Xc4 [(0, 276)] (fc_dKind ps pu) X0)), (5, Xv 1 (!(decide ((kindD ps) ≥ 0))) (Xc4 [(0, 300)] (fc_dKind qs qu) X0)), (6, Xv 1 (!(decide ((kindD ps) ≥ 0))) X0), (7, X (Xk' (decide ((kindD ps) ≥ 0))))]] (decide ((kindD ps) ≥ 0) || decide ((kindD qs) ≥ 0)) (fun h13 => ?_) (fun h13 => ?_)
    ·
     (try simp only [decide_eq_true_eq, decide_eq_false_iff_not, Int.not_lt, Int.not_le, ge_iff_le, Bool.or_eq_true, Bool.or_eq_false_iff] at h13)
     refine .br [.r [(1, X (Xc4 [(0, 276)] (fc_dKind ps pu) X0))]] ((kindD ps) == 1) (fun h14 => ?_) (fun h14 => ?_)
     ·
      (try simp only [beq_iff_eq, beq_eq_false_iff_ne, ne_eq] at h14)
      have lp0 : 0 < ps.length := by omega
      have k1 : (ps.getD 0 default).kind = 1 := by omega
      clear kp kq h13 h14
      have sp := szD_bd I13.gp I13.dp lp0
      obtain ⟨s, hs⟩ : ∃ z, tkE ps pu (szD (ps.getD 0 default) - pu) = z := ⟨_, rfl⟩
      have hA := PD.addP I13 lp0 k1 rfl
      have hAn := an_up (tkE_an (u := pu) (n := szD (ps.getD 0 default) - pu) sp.2.2.2.2.2) (k := 400000000000) (by decide)
      rw [hs] at hA hAn
      have hAb := hA.1.dx.bd
      simp only [List.length_append] at hAb
      have hA2 := hA.2.2
      refine .back [.r [(2, X (Xc4 [(0, 276)] (fc_dLeft ps pu (by omega) (by omega)) X0)), (3, X (Xc3 444 [(0, 276)] (fc_dTake2 ps pu (szD (ps.getD 0 default) - pu) s hs (by omega) (by omega)) X0))], .r [(2, X (Xc3 484 [(0, 240), (1, 256), (2, 257)] (fc_dElems o1 x1 y1 s.elems (by assumption) (by omega)) X0))], .r [(2, X (Xl elemT s.elems)), (3, X (Xc3 516 [(0, 248), (1, 258), (2, 259)] (.nil 2 2 (fc_dKeep o2 x2 y2 (s.elems.length : Int) [] (by omega) (by first | omega | simp) (by omega) (by assumption))) X0))]] [(240, 240), (248, 248), (256, 256), (257, 257), (258, 258), (516, 259), (276, 276), (300, 300)] (ih13 (y1, 0, o1, (x1 ++ s.elems), (keepD (flushD ⟨o2, x2, y2⟩) (s.elems.length : Int) []), [], (tkL ps pu (szD (ps.getD 0 default) - pu)), (tkN ps pu (szD (ps.getD 0 default) - pu)), qs, qu) ?_ ?_)
      ·
       exact hA.1
      ·
       exact hA.2.1
     ·
      (try simp only [beq_iff_eq, beq_eq_false_iff_ne, ne_eq] at h14)
      refine .br [.r [(1, X (Xc4 [(0, 300)] (fc_dKind qs qu) X0))]] ((kindD qs) == 1) (fun h18 => ?_) (fun h18 => ?_)
      ·
       (try simp only [beq_iff_eq, beq_eq_false_iff_ne, ne_eq] at h18)
       have lq0 : 0 < qs.length := by omega
       have k2 : (qs.getD 0 default).kind = 1 := by omega
       have k1 : 0 < ps.length → (ps.getD 0 default).kind ≠ 1 := fun h => by omega
       clear kp kq h13 h14 h18
       have sq := szD_bd I13.gq I13.dq lq0
       obtain ⟨s, hs⟩ : ∃ z, tkE qs qu (szD (qs.getD 0 default) - qu) = z := ⟨_, rfl⟩
       have hA := PD.addQ I13 k1 lq0 k2 rfl
       have hAn := an_up (tkE_an (u := qu) (n := szD (qs.getD 0 default) - qu) sq.2.2.2.2.2) (k := 400000000000) (by decide)
       rw [hs] at hA hAn
       have hAb := hA.1.dy.bd
       simp only [List.length_append] at hAb
       have hA2 := hA.2.2
       clear k1
       refine .back [.r [(2, X (Xc4 [(0, 300)] (fc_dLeft qs qu (by omega) (by omega)) X0)), (3, X (Xc3 476 [(0, 300)] (fc_dTake2 qs qu (szD (qs.getD 0 default) - qu) s hs (by omega) (by omega)) X0))], .r [(2, X (Xl elemT s.elems)), (3, X (Xc3 524 [(0, 240), (1, 256), (2, 257)] (.nil 2 2 (fc_dKeep o1 x1 y1 (s.elems.length : Int) [] (by omega) (by first | omega | simp) (by omega) (by assumption))) X0))], .r [(2, X (Xc3 548 [(0, 248), (1, 258), (2, 259)] (fc_dElems o2 x2 y2 s.elems (by assumption) (by omega)) X0))]] [(240, 240), (248, 248), (256, 256), (524, 257), (258, 258), (259, 259), (276, 276), (300, 300)] (ih13 (0, y2, (keepD (flushD ⟨o1, x1, y1⟩) (s.elems.length : Int) []), [], o2, (x2 ++ s.elems), ps, pu, (tkL qs qu (szD (qs.getD 0 default) - qu)), (tkN qs qu (szD (qs.getD 0 default) - qu))) ?_ ?_)
       ·
        exact hA.1
       ·
        exact hA.2.1
      ·
       (try simp only [beq_iff_eq, beq_eq_false_iff_ne, ne_eq] at h18)
       obtain ⟨lp0, lq0⟩ := PD.two I13 (by omega) (fun h => by omega) (fun h => by omega)
       have k1 : (ps.getD 0 default).kind ≠ 1 := by omega
       have k3 : (qs.getD 0 default).kind ≠ 1 := by omega
       have sk := fun _ : Unit => k02 I13.gp lp0 k1
       have tk := fun _ : Unit => k02 I13.gq lq0 k3
       have hB1 := fun n => PD.both (n := n) I13 lp0 lq0 k1 k3
       have mk1 := szD_k I13.gp lp0 k1
       clear kp kq h13 h14 h18 k1 k3
       have sp := szD_bd I13.gp I13.dp lp0
       have sq := szD_bd I13.gq I13.dq lq0
       obtain ⟨m, hmm⟩ : ∃ z, min (szD (ps.getD 0 default) - pu) (szD (qs.getD 0 default) - qu) = z := ⟨_, rfl⟩
       have hB := hB1 m hmm.symm
       have m1 : 1 ≤ m ∧ m ≤ szD (ps.getD 0 default) - pu ∧ m ≤ szD (qs.getD 0 default) - qu ∧ m ≤ 100000000000 := by omega
       have m2 : pu + m ≤ szD (ps.getD 0 default) ∧ qu + m ≤ szD (qs.getD 0 default) := by omega
       obtain ⟨s, hs⟩ : ∃ z, tkE ps pu m = z := ⟨_, rfl⟩
       obtain ⟨t, ht⟩ : ∃ z, tkE qs qu m = z := ⟨_, rfl⟩
       have ek1 := tkE_kind ps pu m
       have ek2 := tkE_kind qs qu m
       have ea1 := tkE_attrs ps pu m
       have ea2 := tkE_attrs qs qu m
       rw [hs] at ek1 ea1
       rw [ht] at ek2 ea2
       have al : s.attrs.length ≤ 100000000000 ∧ t.attrs.length ≤ 100000000000 := by rw [ea1, ea2]; omega
       rw [← ea1, ← ea2, ← ek1, ← ek2] at hB
       rw [← ek1] at sk
       rw [← ek2] at tk
       clear hB1
       refine .br [.r [(1, X (Xc4 [(0, 276)] (fc_dLeft ps pu (by omega) (by omega)) X0)), (3, X (Xc4 [(0, 300)] (fc_dLeft qs qu (by omega) (by omega)) X0)), (4, X (Xmin (szD (ps.getD 0 default) - pu) (szD (qs.getD 0 default) - qu)))], .le (.eq 19 (VI (min (szD (ps.getD 0 default) - pu) (szD (qs.getD 0 default) - qu))) (VI m) (.of_eq (by rw [hmm]))), .r [(2, X (Xc3 516 [(0, 276)] (fc_dTake2 ps pu m s hs (by omega) (by omega)) X0)), (5, X (Xc3 540 [(0, 300)] (fc_dTake2 qs qu m t ht (by omega) (by omega)) X0))], .r [(5, Xv 1 (s.kind == 0) X0), (6, Xv 1 (s.kind == 0) X0), (7, X (Xk (s.kind == 0)))]] ((s.kind == 0) && (t.kind == 0)) (fun h24 => ?_) (fun h24 => ?_)
       ·
        (try simp only [Bool.and_eq_true, Bool.and_eq_false_iff, Bool.not_eq_true', Bool.not_eq_false', beq_iff_eq, beq_eq_false_iff_ne, ne_eq] at h24)
        have fl := fm_len' wioG s.attrs t.attrs
        refine .back [.r [(5, X (Xc1 692 (fc_without s.attrs t.attrs (by omega)) X0)), (6, X (Xc3 700 [(0, 240), (1, 256), (2, 257)] (fc_dKeep o1 x1 y1 m (fm wioG s.attrs t.attrs) (by omega) (by first | omega | simp) (by omega) (by assumption)) X0))], .r [(3, X (Xc3 732 [(0, 248), (1, 258), (2, 259)] (fc_dKeep o2 x2 y2 m t.attrs (by omega) (by first | omega | simp) (by omega) (by assumption)) X0))]] [(240, 240), (248, 248), (256, 256), (700, 257), (258, 258), (732, 259), (276, 276), (300, 300)] (ih13 (0, 0, (keepD (flushD ⟨o1, x1, y1⟩) m (fm wioG s.attrs t.attrs)), [], (keepD (flushD ⟨o2, x2, y2⟩) m t.attrs), [], (tkL ps pu m), (tkN ps pu m), (tkL qs qu m), (tkN qs qu m)) ?_ ?_)
        ·
         exact hB.1.1 h24
        ·
         exact hB.2
       ·
        (try simp only [Bool.and_eq_true, Bool.and_eq_false_iff, Bool.not_eq_true', Bool.not_eq_false', beq_iff_eq, beq_eq_false_iff_ne, ne_eq] at h24)
        refine .br [.r []] (s.kind == 0) (fun h27 => ?_) (fun h27 => ?_)
        ·
         (try simp only [beq_iff_eq, beq_eq_false_iff_ne, ne_eq] at h27)
         refine .back [.r [(3, X (Xn (y2 + m)))]] [(240, 240), (248, 248), (256, 256), (257, 257), (258, 258), (259, 259), (276, 276), (300, 300)] (ih13 (y1, (y2 + m), o1, x1, o2, x2, (tkL ps pu m), (tkN ps pu m), (tkL qs qu m), (tkN qs qu m)) ?_ ?_)
         ·
          exact hB.1.2.1 ⟨h27, (tk ()).resolve_left (h24.resolve_left (fun h => h h27))⟩
         ·
          exact hB.2
        ·
         (try simp only [beq_iff_eq, beq_eq_false_iff_ne, ne_eq] at h27)
         refine .br [.r []] (t.kind == 0) (fun h29 => ?_) (fun h29 => ?_)
         ·
          (try simp only [beq_iff_eq, beq_eq_false_iff_ne, ne_eq] at h29)
          refine .at 716 [(240, 240), (248, 248), (256, 256), (257, 257), (258, 258), (259, 259), (276, 276), (300, 300)] ([(13, .ptr 240 0), (14, .ptr 248 0), (15, .ptr 276 0), (16, .ptr 300 0), (19, VI m), (133, VB (t.kind == 0))], [(240, .box [.row 256 o1.length, .row 257 x1.length, VI y1]), (248, .box [.row 258 o2.length, .row 259 x2.length, VI y2]), (256, OR 4 dstepT o1), (257, OR 3 elemT x1), (258, OR 4 dstepT o2), (259, OR 3 elemT x2), (276, .box [VL 4 dstepT (tkL ps pu m), VI (tkN ps pu m)]), (300, .box [VL 4 dstepT (tkL qs qu m), VI (tkN qs qu m)])]) ?_
          refine .back [.r [(3, X (Xn (y1 + m)))]] [(240, 240), (248, 248), (256, 256), (257, 257), (258, 258), (259, 259), (276, 276), (300, 300)] (ih13 ((y1 + m), y2, o1, x1, o2, x2, (tkL ps pu m), (tkN ps pu m), (tkL qs qu m), (tkN qs qu m)) ?_ ?_)
          ·
           exact hB.1.2.2.1 ⟨(sk ()).resolve_left h27, h29⟩
          ·
           exact hB.2
         ·
          (try simp only [beq_iff_eq, beq_eq_false_iff_ne, ne_eq] at h29)
          refine .at 716 [(240, 240), (248, 248), (256, 256), (257, 257), (258, 258), (259, 259), (276, 276), (300, 300)] ([(13, .ptr 240 0), (14, .ptr 248 0), (15, .ptr 276 0), (16, .ptr 300 0), (19, VI m), (133, VB (t.kind == 0))], [(240, .box [.row 256 o1.length, .row 257 x1.length, VI y1]), (248, .box [.row 258 o2.length, .row 259 x2.length, VI y2]), (256, OR 4 dstepT o1), (257, OR 3 elemT x1), (258, OR 4 dstepT o2), (259, OR 3 elemT x2), (276, .box [VL 4 dstepT (tkL ps pu m), VI (tkN ps pu m)]), (300, .box [VL 4 dstepT (tkL qs qu m), VI (tkN qs qu m)])]) ?_
          refine .back [] [(240, 240), (248, 248), (256, 256), (257, 257), (258, 258), (259, 259), (276, 276), (300, 300)] (ih13 (y1, y2, o1, x1, o2, x2, (tkL ps pu m), (tkN ps pu m), (tkL qs qu m), (tkN qs qu m)) ?_ ?_)
          ·
           exact hB.1.2.2.2 ⟨(sk ()).resolve_left h27, (tk ()).resolve_left h29⟩
          ·
           exact hB.2
    ·
     (try simp only [decide_eq_true_eq, decide_eq_false_iff_not, Int.not_lt, Int.not_le, ge_iff_le, Bool.or_eq_true, Bool.or_eq_false_iff] at h13)
     obtain ⟨hG1, hG2⟩ := PD.done I13 (by omega) (by omega)
     have hfx : flushD ⟨o1, x1, y1⟩ = pairD1 a b := by rw [hG1]; rfl
     have hfy : flushD ⟨o2, x2, y2⟩ = pairD2 a b := by rw [hG2]; rfl
     have hcx : checkD (flushD ⟨o1, x1, y1⟩) = 0 := by rw [hfx]; exact c1
     have hcy : checkD (flushD ⟨o2, x2, y2⟩) = 0 := by rw [hfy]; exact c2
     have hdx := I13.dx.fl.2
     have hdy := I13.dy.fl.2
     refine .br [.r [(0, X (Xc3 388 [(0, 240), (1, 256), (2, 257)] (fc_dDone o1 x1 y1 (by omega) (by assumption) (by assumption)) X0))], .r [(0, X (Xc3 436 [(0, 248), (1, 258), (2, 259)] (fc_dDone o2 x2 y2 (by omega) (by assumption) (by assumption)) X0))], .r [(4, Xv 1 (!false) X0), (5, X (Xk' false))]] (false || false) (fun h33 => ?_) (fun h33 => ?_)
     ·
      (try simp only [Bool.or_eq_true, Bool.or_eq_false_iff] at h33)
      exfalso
      simp at h33
     ·
      (try simp only [Bool.or_eq_true, Bool.or_eq_false_iff] at h33)
      have e1 : ((pairD1 a b) : List DStep) = (flushD ⟨o1, x1, y1⟩) := by
       first | rw [hfx] | rw [hfy]
      have e2 : ((pairD2 a b) : List DStep) = (flushD ⟨o2, x2, y2⟩) := by
       first | rw [hfx] | rw [hfy]
      exact .finE [.r [], .le (.fr 4 [(((flushD ⟨o1, x1, y1⟩).length) : Nat) = (List.map dstepT (flushD ⟨o1, x1, y1⟩)).length] ⟨lm, trivial⟩), .le (.fr 5 [(((flushD ⟨o2, x2, y2⟩).length) : Nat) = (List.map dstepT (flushD ⟨o2, x2, y2⟩)).length] ⟨lm, trivial⟩)] [] (fun (z0, z1) => (.tup [VL 4 dstepT z0, VL 4 dstepT z1, VI 0], [])) (((flushD ⟨o1, x1, y1⟩) : List DStep), ((flushD ⟨o2, x2, y2⟩) : List DStep)) (((pairD1 a b) : List DStep), ((pairD2 a b) : List DStep)) (pr e1 e2)
end Go.Ch
end
section
set_option linter.unusedVariables false
set_option linter.unusedSimpArgs false
set_option maxRecDepth 100000
set_option maxHeartbeats 4000000
open Go Go.Proofs Go.Ab
namespace Go.Ch
theorem fc_deltas  : FC Try.prog 46 [] (app emp []) (VB true) (app emp []) := by
 refine .go Try.f46 ?_
 obtain ⟨p1, p2, p3, p4⟩ := probe_facts
 have p5 := probe_dn
 have p6 := ltr_an { data := #[97, 98] } 400000000000
 unfold probeD at *
 have e1 : ((true && (sameF (rawD (lettersL ({ data := #[97, 98] })) [({ kind := 1, n := 0, attrs := [], elems := (lettersL ({ data := #[120] })) } : DStep), ({ kind := 2, n := 1, attrs := [], elems := [] } : DStep), ({ kind := 0, n := 1, attrs := [], elems := [] } : DStep)]) (lettersL ({ data := #[120, 98] })))) : Bool) = true := by
  rw [p4]; simp
 exact .finE [.r [], .r [(0, X (Xc1 8 (fc_letters ({ data := #[97, 98] }) (by decide)) X0)), (1, X (Xc1 16 (fc_letters ({ data := #[120] }) (by decide)) X0)), (2, X (Xf [(2, 2)])), (3, X (Xf [(2, 2), (3, 3)])), (4, X (Xf [(2, 2), (3, 3)])), (6, X (Xc1 56 (fc_dApply (lettersL ({ data := #[97, 98] })) [({ kind := 1, n := 0, attrs := [], elems := (lettersL ({ data := #[120] })) } : DStep), ({ kind := 2, n := 1, attrs := [], elems := [] } : DStep), ({ kind := 0, n := 1, attrs := [], elems := [] } : DStep)] (by assumption) (by assumption) (by assumption) (by assumption) (by omega)) (rowC dstepT [({ kind := 1, n := 0, attrs := [], elems := (lettersL ({ data := #[120] })) } : DStep), ({ kind := 2, n := 1, attrs := [], elems := [] } : DStep), ({ kind := 0, n := 1, attrs := [], elems := [] } : DStep)] X0)))], .r [(4, Xg true (Xc1 136 (fc_letters ({ data := #[120, 98] }) (by decide)) X0)), (5, Xv 2 true (Xc0 (fc_sameFlow (rawD (lettersL ({ data := #[97, 98] })) [({ kind := 1, n := 0, attrs := [], elems := (lettersL ({ data := #[120] })) } : DStep), ({ kind := 2, n := 1, attrs := [], elems := [] } : DStep), ({ kind := 0, n := 1, attrs := [], elems := [] } : DStep)]) (lettersL ({ data := #[120, 98] }))) X0)), (6, X (Xk true))]] [] (fun z0 => (VB z0, [])) ((true && (sameF (rawD (lettersL ({ data := #[97, 98] })) [({ kind := 1, n := 0, attrs := [], elems := (lettersL ({ data := #[120] })) } : DStep), ({ kind := 2, n := 1, attrs := [], elems := [] } : DStep), ({ kind := 0, n := 1, attrs := [], elems := [] } : DStep)]) (lettersL ({ data := #[120, 98] })))) : Bool) (true : Bool) e1.symm

end Go.Ch
end
section
set_option linter.unusedVariables false
set_option linter.unusedSimpArgs false
set_option maxRecDepth 100000
set_option maxHeartbeats 4000000
open Go Go.Proofs Go.Ab
namespace Go.Ch
theorem fc_lawPair (f0 : List Elem) (p q : List Int) (hsz : SzE f0) (ha0 : AN 100000000000 f0) : FC Try.prog 13 [VL 3 elemT f0, VL 1 intT p, VL 1 intT q] (app emp []) (VB true) (app emp []) := by
 refine .go Try.f13 ?_
 refine .len 0 (fun hl0 => ?_)
 refine .len 1 (fun hl1 => ?_)
 refine .len 2 (fun hl2 => ?_)
 have t1 := tag_one
 have t2 := tag_two
 refine .br [.r [], .r [(0, X (Xc0 fc_deltas X0))], .f, .r [(1, X (Xl elemT f0))]] (decide ((f0.length : Int) > 40)) (fun h3 => ?_) (fun h3 => ?_)
 ·
  (try simp only [decide_eq_true_eq, decide_eq_false_iff_not, Int.not_lt, Int.not_le, gt_iff_lt] at h3)
  obtain ⟨f, hff⟩ : ∃ z, (f0.take 40) = z := ⟨_, rfl⟩
  have hz0 : SzE (f0.take 40) := by first | exact hsz | exact fun x hx => hsz x (List.mem_of_mem_take hx)
  have ha : AN 100000000000 (f0.take 40) := by first | exact ha0 | exact an_take ha0 _
  have hlen : ((f0.take 40)).length ≤ 40 := by first | omega | (simp only [List.length_take]; omega)
  rw [hff] at ha hlen
  refine .br [.r [(1, X (Xst elemT 3 f0 40))], .r [(1, X (Xc0 (fc_partError (f0.take 40) (by assumption)) X0))], .le (.eq 0 (VL 3 elemT (f0.take 40)) (VL 3 elemT f) (.of_eq (by rw [hff])))] ((partE (f0.take 40) 0) != 0) (fun h5 => ?_) (fun h5 => ?_)
  ·
   (try simp only [bne_iff_ne, bne_eq_false_iff_eq, ne_eq] at h5)
   exact .fin [.r []] []
  ·
   (try simp only [bne_iff_ne, bne_eq_false_iff_eq, ne_eq] at h5)
   rw [hff] at h5
   refine .loop (α := Nat × (List Elem)) [.r [(2, X (Xap 3 elemT 96 [] f))], .r []] 152 (fun (i, o) => ([(0, .row 96 o.length), (1, VL 1 intT p), (2, VL 1 intT q), (35, VI (([] ++ f).length : Int)), (36, VI (i : Int))], [(96, OR 3 elemT o)])) (fun (i, o) => i ≤ f.length ∧ o = (f.take i).map lowE ++ f.drop i) (fun (i, o) => f.length - i) (0, ([] ++ f)) ?_ ?_
   ·
    exact ⟨by omega, by simp⟩
   rintro ⟨i, o⟩ I9 ih9
   try dsimp only at I9
   have oz : ([] ++ f : List Elem).length = f.length := rfl
   have ol : o.length = f.length := by rw [I9.2]; simp; omega
   refine .br [.r []] (decide ((i : Int) < (([] ++ f).length : Int))) (fun h9 => ?_) (fun h9 => ?_)
   ·
    (try simp only [decide_eq_true_eq, decide_eq_false_iff_not, Int.not_lt, Int.not_le] at h9)
    refine .br [.r [], .r [(2, X (Xp elemT o (i : Int))), (4, X (Xe elemT o i)), (5, X (Xc0 (fc_in (((o.getD i default)).char) 65 90) X0))]] (decide (65 ≤ (((o.getD i default)).char) ∧ (((o.getD i default)).char) ≤ 90)) (fun h11 => ?_) (fun h11 => ?_)
    ·
     (try simp only [decide_eq_true_eq, decide_eq_false_iff_not, Int.not_lt, Int.not_le] at h11)
     refine .back [.r [(2, X (Xp elemT o (i : Int))), (4, X (Xe elemT o i)), (5, X (Xn ((((o.getD i default)).char) + 32))), (6, X (Xp elemT o (i : Int))), (8, X (Xs 3 elemT 96 o i ({ char := ((((o.getD i default)).char) + 32), ref := ((o.getD i default)).ref, attrs := ((o.getD i default)).attrs } : Elem)))], .r [(0, X (Xn ((i : Int) + 1)))], .le (.eq 0 (.row 96 o.length) (.row 96 ((o.set i ({ char := ((((o.getD i default)).char) + 32), ref := ((o.getD i default)).ref, attrs := ((o.getD i default)).attrs } : Elem)).length)) (.of_eq (by simp only [List.length_set])))] [(96, 96)] (ih9 ((i + 1), (o.set i ({ char := ((((o.getD i default)).char) + 32), ref := ((o.getD i default)).ref, attrs := ((o.getD i default)).attrs } : Elem))) ?_ ?_)
     ·
      exact ⟨by omega, low_set (by omega) I9.2 (by omega)⟩
     ·
      ((try dsimp only); omega)
    ·
     (try simp only [decide_eq_true_eq, decide_eq_false_iff_not, Int.not_lt, Int.not_le] at h11)
     refine .back [.r [(0, X (Xn ((i : Int) + 1)))]] [(96, 96)] (ih9 ((i + 1), o) ?_ ?_)
     ·
      exact ⟨by omega, low_keep (by omega) I9.2 (by omega)⟩
     ·
      ((try dsimp only); omega)
   ·
    (try simp only [decide_eq_true_eq, decide_eq_false_iff_not, Int.not_lt, Int.not_le] at h9)
    have hp0 : partE f 0 = 0 := by omega
    have ho : o = f.map lowE := by rw [I9.2, List.take_of_length_le (by omega), List.drop_eq_nil_of_le (by omega), List.append_nil]
    obtain ⟨hp1, ha1, hno⟩ := low_facts hp0 ha
    rw [← ho] at hp1 ha1 hno
    have hca := change_ok (raw := p) tag_one (n := Int.toNat ((o.length : Nat) : Int)) (by omega)
    have hcb := change_ok (raw := q) tag_two (n := Int.toNat ((o.length : Nat) : Int)) (by omega)
    obtain ⟨a, hA⟩ : ∃ z, doneD (actR (chgX p ({ data := #[111, 110, 101] }) (Int.toNat ((o).length : Int))) 0) = z := ⟨_, rfl⟩
    obtain ⟨b, hB⟩ : ∃ z, doneD (actR (chgX q ({ data := #[116, 119, 111] }) (Int.toNat ((o).length : Int))) 0) = z := ⟨_, rfl⟩
    rw [hA] at hca
    rw [hB] at hcb
    obtain ⟨_, _, _, _, va, oa, da, na, wa⟩ := hca
    obtain ⟨_, _, _, _, vb, ob, db, nb, wb⟩ := hcb
    obtain ⟨⟨g1, g2, g3⟩, ⟨g4, g5, g6⟩, ⟨g7, g8, g9⟩, ⟨x1, x2, x3⟩, ⟨y1, y2, y3⟩, ⟨z1, z2, z3⟩, j1, j2, j3⟩ := pair_law (by decide) hp1 ha1 hno va vb da db (by omega) (by omega) (by omega) (chg_tag wa) (chg_tag wb)
    refine .br [.r [(3, X (Xc1 184 (fc_draw (o.length : Int) p ({ data := #[111, 110, 101] }) (by assumption) (by omega)) X0)), (7, X (Xc1 216 (fc_draw (o.length : Int) q ({ data := #[116, 119, 111] }) (by assumption) (by omega)) X0))], .le (.eq 8 (VL 4 dstepT (doneD (actR (chgX p ({ data := #[111, 110, 101] }) (Int.toNat (o.length : Int))) 0))) (VL 4 dstepT a) (.of_eq (by rw [hA]))), .le (.eq 9 (VL 4 dstepT (doneD (actR (chgX q ({ data := #[116, 119, 111] }) (Int.toNat (o.length : Int))) 0))) (VL 4 dstepT b) (.of_eq (by rw [hB]))), .r [(2, X (Xc1 256 (fc_dPair a b (by assumption) (by assumption) (by assumption) (by assumption) (by omega) (by omega)) X0))], .r [(2, X (Xc1 336 (fc_dApply o a (by assumption) (by assumption) (by assumption) (by assumption) (by omega)) (rowC elemT o X0)))], .r [(2, X (Xc1 400 (fc_dApply o b (by assumption) (by assumption) (by assumption) (by assumption) (by omega)) (rowC elemT o X0)))], .r [(2, X (Xc1 464 (fc_dApply (rawD o a) (pairD2 a b) (by assumption) (by assumption) (by assumption) (by assumption) (by omega)) X0))], .r [(2, X (Xc1 528 (fc_dApply (rawD o b) (pairD1 a b) (by assumption) (by assumption) (by assumption) (by assumption) (by omega)) X0))], .r [(4, Xv 1 (!false) X0), (5, X (Xk' false)), (8, Xv 1 (!(false || false)) X0), (9, X (Xk' (false || false))), (13, Xv 2 (!((false || false) || false)) (Xc0 (fc_sameFlow (rawD (rawD o a) (pairD2 a b)) (rawD (rawD o b) (pairD1 a b))) X0)), (14, Xv 1 (!((false || false) || false)) X0), (15, X (Xk' ((false || false) || false)))]] (((false || false) || false) || !(sameF (rawD (rawD o a) (pairD2 a b)) (rawD (rawD o b) (pairD1 a b)))) (fun h20 => ?_) (fun h20 => ?_)
    ·
     (try simp only [Bool.not_eq_true', Bool.not_eq_false', Bool.or_eq_true, Bool.or_eq_false_iff] at h20)
     exfalso
     simp [j1, j2, j3] at h20
    ·
     (try simp only [Bool.not_eq_true', Bool.not_eq_false', Bool.or_eq_true, Bool.or_eq_false_iff] at h20)
     have e1 : (((sameF (withL (rawD (rawD o a) (pairD2 a b)) ({ data := #[111, 110, 101] })) (addedL a)) && (sameF (withL (rawD (rawD o a) (pairD2 a b)) ({ data := #[116, 119, 111] })) (addedL b))) : Bool) = true := by
      first | (simp [j1, j2, j3]; done) | (rw [j2, j3]; simp)
     exact .finE [.r [(1, X (Xc1 712 (fc_with (rawD (rawD o a) (pairD2 a b)) ({ data := #[111, 110, 101] }) (by omega)) X0)), (3, X (Xc1 728 (fc_added a (by omega)) X0)), (4, X (Xc0 (fc_sameFlow (withL (rawD (rawD o a) (pairD2 a b)) ({ data := #[111, 110, 101] })) (addedL a)) X0)), (7, Xv 1 (sameF (withL (rawD (rawD o a) (pairD2 a b)) ({ data := #[111, 110, 101] })) (addedL a)) (Xc1 760 (fc_with (rawD (rawD o a) (pairD2 a b)) ({ data := #[116, 119, 111] }) (by omega)) X0)), (9, Xv 1 (sameF (withL (rawD (rawD o a) (pairD2 a b)) ({ data := #[111, 110, 101] })) (addedL a)) (Xc1 776 (fc_added b (by omega)) X0)), (10, Xv 2 (sameF (withL (rawD (rawD o a) (pairD2 a b)) ({ data := #[111, 110, 101] })) (addedL a)) (Xc0 (fc_sameFlow (withL (rawD (rawD o a) (pairD2 a b)) ({ data := #[116, 119, 111] })) (addedL b)) X0)), (11, X (Xk (sameF (withL (rawD (rawD o a) (pairD2 a b)) ({ data := #[111, 110, 101] })) (addedL a))))]] [] (fun z0 => (VB z0, [])) (((sameF (withL (rawD (rawD o a) (pairD2 a b)) ({ data := #[111, 110, 101] })) (addedL a)) && (sameF (withL (rawD (rawD o a) (pairD2 a b)) ({ data := #[116, 119, 111] })) (addedL b))) : Bool) (true : Bool) e1.symm
 ·
  (try simp only [decide_eq_true_eq, decide_eq_false_iff_not, Int.not_lt, Int.not_le, gt_iff_lt] at h3)
  obtain ⟨f, hff⟩ : ∃ z, f0 = z := ⟨_, rfl⟩
  have hz0 : SzE f0 := by first | exact hsz | exact fun x hx => hsz x (List.mem_of_mem_take hx)
  have ha : AN 100000000000 f0 := by first | exact ha0 | exact an_take ha0 _
  have hlen : (f0).length ≤ 40 := by first | omega | (simp only [List.length_take]; omega)
  rw [hff] at ha hlen
  refine .br [.r [(1, X (Xc0 (fc_partError f0 (by assumption)) X0))], .le (.eq 0 (VL 3 elemT f0) (VL 3 elemT f) (.of_eq (by rw [hff])))] ((partE f0 0) != 0) (fun h5 => ?_) (fun h5 => ?_)
  ·
   (try simp only [bne_iff_ne, bne_eq_false_iff_eq, ne_eq] at h5)
   exact .fin [.r []] []
  ·
   (try simp only [bne_iff_ne, bne_eq_false_iff_eq, ne_eq] at h5)
   rw [hff] at h5
   refine .loop (α := Nat × (List Elem)) [.r [(2, X (Xap 3 elemT 72 [] f))], .r []] 128 (fun (i, o) => ([(0, .row 72 o.length), (1, VL 1 intT p), (2, VL 1 intT q), (35, VI (([] ++ f).length : Int)), (36, VI (i : Int))], [(72, OR 3 elemT o)])) (fun (i, o) => i ≤ f.length ∧ o = (f.take i).map lowE ++ f.drop i) (fun (i, o) => f.length - i) (0, ([] ++ f)) ?_ ?_
   ·
    exact ⟨by omega, by simp⟩
   rintro ⟨i, o⟩ I9 ih9
   try dsimp only at I9
   have oz : ([] ++ f : List Elem).length = f.length := rfl
   have ol : o.length = f.length := by rw [I9.2]; simp; omega
   refine .br [.r []] (decide ((i : Int) < (([] ++ f).length : Int))) (fun h9 => ?_) (fun h9 => ?_)
   ·
    (try simp only [decide_eq_true_eq, decide_eq_false_iff_not, Int.not_lt, Int.not_le] at h9)
    refine .br [.r [], .r [(2, X (Xp elemT o (i : Int))), (4, X (Xe elemT o i)), (5, X (Xc0 (fc_in (((o.getD i default)).char) 65 90) X0))]] (decide (65 ≤ (((o.getD i default)).char) ∧ (((o.getD i default)).char) ≤ 90)) (fun h11 => ?_) (fun h11 => ?_)
    ·
     (try simp only [decide_eq_true_eq, decide_eq_false_iff_not, Int.not_lt, Int.not_le] at h11)
     refine .back [.r [(2, X (Xp elemT o (i : Int))), (4, X (Xe elemT o i)), (5, X (Xn ((((o.getD i default)).char) + 32))), (6, X (Xp elemT o (i : Int))), (8, X (Xs 3 elemT 72 o i ({ char := ((((o.getD i default)).char) + 32), ref := ((o.getD i default)).ref, attrs := ((o.getD i default)).attrs } : Elem)))], .r [(0, X (Xn ((i : Int) + 1)))], .le (.eq 0 (.row 72 o.length) (.row 72 ((o.set i ({ char := ((((o.getD i default)).char) + 32), ref := ((o.getD i default)).ref, attrs := ((o.getD i default)).attrs } : Elem)).length)) (.of_eq (by simp only [List.length_set])))] [(72, 72)] (ih9 ((i + 1), (o.set i ({ char := ((((o.getD i default)).char) + 32), ref := ((o.getD i default)).ref, attrs := ((o.getD i default)).attrs } : Elem))) ?_ ?_)
     ·
      exact ⟨by omega, low_set (by omega) I9.2 (by omega)⟩
     ·
      ((try dsimp only); omega)
    ·
     (try simp only [decide_eq_true_eq, decide_eq_false_iff_not, Int.not_lt, Int.not_le] at h11)
     refine .back [.r [(0, X (Xn ((i : Int) + 1)))]] [(72, 72)] (ih9 ((i + 1), o) ?_ ?_)
     ·
      exact ⟨by omega, low_keep (by omega) I9.2 (by omega)⟩
     ·
      ((try dsimp only); omega)
   ·
    (try simp only [decide_eq_true_eq, decide_eq_false_iff_not, Int.not_lt, Int.not_le] at h9)
    have hp0 : partE f 0 = 0 := by omega
    have ho : o = f.map lowE := by rw [I9.2, List.take_of_length_le (by omega), List.drop_eq_nil_of_le (by omega), List.append_nil]
    obtain ⟨hp1, ha1, hno⟩ := low_facts hp0 ha
    rw [← ho] at hp1 ha1 hno
    have hca := change_ok (raw := p) tag_one (n := Int.toNat ((o.length : Nat) : Int)) (by omega)
    have hcb := change_ok (raw := q) tag_two (n := Int.toNat ((o.length : Nat) : Int)) (by omega)
    obtain ⟨a, hA⟩ : ∃ z, doneD (actR (chgX p ({ data := #[111, 110, 101] }) (Int.toNat ((o).length : Int))) 0) = z := ⟨_, rfl⟩
    obtain ⟨b, hB⟩ : ∃ z, doneD (actR (chgX q ({ data := #[116, 119, 111] }) (Int.toNat ((o).length : Int))) 0) = z := ⟨_, rfl⟩
    rw [hA] at hca
    rw [hB] at hcb
    obtain ⟨_, _, _, _, va, oa, da, na, wa⟩ := hca
    obtain ⟨_, _, _, _, vb, ob, db, nb, wb⟩ := hcb
    obtain ⟨⟨g1, g2, g3⟩, ⟨g4, g5, g6⟩, ⟨g7, g8, g9⟩, ⟨x1, x2, x3⟩, ⟨y1, y2, y3⟩, ⟨z1, z2, z3⟩, j1, j2, j3⟩ := pair_law (by decide) hp1 ha1 hno va vb da db (by omega) (by omega) (by omega) (chg_tag wa) (chg_tag wb)
    refine .br [.r [(3, X (Xc1 160 (fc_draw (o.length : Int) p ({ data := #[111, 110, 101] }) (by assumption) (by omega)) X0)), (7, X (Xc1 192 (fc_draw (o.length : Int) q ({ data := #[116, 119, 111] }) (by assumption) (by omega)) X0))], .le (.eq 8 (VL 4 dstepT (doneD (actR (chgX p ({ data := #[111, 110, 101] }) (Int.toNat (o.length : Int))) 0))) (VL 4 dstepT a) (.of_eq (by rw [hA]))), .le (.eq 9 (VL 4 dstepT (doneD (actR (chgX q ({ data := #[116, 119, 111] }) (Int.toNat (o.length : Int))) 0))) (VL 4 dstepT b) (.of_eq (by rw [hB]))), .r [(2, X (Xc1 232 (fc_dPair a b (by assumption) (by assumption) (by assumption) (by assumption) (by omega) (by omega)) X0))], .r [(2, X (Xc1 312 (fc_dApply o a (by assumption) (by assumption) (by assumption) (by assumption) (by omega)) (rowC elemT o X0)))], .r [(2, X (Xc1 376 (fc_dApply o b (by assumption) (by assumption) (by assumption) (by assumption) (by omega)) (rowC elemT o X0)))], .r [(2, X (Xc1 440 (fc_dApply (rawD o a) (pairD2 a b) (by assumption) (by assumption) (by assumption) (by assumption) (by omega)) X0))], .r [(2, X (Xc1 504 (fc_dApply (rawD o b) (pairD1 a b) (by assumption) (by assumption) (by assumption) (by assumption) (by omega)) X0))], .r [(4, Xv 1 (!false) X0), (5, X (Xk' false)), (8, Xv 1 (!(false || false)) X0), (9, X (Xk' (false || false))), (13, Xv 2 (!((false || false) || false)) (Xc0 (fc_sameFlow (rawD (rawD o a) (pairD2 a b)) (rawD (rawD o b) (pairD1 a b))) X0)), (14, Xv 1 (!((false || false) || false)) X0), (15, X (Xk' ((false || false) || false)))]] (((false || false) || false) || !(sameF (rawD (rawD o a) (pairD2 a b)) (rawD (rawD o b) (pairD1 a b)))) (fun h20 => ?_) (fun h20 => ?_)
    ·
     (try simp only [Bool.not_eq_true', Bool.not_eq_false', Bool.or_eq_true, Bool.or_eq_false_iff] at h20)
     exfalso
     simp [j1, j2, j3] at h20
    ·
     (try simp only [Bool.not_eq_true', Bool.not_eq_false', Bool.or_eq_true, Bool.or_eq_false_iff] at h20)
     have e2 : (((sameF (withL (rawD (rawD o a) (pairD2 a b)) ({ data := #[111, 110, 101] })) (addedL a)) && (sameF (withL (rawD (rawD o a) (pairD2 a b)) ({ data := #[116, 119, 111] })) (addedL b))) : Bool) = true := by
      first | (simp [j1, j2, j3]; done) | (rw [j2, j3]; simp)
     exact .finE [.r [(1, X (Xc1 688 (fc_with (rawD (rawD o a) (pairD2 a b)) ({ data := #[111, 110, 101] }) (by omega)) X0)), (3, X (Xc1 704 (fc_added a (by omega)) X0)), (4, X (Xc0 (fc_sameFlow (withL (rawD (rawD o a) (pairD2 a b)) ({ data := #[111, 110, 101] })) (addedL a)) X0)), (7, Xv 1 (sameF (withL (rawD (rawD o a) (pairD2 a b)) ({ data := #[111, 110, 101] })) (addedL a)) (Xc1 736 (fc_with (rawD (rawD o a) (pairD2 a b)) ({ data := #[116, 119, 111] }) (by omega)) X0)), (9, Xv 1 (sameF (withL (rawD (rawD o a) (pairD2 a b)) ({ data := #[111, 110, 101] })) (addedL a)) (Xc1 752 (fc_added b (by omega)) X0)), (10, Xv 2 (sameF (withL (rawD (rawD o a) (pairD2 a b)) ({ data := #[111, 110, 101] })) (addedL a)) (Xc0 (fc_sameFlow (withL (rawD (rawD o a) (pairD2 a b)) ({ data := #[116, 119, 111] })) (addedL b)) X0)), (11, X (Xk (sameF (withL (rawD (rawD o a) (pairD2 a b)) ({ data := #[111, 110, 101] })) (addedL a))))]] [] (fun z0 => (VB z0, [])) (((sameF (withL (rawD (rawD o a) (pairD2 a b)) ({ data := #[111, 110, 101] })) (addedL a)) && (sameF (withL (rawD (rawD o a) (pairD2 a b)) ({ data := #[116, 119, 111] })) (addedL b))) : Bool) (true : Bool) e2.symm
end Go.Ch
end
section
set_option linter.unusedVariables false
set_option linter.unusedSimpArgs false
namespace Go.Proofs.Ytbdbibmbfmlobaa.frame
open Go Go.Proofs
def chs (l : List Nat) : List Char := l.map Char.ofNat
def w1 : List Char := chs [104, 97, 114, 110, 101, 115, 115]
def w2 : List Char := chs [102, 99, 57, 53, 99, 99, 54, 48, 52, 99, 55, 51, 55, 49, 100, 51, 97, 56, 102, 99, 55, 97, 51, 57, 52, 52, 50, 100, 100, 57, 102, 97, 97, 99, 52, 99, 99, 102, 50, 53, 100, 98, 52, 98, 52, 52, 50, 100, 56, 50, 102, 102, 97, 49, 97, 50, 48, 51, 57, 48, 102, 97, 101, 102]
def w3 : List Char := chs [99, 117, 116]
def sp : Char := Char.ofNat 32
theorem ws_sp (r : List Char) : wordsSigns (sp :: r) = [] :: wordsSigns r := rfl
theorem ws_c (c : Char) (r : List Char) (h : c ≠ sp) : wordsSigns (c :: r) = match wordsSigns r with
    | w :: ws => (c :: w) :: ws
    | [] => [[c]] := by
  rw [wordsSigns.eq_def]
  split
  · rename_i e; cases e
  · rename_i e; simp only [List.cons.injEq] at e; exact absurd e.1 h
  · rename_i e; simp only [List.cons.injEq] at e; obtain ⟨rfl, rfl⟩ := e; rfl
theorem ws_app : ∀ (a : List Char), (a.all fun c => c != sp) = true → ∀ r, wordsSigns (a ++ sp :: r) = a :: wordsSigns r
  | [], _, r => ws_sp r
  | c :: a, h, r => by
    simp only [List.all_cons, Bool.and_eq_true, bne_iff_ne] at h
    rw [List.cons_append, ws_c _ _ h.1, ws_app a h.2 r]
theorem tl (l : List Char) : (String.ofList l).toList = l := String.toList_ofList
theorem k1 : ("harness" : String).toList = w1 := tl w1
theorem k2 : ("cut" : String).toList = w3 := tl w3
theorem k3 : ("gc" : String).toList = chs [103, 99] := tl (chs [103, 99])
theorem k4 : ("spec" : String).toList = chs [115, 112, 101, 99] := tl (chs [115, 112, 101, 99])
theorem k5 : ("carried" : String).toList = chs [99, 97, 114, 114, 105, 101, 100] := tl (chs [99, 97, 114, 114, 105, 101, 100])
theorem lifts (r : List (List Char)) : stripLifts liftWords (w3 :: r) = ([], w3 :: r) := by
  unfold liftWords
  simp only [stripLifts]
  have key : ∀ l : List Nat, (w3 == chs l) = false → ∀ (s : String), s = String.ofList (chs l) → (w3 == s.toList) = false := fun l h s e => by rw [e, tl]; exact h
  rw [if_neg (by rw [key [102, 105, 110, 97, 108, 115] (by kernel_rfl) "finals" rfl]; decide)]
  rw [if_neg (by rw [key [114, 101, 102, 108, 101, 99, 116, 114, 111, 119, 115] (by kernel_rfl) "reflectrows" rfl]; decide)]
  rw [if_neg (by rw [key [108, 101, 97, 110, 114, 111, 119, 115] (by kernel_rfl) "leanrows" rfl]; decide)]
  rw [if_neg (by rw [key [111, 110, 101, 98, 117, 105, 108, 100] (by kernel_rfl) "onebuild" rfl]; decide)]
  rw [if_neg (by rw [key [112, 117, 98, 108, 105, 99, 115, 117, 109, 115] (by kernel_rfl) "publicsums" rfl]; decide)]
  rw [if_neg (by rw [key [101, 113, 103, 117, 97, 114, 100] (by kernel_rfl) "eqguard" rfl]; decide)]
  rw [if_neg (by rw [key [111, 119, 110, 117, 110, 115, 97, 102, 101] (by kernel_rfl) "ownunsafe" rfl]; decide)]
  rw [if_neg (by rw [key [108, 105, 98, 98, 101, 115, 105, 100, 101] (by kernel_rfl) "libbeside" rfl]; decide)]
  rw [if_neg (by rw [key [111, 119, 110, 98, 101, 115, 105, 100, 101] (by kernel_rfl) "ownbeside" rfl]; decide)]
  rw [if_neg (by rw [key [114, 101, 102, 108, 98, 101, 115, 105, 100, 101] (by kernel_rfl) "reflbeside" rfl]; decide)]
  rw [if_neg (by rw [key [97, 108, 105, 97, 115, 101, 115] (by kernel_rfl) "aliases" rfl]; decide)]
  rw [if_neg (by rw [key [97, 102, 116, 101, 114, 105, 110, 105, 116] (by kernel_rfl) "afterinit" rfl]; decide)]
  rw [if_neg (by rw [key [99, 114, 99, 112, 108, 97, 105, 110] (by kernel_rfl) "crcplain" rfl]; decide)]
  rw [if_neg (by rw [key [114, 111, 97, 100, 117, 110, 115, 97, 102, 101] (by kernel_rfl) "roadunsafe" rfl]; decide)]
  rw [if_neg (by rw [key [102, 109, 116, 104, 97, 110, 100, 111, 110] (by kernel_rfl) "fmthandon" rfl]; decide)]
theorem words {P : Program} {rest : List Char} (h : P.initOrder.toList = w1 ++ sp :: (w2 ++ sp :: (w3 ++ sp :: rest))) : behindMainWord (wordsSigns P.initOrder.toList) = w3 :: wordsSigns rest := by
  rw [h, ws_app w1 (by kernel_rfl), ws_app w2 (by kernel_rfl), ws_app w3 (by kernel_rfl)]
  unfold behindMainWord
  rw [k1]
  exact if_pos (by kernel_rfl)
theorem may {P : Program} {rest : List Char} (h : P.initOrder.toList = w1 ++ sp :: (w2 ++ sp :: (w3 ++ sp :: rest))) (hl : P.laysLater = false) (hb : P.bearsReflect = false) (hd : P.doorFits [] = true) : P.mayEnter = true := by
  unfold Program.mayEnter
  rw [words h]
  simp only [lifts, k2, k3, k4, k5, hl, hb, hd]
  have h1 : (w3 == chs [103, 99]) = false := by kernel_rfl
  have h2 : (w3 == chs [115, 112, 101, 99]) = false := by kernel_rfl
  have h3 : (w3 == chs [99, 97, 114, 114, 105, 101, 100]) = false := by kernel_rfl
  rw [h1, h2, h3]
  simp
theorem fin {P : Program} {rest : List Char} (h : P.initOrder.toList = w1 ++ sp :: (w2 ++ sp :: (w3 ++ sp :: rest))) : P.liftsFinal = false := by
  unfold Program.liftsFinal Program.headLifts
  rw [words h]
  simp only [lifts, k2, k5]
  have h3 : (w3 == chs [99, 97, 114, 114, 105, 101, 100]) = false := by kernel_rfl
  simp [h3]
theorem mk {P : Program} {rest : List Char} (h : P.initOrder.toList = w1 ++ sp :: (w2 ++ sp :: (w3 ++ sp :: rest))) : P.make = some .cut := by
  unfold Program.make
  rw [words h]
  simp only [k2, k3, k4, k5]
  have h1 : (w3 == chs [103, 99]) = false := by kernel_rfl
  have h2 : (w3 == chs [115, 112, 101, 99]) = false := by kernel_rfl
  rw [h1, h2]
  simp
theorem head : Try.pinned.checked.prog.initOrder = String.ofList (w1 ++ sp :: (w2 ++ sp :: (w3 ++ sp :: chs [97, 116, 32, 99, 104, 97, 110, 99, 101, 114, 121, 47, 99, 104, 97, 110, 99, 101, 114, 121, 107, 101, 101, 112, 49, 46, 83, 112, 97, 110, 83, 105, 122, 101, 115, 65, 100, 100, 32, 99, 104, 97, 110, 99, 101, 114, 121, 47, 99, 104, 97, 110, 99, 101, 114, 121, 107, 101, 101, 112, 49, 46, 65, 116, 116, 114, 85, 110, 100, 111, 82, 101, 115, 116, 111, 114, 101, 115, 32, 99, 104, 97, 110, 99, 101, 114, 121, 47, 99, 104, 97, 110, 99, 101, 114, 121, 107, 101, 101, 112, 49, 46, 65, 116, 116, 114, 66, 101, 116, 119, 101, 101, 110, 76, 101, 97, 100, 115, 32, 99, 104, 97, 110, 99, 101, 114, 121, 47, 99, 104, 97, 110, 99, 101, 114, 121, 107, 101, 101, 112, 49, 46, 65, 116, 116, 114, 80, 97, 105, 114, 77, 101, 101, 116, 115, 32, 99, 104, 97, 110, 99, 101, 114, 121, 47, 99, 104, 97, 110, 99, 101, 114, 121, 107, 101, 101, 112, 49, 46, 65, 120, 105, 115, 74, 111, 105, 110, 65, 115, 115, 111, 99, 105, 97, 116, 101, 115, 32, 99, 104, 97, 110, 99, 101, 114, 121, 47, 99, 104, 97, 110, 99, 101, 114, 121, 107, 101, 101, 112, 49, 46, 65, 120, 105, 115, 80, 97, 105, 114, 77, 101, 101, 116, 115, 32, 99, 104, 97, 110, 99, 101, 114, 121, 47, 99, 104, 97, 110, 99, 101, 114, 121, 107, 101, 101, 112, 49, 46, 65, 120, 105, 115, 80, 108, 97, 99, 101, 115, 75, 101, 101, 112, 79, 114, 100, 101, 114, 32, 99, 104, 97, 110, 99, 101, 114, 121, 47, 99, 104, 97, 110, 99, 101, 114, 121, 107, 101, 101, 112, 49, 46, 68, 101, 108, 116, 97, 84, 105, 100, 121, 65, 99, 116, 115, 32, 99, 104, 97, 110, 99, 101, 114, 121, 47, 99, 104, 97, 110, 99, 101, 114, 121, 107, 101, 101, 112, 49, 46, 68, 101, 108, 116, 97, 85, 110, 100, 111, 82, 101, 115, 116, 111, 114, 101, 115, 32, 99, 104, 97, 110, 99, 101, 114, 121, 47, 99, 104, 97, 110, 99, 101, 114, 121, 107, 101, 101, 112, 49, 46, 68, 101, 108, 116, 97, 74, 111, 105, 110, 65, 99, 116, 115, 32, 99, 104, 97, 110, 99, 101, 114, 121, 47, 99, 104, 97, 110, 99, 101, 114, 121, 107, 101, 101, 112, 49, 46, 68, 101, 108, 116, 97, 80, 97, 105, 114, 77, 101, 101, 116, 115, 32, 99, 104, 97, 110, 99, 101, 114, 121, 47, 99, 104, 97, 110, 99, 101, 114, 121, 107, 101, 101, 112, 49, 46, 68, 105, 102, 102, 66, 111, 116, 104, 87, 97, 121, 115, 32, 99, 104, 97, 110, 99, 101, 114, 121, 47, 99, 104, 97, 110, 99, 101, 114, 121, 107, 101, 101, 112, 49, 46, 84, 114, 97, 99, 107, 65, 99, 99, 101, 112, 116, 83, 104, 111, 119, 115, 32, 99, 104, 97, 110, 99, 101, 114, 121, 47, 99, 104, 97, 110, 99, 101, 114, 121, 107, 101, 101, 112, 49, 46, 83, 112, 97, 110, 84, 104, 114, 111, 117, 103, 104, 67, 111, 110, 116, 97, 105, 110, 115, 32, 99, 104, 97, 110, 99, 101, 114, 121, 47, 99, 104, 97, 110, 99, 101, 114, 121, 107, 101, 101, 112, 49, 46, 77, 101, 114, 103, 101, 79, 110, 101, 83, 105, 100, 101, 100, 32, 99, 104, 97, 110, 99, 101, 114, 121, 47, 99, 104, 97, 110, 99, 101, 114, 121, 107, 101, 101, 112, 49, 46, 77, 101, 114, 103, 101, 69, 120, 99, 104, 97, 110, 103, 101, 100, 32, 99, 104, 97, 110, 99, 101, 114, 121, 47, 99, 104, 97, 110, 99, 101, 114, 121, 107, 101, 101, 112, 49, 46, 68, 101, 108, 116, 97, 65, 120, 105, 115, 65, 103, 114, 101, 101, 115]))) := by kernel_rfl
set_option maxRecDepth 100000 in
theorem headL : Try.pinned.checked.prog.initOrder.toList = w1 ++ sp :: (w2 ++ sp :: (w3 ++ sp :: chs [97, 116, 32, 99, 104, 97, 110, 99, 101, 114, 121, 47, 99, 104, 97, 110, 99, 101, 114, 121, 107, 101, 101, 112, 49, 46, 83, 112, 97, 110, 83, 105, 122, 101, 115, 65, 100, 100, 32, 99, 104, 97, 110, 99, 101, 114, 121, 47, 99, 104, 97, 110, 99, 101, 114, 121, 107, 101, 101, 112, 49, 46, 65, 116, 116, 114, 85, 110, 100, 111, 82, 101, 115, 116, 111, 114, 101, 115, 32, 99, 104, 97, 110, 99, 101, 114, 121, 47, 99, 104, 97, 110, 99, 101, 114, 121, 107, 101, 101, 112, 49, 46, 65, 116, 116, 114, 66, 101, 116, 119, 101, 101, 110, 76, 101, 97, 100, 115, 32, 99, 104, 97, 110, 99, 101, 114, 121, 47, 99, 104, 97, 110, 99, 101, 114, 121, 107, 101, 101, 112, 49, 46, 65, 116, 116, 114, 80, 97, 105, 114, 77, 101, 101, 116, 115, 32, 99, 104, 97, 110, 99, 101, 114, 121, 47, 99, 104, 97, 110, 99, 101, 114, 121, 107, 101, 101, 112, 49, 46, 65, 120, 105, 115, 74, 111, 105, 110, 65, 115, 115, 111, 99, 105, 97, 116, 101, 115, 32, 99, 104, 97, 110, 99, 101, 114, 121, 47, 99, 104, 97, 110, 99, 101, 114, 121, 107, 101, 101, 112, 49, 46, 65, 120, 105, 115, 80, 97, 105, 114, 77, 101, 101, 116, 115, 32, 99, 104, 97, 110, 99, 101, 114, 121, 47, 99, 104, 97, 110, 99, 101, 114, 121, 107, 101, 101, 112, 49, 46, 65, 120, 105, 115, 80, 108, 97, 99, 101, 115, 75, 101, 101, 112, 79, 114, 100, 101, 114, 32, 99, 104, 97, 110, 99, 101, 114, 121, 47, 99, 104, 97, 110, 99, 101, 114, 121, 107, 101, 101, 112, 49, 46, 68, 101, 108, 116, 97, 84, 105, 100, 121, 65, 99, 116, 115, 32, 99, 104, 97, 110, 99, 101, 114, 121, 47, 99, 104, 97, 110, 99, 101, 114, 121, 107, 101, 101, 112, 49, 46, 68, 101, 108, 116, 97, 85, 110, 100, 111, 82, 101, 115, 116, 111, 114, 101, 115, 32, 99, 104, 97, 110, 99, 101, 114, 121, 47, 99, 104, 97, 110, 99, 101, 114, 121, 107, 101, 101, 112, 49, 46, 68, 101, 108, 116, 97, 74, 111, 105, 110, 65, 99, 116, 115, 32, 99, 104, 97, 110, 99, 101, 114, 121, 47, 99, 104, 97, 110, 99, 101, 114, 121, 107, 101, 101, 112, 49, 46, 68, 101, 108, 116, 97, 80, 97, 105, 114, 77, 101, 101, 116, 115, 32, 99, 104, 97, 110, 99, 101, 114, 121, 47, 99, 104, 97, 110, 99, 101, 114, 121, 107, 101, 101, 112, 49, 46, 68, 105, 102, 102, 66, 111, 116, 104, 87, 97, 121, 115, 32, 99, 104, 97, 110, 99, 101, 114, 121, 47, 99, 104, 97, 110, 99, 101, 114, 121, 107, 101, 101, 112, 49, 46, 84, 114, 97, 99, 107, 65, 99, 99, 101, 112, 116, 83, 104, 111, 119, 115, 32, 99, 104, 97, 110, 99, 101, 114, 121, 47, 99, 104, 97, 110, 99, 101, 114, 121, 107, 101, 101, 112, 49, 46, 83, 112, 97, 110, 84, 104, 114, 111, 117, 103, 104, 67, 111, 110, 116, 97, 105, 110, 115, 32, 99, 104, 97, 110, 99, 101, 114, 121, 47, 99, 104, 97, 110, 99, 101, 114, 121, 107, 101, 101, 112, 49, 46, 77, 101, 114, 103, 101, 79, 110, 101, 83, 105, 100, 101, 100, 32, 99, 104, 97, 110, 99, 101, 114, 121, 47, 99, 104, 97, 110, 99, 101, 114, 121, 107, 101, 101, 112, 49, 46, 77, 101, 114, 103, 101, 69, 120, 99, 104, 97, 110, 103, 101, 100, 32, 99, 104, 97, 110, 99, 101, 114, 121, 47, 99, 104, 97, 110, 99, 101, 114, 121, 107, 101, 101, 112, 49, 46, 68, 101, 108, 116, 97, 65, 120, 105, 115, 65, 103, 114, 101, 101, 115])) := by rw [head, tl]
theorem later : Try.pinned.checked.prog.laysLater = false := by kernel_rfl
theorem refl : Try.pinned.checked.prog.bearsReflect = false := by kernel_rfl
theorem door : Try.pinned.checked.prog.doorFits [] = true := by kernel_rfl
theorem mayEnter : Try.pinned.checked.prog.mayEnter = true := may headL later refl door
theorem made : Try.pinned.checked.prog.make = some .cut := mk headL
theorem laid : laidOutB Try.pinned.checked.prog = true := by kernel_rfl
theorem rowed : mapsRowed Try.pinned.checked.prog = true := by kernel_rfl
theorem noStops : Try.pinned.checked.prog.stops = [] := by kernel_rfl
theorem noKnobs : Try.pinned.checked.prog.stopKnobs = [] := by kernel_rfl
theorem heard : Try.pinned.checked.prog.stopsHeard = true := by kernel_rfl
theorem keys : Try.pinned.checked.prog.plainKeys = true := by kernel_rfl
theorem liftsNo : Try.pinned.checked.prog.liftsFinal = false := fin headL
end Go.Proofs.Ytbdbibmbfmlobaa.frame
end
section
set_option linter.unusedVariables false
namespace Go.Ab
open Go Go.Proofs.Ytbdbibmbfmlobaa
variable {P : Program} {W : World}

def RdM (P : Program) (t : TypeId) (k : Nat) {α : Type} (f : α → Tree) (μ : α → Nat) : Prop :=
  (∀ a, Elt k (f a)) ∧ P.cellsOf t = k ∧ ∀ (H : Type) (enc : TypeId × Value → H) (W : World) (fuel : Nat) (cs : List Value) (x : DataW H × List MemPlace),
    DataW.trod enc P W 0 (fun _ => true) true fuel t cs = some x → ∃ a : α, CellsR W (f a).cells cs ∧ μ a ≤ Rows.uptoBulk x.1

theorem bulk_pos {H : Type} (d : DataW H) : 1 ≤ Rows.uptoBulk d := by
  cases d with
  | lit l => cases l <;> simp [Rows.uptoBulk]
  | _ => simp [Rows.uptoBulk]

theorem RdM.int {t : TypeId} {k : IntKind} (ht : P.underlying t = some (.int k)) (hc : P.cellsOf t = 1) : RdM P t 1 (fun z : Int => .sc (.int k z)) (fun _ => 1) := by
  refine ⟨fun _ => elt1, hc, fun H enc W fuel cs x h => ?_⟩
  obtain ⟨n, rfl, _, _⟩ := DataW.trod_int ht h
  exact ⟨n, cells1 rfl (.sc _ rfl), bulk_pos _⟩
/-- An integer with its bounds. -/
theorem RdM.i64 {t : TypeId} (ht : P.underlying t = some (.int .i64)) (hc : P.cellsOf t = 1) : RdM P t 1 (fun z : { z : Int // -9223372036854775808 ≤ z ∧ z ≤ 9223372036854775807 } => .sc (.int .i64 z.1)) (fun _ => 1) := by
  refine ⟨fun _ => elt1, hc, fun H enc W fuel cs x h => ?_⟩
  obtain ⟨n, rfl, _, hw⟩ := DataW.trod_int ht h
  exact ⟨⟨n, by simpa [Lit.wf, IntKind.min, IntKind.max, IntKind.signed, IntKind.bits] using hw⟩, cells1 rfl (.sc _ rfl), bulk_pos _⟩
theorem RdM.bool {t : TypeId} (ht : P.underlying t = some .bool) (hc : P.cellsOf t = 1) : RdM P t 1 (fun b : Bool => .sc (.bool b)) (fun _ => 1) := by
  refine ⟨fun _ => elt1, hc, fun H enc W fuel cs x h => ?_⟩
  obtain ⟨n, rfl, _⟩ := DataW.trod_bool ht h
  exact ⟨n, cells1 rfl (.sc _ rfl), bulk_pos _⟩
theorem RdM.str {t : TypeId} (ht : P.underlying t = some .string) (hc : P.cellsOf t = 1) : RdM P t 1 (fun s : ByteArray => .sc (.string s)) (fun s => s.size + 1) := by
  refine ⟨fun _ => elt1, hc, fun H enc W fuel cs x h => ?_⟩
  obtain ⟨n, rfl, rfl, _⟩ := DataW.trod_string ht h
  exact ⟨n, cells1 rfl (.sc _ rfl), by simp [Rows.uptoBulk]⟩

theorem sum_le {α H : Type} {μ : α → Nat} : ∀ {l : List α} {es : List (DataW H)}, l.length = es.length → (∀ (i : Nat) (a : α) (d : DataW H), l[i]? = some a → es[i]? = some d → μ a ≤ Rows.uptoBulk d) → (l.map μ).sum ≤ Rows.uptoBulkAll es
  | [], es, _, _ => by simp
  | a :: l, [], h, _ => by simp at h
  | a :: l, d :: es, h, hi => by
    have h0 := hi 0 a d rfl rfl
    have ih := sum_le (l := l) (es := es) (by simpa using h) (fun i a' d' h1 h2 => hi (i + 1) a' d' (by simpa using h1) (by simpa using h2))
    simp only [List.map_cons, List.sum_cons, Rows.uptoBulkAll]
    omega

theorem RdM.slice {t e : TypeId} {k : Nat} {α : Type} {f : α → Tree} {μ : α → Nat} (ht : P.underlying t = some (.slice e)) (hk : 0 < k) (hc : P.cellsOf t = 1) (he : RdM P e k f μ) : RdM P t 1 (fun l : List α => .lst k (l.map f)) (fun l => (l.map μ).sum + 1) := by
  obtain ⟨h1, h2, h3⟩ := he
  refine ⟨fun l => ⟨rfl, fun T hT => by simp [Tree.cells] at hT; subst hT; rfl⟩, hc, fun H enc W fuel cs x h => ?_⟩
  have hx : ∀ l : List α, ∀ x ∈ l.map f, Elt k x := fun l x hx => by
    obtain ⟨a, _, rfl⟩ := List.mem_map.1 hx
    exact h1 a
  rcases DataW.trod_slice ht h with ⟨rfl, hx0⟩ | ⟨a, len, cap, elems, rest, n, _, rfl, hxe, hb, hl, hm, hlen, hel, _, _⟩
  · refine ⟨[], cells1 rfl (.lst k [] none 0 [] hk (fun x hx => by simp at hx) (Nat.le_refl _) (by simp [maxLen]) (fun h => absurd rfl h) (by simp) (fun j T u hT => by simp [flat] at hT)), ?_⟩
    exact bulk_pos _
  · have key : ∀ i, i < len → ∃ y : α, (∃ cs', cs'.length = k ∧ (∀ r, r < k → W.cell? (a.add (i * k + r)) = cs'[r]?) ∧ CellsR W (f y).cells cs') ∧ ∀ d, (elems.map (·.1))[i]? = some d → μ y ≤ Rows.uptoBulk d := by
      intro i hi
      have h4 := hel i hi
      have h5 : elems[i]? = some elems[i] := by rw [List.getElem?_eq_getElem (by omega)]
      rw [h5, h2] at h4
      obtain ⟨cs', h6, h7⟩ := Option.bind_eq_some_iff.1 h4
      obtain ⟨q1, q2, q3⟩ := World.cells?_some h6
      obtain ⟨y, hy, hμ⟩ := h3 H enc W n cs' _ h7
      refine ⟨y, ⟨cs', q2, fun r hr => ?_, hy⟩, fun d hd => ?_⟩
      · rw [← q3 r hr]
        rw [Addr.add_add]
      · rw [List.getElem?_map, h5] at hd
        simp only [Option.map_some, Option.some.injEq] at hd
        subst hd; exact hμ
    obtain ⟨l, hl1, hl2'⟩ := list_of len _ key
    have hl2 := fun i a h => (hl2' i a h).1
    have hspot : l ≠ [] → ∃ u, W.cell? a = some u := by
      intro hne
      have h0 : 0 < len := by rw [← hl1]; exact List.length_pos_iff.2 hne
      obtain ⟨cs', c1, c2, c3⟩ := hl2 0 l[0] (by rw [List.getElem?_eq_getElem (by omega)])
      have := c2 0 hk
      simp only [Nat.zero_mul, Nat.add_zero] at this
      rw [List.getElem?_eq_getElem (by omega)] at this
      have e : a.add 0 = a := by simp [Addr.add]
      rw [e] at this
      exact ⟨_, this⟩
    refine ⟨l, cells1 rfl ?_, ?_⟩
    rotate_left
    · rw [hxe]
      simp only [Rows.uptoBulk]
      have := sum_le (μ := μ) (l := l) (es := elems.map (·.1)) (by simp [hl1, hlen]) (fun i y d h1 h2 => (hl2' i y h1).2 d h2)
      omega
    have hget : ∀ j, j < len * k → ∃ u, W.cell? (a.add j) = some u ∧ ∀ T, (flat (l.map f))[j]? = some T → TRep W (fun b => b < W.heap.size) T u := by
      intro j hj
      have hi : j / k < len := Nat.div_lt_of_lt_mul (by rw [Nat.mul_comm]; exact hj)
      have hr : j % k < k := Nat.mod_lt _ hk
      have hji : j = j / k * k + j % k := by rw [Nat.mul_comm]; exact (Nat.div_add_mod j k).symm
      obtain ⟨cs', c1, c2, c3⟩ := hl2 (j / k) l[j / k] (by rw [List.getElem?_eq_getElem (by omega)])
      have c4 := c2 (j % k) hr
      rw [← hji, List.getElem?_eq_getElem (by omega)] at c4
      refine ⟨_, c4, fun T hT => ?_⟩
      rw [hji, flat_get (hx l) (i := j / k) (X := f l[j / k]) (by simp [List.getElem?_eq_getElem (show j / k < l.length by omega)]) hr] at hT
      exact c3.2 (j % k) T _ hT (by rw [List.getElem?_eq_getElem (by omega)])
    obtain ⟨us, hu1, hu2⟩ := list_of (len * k) _ hget
    have hlm : (l.map f).length = len := by simp [hl1]
    have := TRep.lst (w := W) (ok := fun b => b < W.heap.size) k (l.map f) (some a) cap us hk (hx l) (by omega) hm (fun hne => ?_) (by rw [hlm]; exact hu1) (fun j T u hT hu => (hu2 j u hu).2 T hT)
    · rw [hlm] at this; exact this
    · obtain ⟨u, hu⟩ := hspot (fun e => hne (by rw [e]; rfl))
      have hs := World.cell?_spot hu
      obtain ⟨b, o, sp⟩ := a
      simp only at hs
      subst hs
      refine ⟨b, o, rfl, ?_, fun j u hj => ?_⟩
      · simp only [World.cell?] at hu
        by_cases hb : b < W.heap.size
        · exact hb
        · rw [Array.getElem?_eq_none (by omega)] at hu; simp at hu
      · have := (hu2 j u hj).1
        rw [add_lit'] at this
        exact this

theorem RdM.map {t : TypeId} {k : Nat} {α β : Type} {f : α → Tree} {μ : α → Nat} {f' : β → Tree} {μ' : β → Nat} (h : RdM P t k f μ) (g : α → β) (hf : ∀ a, f' (g a) = f a) (hm : ∀ a, μ' (g a) ≤ μ a) (he : ∀ b, Elt k (f' b)) : RdM P t k f' μ' := by
  obtain ⟨h1, h2, h3⟩ := h
  refine ⟨he, h2, fun H enc W fuel cs x hx => ?_⟩
  obtain ⟨a, ha, hb⟩ := h3 H enc W fuel cs x hx
  exact ⟨g a, by rw [hf]; exact ha, Nat.le_trans (hm a) hb⟩

/-- The fields of a struct, from a cell on. -/
def RdFM (P : Program) (off : Nat) (fs : List Field) (k : Nat) {β : Type} (g : β → List Tree) (μ : β → Nat) : Prop :=
  (∀ b, (g b).length = k ∧ ∀ T ∈ g b, T.isCell = true) ∧ ∀ (H : Type) (enc : TypeId × Value → H) (W : World) (n : Nat) (cs : List Value) (ys : List (DataW H × List MemPlace)),
    ys.length = fs.length → (∀ (i : Nat) (f : Field), fs[i]? = some f → DataW.trod enc P W 0 (fun _ => true) true n f.type ((cs.drop f.offset).take (P.cellsOf f.type)) = ys[i]?) →
    ∃ b : β, (∀ (j : Nat) (T : Tree) (u : Value), (g b)[j]? = some T → cs[off + j]? = some u → TRep W (fun b => b < W.heap.size) T u) ∧ μ b ≤ Rows.uptoBulkAll (ys.map (·.1))
theorem RdFM.nil {off : Nat} : RdFM P off [] 0 (fun _ : Unit => []) (fun _ => 0) :=
  ⟨fun _ => ⟨rfl, fun T hT => by simp at hT⟩, fun H enc W n cs ys h1 h2 => ⟨(), fun j T u hT => by simp at hT, Nat.zero_le _⟩⟩
theorem RdFM.cons {off : Nat} {f : Field} {fs : List Field} {k1 k2 : Nat} {α β : Type} {f1 : α → Tree} {μ1 : α → Nat} {g2 : β → List Tree} {μ2 : β → Nat} (ho : f.offset = off) (h : RdM P f.type k1 f1 μ1) (hs : RdFM P (off + k1) fs k2 g2 μ2) : RdFM P off (f :: fs) (k1 + k2) (fun p : α × β => (f1 p.1).cells ++ g2 p.2) (fun p => μ1 p.1 + μ2 p.2) := by
  obtain ⟨h1, h2, h3⟩ := h
  obtain ⟨s1, s2⟩ := hs
  refine ⟨fun p => ⟨by rw [List.length_append, (h1 p.1).1, (s1 p.2).1], fun T hT => ?_⟩, fun H enc W n cs ys hl hy => ?_⟩
  · rcases List.mem_append.1 hT with hT | hT
    · exact (h1 p.1).2 T hT
    · exact (s1 p.2).2 T hT
  · cases ys with
    | nil => simp at hl
    | cons y ys =>
      have e0 := hy 0 f rfl
      simp only [List.getElem?_cons_zero, ho, h2] at e0
      obtain ⟨a, ⟨ha1, ha2⟩, ha3⟩ := h3 H enc W n _ _ e0
      obtain ⟨b, hb, hb3⟩ := s2 H enc W n cs ys (by simpa using hl) (fun i f' hf => by simpa using hy (i + 1) f' (by simpa using hf))
      refine ⟨(a, b), fun j T u hT hu => ?_, by simp only [List.map_cons, Rows.uptoBulkAll]; omega⟩
      by_cases hj : j < (f1 a).cells.length
      · rw [List.getElem?_append_left hj] at hT
        have hk : j < k1 := by rw [(h1 a).1] at hj; exact hj
        refine ha2 j T u hT ?_
        rw [List.getElem?_take, if_pos hk, List.getElem?_drop]
        exact hu
      · rw [List.getElem?_append_right (by show (f1 a).cells.length ≤ j; omega)] at hT
        rw [(h1 a).1] at hj hT
        refine hb (j - k1) T u hT ?_
        rw [← hu]; congr 1; omega
theorem RdM.struct {t : TypeId} {fs : Array Field} {k : Nat} {β : Type} {g : β → List Tree} {μ : β → Nat} (ht : P.underlying t = some (.struct fs)) (hc : P.cellsOf t = k) (h : RdFM P 0 fs.toList k g μ) : RdM P t k (fun b => .agg (g b)) (fun b => μ b + 1) := by
  obtain ⟨s1, s2⟩ := h
  refine ⟨fun b => s1 b, hc, fun H enc W fuel cs x hx => ?_⟩
  obtain ⟨xs, n, _, hxe, hl, hlen, hf⟩ := DataW.trod_struct ht hx
  obtain ⟨b, hb, hμ⟩ := s2 H enc W n cs xs (by simpa using hlen) (fun i f hi => hf i f (by simpa using hi))
  refine ⟨b, ⟨by rw [hl, hc]; exact (s1 b).1.symm, fun j T u hT hu => hb j T u hT (by simpa using hu)⟩, ?_⟩
  rw [hxe]; simp only [Rows.uptoBulk]; omega

/-- A one-cell argument. -/
theorem RdM.arg {t : TypeId} {α : Type} {f : α → Tree} {μ : α → Nat} (h : RdM P t 1 f μ) (h1 : ∀ a, (f a).isCell = true) {H : Type} {enc : TypeId × Value → H} {v : Value} {d : DataW H} {ps : List MemPlace} (hd : DataW.Trod enc P W 0 (fun _ => true) true t v d ps) (hv : v.cells.toList = [v]) :
    ∃ a, TRep W (fun b => b < W.heap.size) (f a) v ∧ μ a ≤ Rows.uptoBulk d := by
  obtain ⟨fuel, hf⟩ := hd
  obtain ⟨a, ⟨c1, c2⟩, c3⟩ := h.2.2 H enc W fuel _ _ hf
  refine ⟨a, c2 0 _ _ ?_ (by rw [hv]; rfl), c3⟩
  cases hfa : f a with
  | agg cs => have := h1 a; rw [hfa] at this; cases this
  | sc v => rfl
  | lst k xs => rfl
theorem bulk_bound {H : Type} {l : List (DataW H)} (hk : Rows.uptoSmall H l = true) : Rows.uptoBulkAll l ≤ 1048576 := of_decide_eq_true hk
theorem sum_mem {α : Type} {μ : α → Nat} {l : List α} {a : α} (h : a ∈ l) : μ a ≤ (l.map μ).sum := by
  induction l with
  | nil => cases h
  | cons b l ih =>
    simp only [List.map_cons, List.sum_cons]
    rcases List.mem_cons.1 h with rfl | h
    · omega
    · have := ih h; omega
theorem sum_len {α : Type} {μ : α → Nat} (hμ : ∀ a, 1 ≤ μ a) (l : List α) : l.length ≤ (l.map μ).sum := by
  induction l with
  | nil => simp
  | cons b l ih => have := hμ b; simp only [List.map_cons, List.sum_cons, List.length_cons]; omega
end Go.Ab
end
