/- The loops of Join, Pair and Undo: what every round keeps. -/
import Derived.Test.YtbdbibmbfmlobaaChAxis3
set_option linter.unusedVariables false
set_option linter.unusedSimpArgs false
namespace Go.Ch
open Go Go.Ab

theorem kindR_cases {l : List AxStep} {u : Int} (h : GoodR l u) : (kindR l = -1 ∧ l.length = 0) ∨ (0 < l.length ∧ kindR l = (l.getD 0 default).kind ∧ 0 ≤ (l.getD 0 default).kind ∧ (l.getD 0 default).kind ≤ 2 ∧
    1 ≤ (l.getD 0 default).n - u ∧ 0 ≤ u ∧ (l.getD 0 default).n - u ≤ (ru l u).length ∧ (l.getD 0 default).n ≤ (ex l).length) := by
  by_cases h0 : l.length = 0
  · left; exact ⟨by unfold kindR; rw [if_pos h0], h0⟩
  · right
    have hp : 0 < l.length := by omega
    have ok := h.ok hp
    have h1 := h.lt hp
    refine ⟨hp, by unfold kindR; rw [if_neg h0], ok.1, ok.2.1, by omega, h.pos, ?_, ?_⟩
    · rw [ru_cons h hp]
      simp only [List.length_append, List.length_replicate]
      omega
    · refine n_le ?_
      rw [show l.getD 0 default = l[0] by simp [List.getD, List.getElem?_eq_getElem hp]]
      exact List.getElem_mem _
theorem tk_len (l : List AxStep) (u n : Int) : (ex (tkS l u n)).length ≤ (ex l).length := by
  unfold tkS
  split
  · cases l with
    | nil => simp
    | cons s l => simp [ex]
  · exact Nat.le_refl _
theorem tk_ok {l : List AxStep} {u n : Int} (h : GoodR l u) (h0 : 0 < l.length) (hn : 0 ≤ n) (hl : n ≤ (l.getD 0 default).n - u) :
    GoodR (tkS l u n) (tkU l u n) ∧ rep n.toNat (uOf (l.getD 0 default).kind) ++ ru (tkS l u n) (tkU l u n) = ru l u := by
  obtain ⟨a, b⟩ := h.take h0 hn hl
  unfold tkS tkU
  by_cases e : u + n = (l.getD 0 default).n
  · rw [if_pos e, if_pos e]; exact a e
  · rw [if_neg e, if_neg e]; exact b e

structure JI (w : Wr) (ps : List AxStep) (pu : Int) (qs : List AxStep) (qu : Int) (T : Nat) (G : Wr) : Prop where
  gw : GoodW w
  gp : GoodR ps pu
  gq : GoodR qs qu
  eq : newU (ru ps pu) = oldU (ru qs qu)
  len : (exW w).length + (ru ps pu).length + (ru qs qu).length ≤ T
  fin : foldW w (joinU (ru ps pu) (ru qs qu)) = G
  lp : (ex ps).length ≤ T
  lq : (ex qs).length ≤ T
def jm (ps : List AxStep) (pu : Int) (qs : List AxStep) (qu : Int) : Nat := (ru ps pu).length + (ru qs qu).length
theorem len_rep {n : Int} {k : Int} {u v : List U} (hn : 0 ≤ n) (h : rep n.toNat (uOf k) ++ u = v) : (u.length : Int) + n = v.length := by
  have := congrArg List.length h
  simp only [List.length_append, List.length_replicate] at this
  omega
section
variable {w : Wr} {ps qs : List AxStep} {pu qu : Int} {T : Nat} {G : Wr}
theorem JI.cut (h : JI w ps pu qs qu T G) (h0 : 0 < ps.length) (hk : (ps.getD 0 default).kind = 2) :
    JI (putW w 2 ((ps.getD 0 default).n - pu)) (tkS ps pu ((ps.getD 0 default).n - pu)) (tkU ps pu ((ps.getD 0 default).n - pu)) qs qu T G ∧
    jm (tkS ps pu ((ps.getD 0 default).n - pu)) (tkU ps pu ((ps.getD 0 default).n - pu)) qs qu < jm ps pu qs qu := by
  have hl := h.gp.lt h0
  obtain ⟨g, e⟩ := tk_ok (n := (ps.getD 0 default).n - pu) h.gp h0 (by omega) (Int.le_refl _)
  have tl := tk_len ps pu ((ps.getD 0 default).n - pu)
  generalize hn : (ps.getD 0 default).n - pu = n at *
  generalize tkS ps pu n = ps' at *
  generalize tkU ps pu n = pu' at *
  rw [hk, uOf2] at e
  have e2 := len_rep (k := 2) (by omega) e
  obtain ⟨p1, p2, p3⟩ := putW_ok (k := 2) (n := n) h.gw (by decide) (by omega)
  have hlen := h.len
  refine ⟨⟨p1, g, h.gq, ?_, by omega, ?_, Nat.le_trans tl h.lp, h.lq⟩, by unfold jm; omega⟩
  · rw [← h.eq, ← e, new_C]
  · rw [← h.fin, ← e, jc_C, foldW_app, ← uOf2, putI (by decide) (by omega)]
theorem JI.add (h : JI w ps pu qs qu T G) (hp : 0 < ps.length → (ps.getD 0 default).kind ≠ 2) (h0 : 0 < qs.length) (hk : (qs.getD 0 default).kind = 1) :
    JI (putW w 1 ((qs.getD 0 default).n - qu)) ps pu (tkS qs qu ((qs.getD 0 default).n - qu)) (tkU qs qu ((qs.getD 0 default).n - qu)) T G ∧
    jm ps pu (tkS qs qu ((qs.getD 0 default).n - qu)) (tkU qs qu ((qs.getD 0 default).n - qu)) < jm ps pu qs qu := by
  have hl := h.gq.lt h0
  obtain ⟨g, e⟩ := tk_ok (n := (qs.getD 0 default).n - qu) h.gq h0 (by omega) (Int.le_refl _)
  have tl := tk_len qs qu ((qs.getD 0 default).n - qu)
  generalize hn : (qs.getD 0 default).n - qu = n at *
  generalize tkS qs qu n = qs' at *
  generalize tkU qs qu n = qu' at *
  rw [hk, uOf1] at e
  have e2 := len_rep (k := 1) (by omega) e
  obtain ⟨p1, p2, p3⟩ := putW_ok (k := 1) (n := n) h.gw (by decide) (by omega)
  have hlen := h.len
  refine ⟨⟨p1, h.gp, g, ?_, by omega, ?_, h.lp, Nat.le_trans tl h.lq⟩, by unfold jm; omega⟩
  · rw [h.eq, ← e, old_A]
  · rw [← h.fin, ← e, jc_A _ (noC_ru h.gp hp), foldW_app, ← uOf1, putI (by decide) (by omega)]
theorem JI.two (h : JI w ps pu qs qu T G) (hp : 0 < ps.length → (ps.getD 0 default).kind ≠ 2) (hq : 0 < qs.length → (qs.getD 0 default).kind ≠ 1) (h0 : 0 < ps.length ∨ 0 < qs.length) : 0 < ps.length ∧ 0 < qs.length := by
  have heq := h.eq
  by_cases a : 0 < ps.length
  · refine ⟨a, ?_⟩
    by_cases b : 0 < qs.length
    · exact b
    · exfalso
      rw [ru_nil (l := qs) (by omega), ru_cons h.gp a] at heq
      have := new_rep ((ps.getD 0 default).n - pu).toNat (ps.getD 0 default).kind (ex (ps.drop 1))
      rw [if_neg (hp a)] at this
      have := h.gp.lt a
      simp only [oldU] at heq
      omega
  · exfalso
    have b : 0 < qs.length := by omega
    rw [ru_nil (l := ps) (by omega), ru_cons h.gq b] at heq
    have := old_rep ((qs.getD 0 default).n - qu).toNat (qs.getD 0 default).kind (ex (qs.drop 1))
    rw [if_neg (hq b)] at this
    have := h.gq.lt b
    simp only [newU] at heq
    omega
theorem JI.both (h : JI w ps pu qs qu T G) (a : 0 < ps.length) (b : 0 < qs.length) (hp : (ps.getD 0 default).kind ≠ 2) (hq : (qs.getD 0 default).kind ≠ 1) {n : Int} (hn : n = min ((ps.getD 0 default).n - pu) ((qs.getD 0 default).n - qu)) :
    JI (if (ps.getD 0 default).kind = 0 then putW w (qs.getD 0 default).kind n else if (qs.getD 0 default).kind = 0 then putW w 1 n else w) (tkS ps pu n) (tkU ps pu n) (tkS qs qu n) (tkU qs qu n) T G ∧
    jm (tkS ps pu n) (tkU ps pu n) (tkS qs qu n) (tkU qs qu n) < jm ps pu qs qu := by
  have hl := h.gp.lt a
  have hl2 := h.gq.lt b
  have okp := h.gp.ok a
  have okq := h.gq.ok b
  obtain ⟨g1, e1⟩ := tk_ok (n := n) h.gp a (by omega) (by omega)
  obtain ⟨g2, e2⟩ := tk_ok (n := n) h.gq b (by omega) (by omega)
  have tl1 := tk_len ps pu n
  have tl2 := tk_len qs qu n
  have n0 : 1 ≤ n := by omega
  clear hn
  generalize tkS ps pu n = ps' at *
  generalize tkU ps pu n = pu' at *
  generalize tkS qs qu n = qs' at *
  generalize tkU qs qu n = qu' at *
  have l1 := len_rep (by omega) e1
  have l2 := len_rep (by omega) e2
  have hlen := h.len
  have heq := h.eq
  have hfin := h.fin
  rw [← e1, ← e2] at heq hfin
  have t1 := new_rep n.toNat (ps.getD 0 default).kind (ru ps' pu')
  have t2 := old_rep n.toNat (qs.getD 0 default).kind (ru qs' qu')
  rw [if_neg hp] at t1
  rw [if_neg hq] at t2
  have heq' : newU (ru ps' pu') = oldU (ru qs' qu') := by omega
  refine ⟨?_, by unfold jm; omega⟩
  by_cases kp : (ps.getD 0 default).kind = 0
  · rw [if_pos kp]
    obtain ⟨p1, p2, p3⟩ := putW_ok (k := (qs.getD 0 default).kind) (n := n) h.gw ⟨okq.1, okq.2.1⟩ (by omega)
    refine ⟨p1, g1, g2, heq', by omega, ?_, Nat.le_trans tl1 h.lp, Nat.le_trans tl2 h.lq⟩
    rw [kp, uOf0, jc_K _ _ hq, foldW_app, putI ⟨okq.1, okq.2.1⟩ (by omega)] at hfin
    exact hfin
  · rw [if_neg kp]
    have kp1 : (ps.getD 0 default).kind = 1 := by have := okp.1; have := okp.2.1; omega
    rw [kp1, uOf1] at hfin
    by_cases kq : (qs.getD 0 default).kind = 0
    · rw [if_pos kq]
      obtain ⟨p1, p2, p3⟩ := putW_ok (k := 1) (n := n) h.gw (by decide) (by omega)
      refine ⟨p1, g1, g2, heq', by omega, ?_, Nat.le_trans tl1 h.lp, Nat.le_trans tl2 h.lq⟩
      rw [kq, uOf0, jc_AK, foldW_app, ← uOf1, putI (by decide) (by omega)] at hfin
      exact hfin
    · rw [if_neg kq]
      have kq2 : (qs.getD 0 default).kind = 2 := by have := okq.1; have := okq.2.1; omega
      refine ⟨h.gw, g1, g2, heq', by omega, ?_, Nat.le_trans tl1 h.lp, Nat.le_trans tl2 h.lq⟩
      rw [kq2, uOf2, jc_AC] at hfin
      exact hfin
theorem JI.done (h : JI w ps pu qs qu T G) (a : ps.length = 0) (b : qs.length = 0) : w = G := by
  have := h.fin
  rw [ru_nil a, ru_nil b] at this
  simpa [joinU, foldW] using this
end
def joinX (a b : List AxStep) : List AxStep := doneW (joinU (ex a) (ex b))
theorem JI.start {a b : List AxStep} (va : Valid a) (vb : Valid b) (hm : newI a = oldI b) : JI ⟨[], 0, 0⟩ a 0 b 0 ((ex a).length + (ex b).length) (foldW ⟨[], 0, 0⟩ (joinU (ex a) (ex b))) ∧ (ex a).length + (ex b).length ≤ 8589934588 := by
  have h1 := ex_len a
  have h2 := ex_len b
  refine ⟨⟨good0, good_r va.1, good_r vb.1, ?_, by rw [ru0, ru0]; simp [exW, ex], by rw [ru0, ru0], by omega, by omega⟩, by have := va.2.1; have := va.2.2; have := vb.2.1; have := vb.2.2; omega⟩
  rw [ru0, ru0]; unfold newI oldI at hm; omega

/-! ### Two writers -/
structure PI (x y : Wr) (ps : List AxStep) (pu : Int) (qs : List AxStep) (qu : Int) (T : Nat) (G1 G2 : Wr) : Prop where
  gx : GoodW x
  gy : GoodW y
  gp : GoodR ps pu
  gq : GoodR qs qu
  eq : oldU (ru ps pu) = oldU (ru qs qu)
  len1 : (exW x).length + (ru ps pu).length + (ru qs qu).length ≤ T
  len2 : (exW y).length + (ru ps pu).length + (ru qs qu).length ≤ T
  fin1 : foldW x (pairU (ru ps pu) (ru qs qu)).1 = G1
  fin2 : foldW y (pairU (ru ps pu) (ru qs qu)).2 = G2
  lp : (ex ps).length ≤ T
  lq : (ex qs).length ≤ T
section
variable {x y : Wr} {ps qs : List AxStep} {pu qu : Int} {T : Nat} {G1 G2 : Wr}
theorem PI.addP (h : PI x y ps pu qs qu T G1 G2) (h0 : 0 < ps.length) (hk : (ps.getD 0 default).kind = 1) :
    PI (putW x 1 ((ps.getD 0 default).n - pu)) (putW y 0 ((ps.getD 0 default).n - pu)) (tkS ps pu ((ps.getD 0 default).n - pu)) (tkU ps pu ((ps.getD 0 default).n - pu)) qs qu T G1 G2 ∧
    jm (tkS ps pu ((ps.getD 0 default).n - pu)) (tkU ps pu ((ps.getD 0 default).n - pu)) qs qu < jm ps pu qs qu := by
  have hl := h.gp.lt h0
  obtain ⟨g, e⟩ := tk_ok (n := (ps.getD 0 default).n - pu) h.gp h0 (by omega) (Int.le_refl _)
  have tl := tk_len ps pu ((ps.getD 0 default).n - pu)
  generalize hn : (ps.getD 0 default).n - pu = n at *
  generalize tkS ps pu n = ps' at *
  generalize tkU ps pu n = pu' at *
  rw [hk, uOf1] at e
  have e2 := len_rep (k := 1) (by omega) e
  obtain ⟨p1, p2, p3⟩ := putW_ok (k := 1) (n := n) h.gx (by decide) (by omega)
  obtain ⟨r1, r2, r3⟩ := putW_ok (k := 0) (n := n) h.gy (by decide) (by omega)
  have hlen := h.len1
  have hlen2 := h.len2
  have f1 := h.fin1
  have f2 := h.fin2
  rw [← e, pc_A, foldW_app, ← uOf1, putI (by decide) (by omega)] at f1
  rw [← e, pc_A, foldW_app, ← uOf0, putI (by decide) (by omega)] at f2
  refine ⟨⟨p1, r1, g, h.gq, ?_, by omega, by omega, f1, f2, Nat.le_trans tl h.lp, h.lq⟩, by unfold jm; omega⟩
  rw [← h.eq, ← e, old_A]
theorem PI.addQ (h : PI x y ps pu qs qu T G1 G2) (hp : 0 < ps.length → (ps.getD 0 default).kind ≠ 1) (h0 : 0 < qs.length) (hk : (qs.getD 0 default).kind = 1) :
    PI (putW x 0 ((qs.getD 0 default).n - qu)) (putW y 1 ((qs.getD 0 default).n - qu)) ps pu (tkS qs qu ((qs.getD 0 default).n - qu)) (tkU qs qu ((qs.getD 0 default).n - qu)) T G1 G2 ∧
    jm ps pu (tkS qs qu ((qs.getD 0 default).n - qu)) (tkU qs qu ((qs.getD 0 default).n - qu)) < jm ps pu qs qu := by
  have hl := h.gq.lt h0
  obtain ⟨g, e⟩ := tk_ok (n := (qs.getD 0 default).n - qu) h.gq h0 (by omega) (Int.le_refl _)
  have tl := tk_len qs qu ((qs.getD 0 default).n - qu)
  generalize hn : (qs.getD 0 default).n - qu = n at *
  generalize tkS qs qu n = qs' at *
  generalize tkU qs qu n = qu' at *
  rw [hk, uOf1] at e
  have e2 := len_rep (k := 1) (by omega) e
  obtain ⟨p1, p2, p3⟩ := putW_ok (k := 0) (n := n) h.gx (by decide) (by omega)
  obtain ⟨r1, r2, r3⟩ := putW_ok (k := 1) (n := n) h.gy (by decide) (by omega)
  have hlen := h.len1
  have hlen2 := h.len2
  have f1 := h.fin1
  have f2 := h.fin2
  rw [← e, pc_B _ (noA_ru h.gp hp), foldW_app, ← uOf0, putI (by decide) (by omega)] at f1
  rw [← e, pc_B _ (noA_ru h.gp hp), foldW_app, ← uOf1, putI (by decide) (by omega)] at f2
  refine ⟨⟨p1, r1, h.gp, g, ?_, by omega, by omega, f1, f2, h.lp, Nat.le_trans tl h.lq⟩, by unfold jm; omega⟩
  rw [h.eq, ← e, old_A]
theorem PI.two (h : PI x y ps pu qs qu T G1 G2) (hp : 0 < ps.length → (ps.getD 0 default).kind ≠ 1) (hq : 0 < qs.length → (qs.getD 0 default).kind ≠ 1) (h0 : 0 < ps.length ∨ 0 < qs.length) : 0 < ps.length ∧ 0 < qs.length := by
  have heq := h.eq
  by_cases a : 0 < ps.length
  · refine ⟨a, ?_⟩
    by_cases b : 0 < qs.length
    · exact b
    · exfalso
      rw [ru_nil (l := qs) (by omega), ru_cons h.gp a] at heq
      have := old_rep ((ps.getD 0 default).n - pu).toNat (ps.getD 0 default).kind (ex (ps.drop 1))
      rw [if_neg (hp a)] at this
      have := h.gp.lt a
      simp only [oldU] at heq
      omega
  · exfalso
    have b : 0 < qs.length := by omega
    rw [ru_nil (l := ps) (by omega), ru_cons h.gq b] at heq
    have := old_rep ((qs.getD 0 default).n - qu).toNat (qs.getD 0 default).kind (ex (qs.drop 1))
    rw [if_neg (hq b)] at this
    have := h.gq.lt b
    simp only [oldU] at heq
    omega
theorem PI.both (h : PI x y ps pu qs qu T G1 G2) (a : 0 < ps.length) (b : 0 < qs.length) (hp : (ps.getD 0 default).kind ≠ 1) (hq : (qs.getD 0 default).kind ≠ 1) {n : Int} (hn : n = min ((ps.getD 0 default).n - pu) ((qs.getD 0 default).n - qu)) :
    PI (if (qs.getD 0 default).kind = 0 then putW x (ps.getD 0 default).kind n else x) (if (ps.getD 0 default).kind = 0 then putW y (qs.getD 0 default).kind n else y) (tkS ps pu n) (tkU ps pu n) (tkS qs qu n) (tkU qs qu n) T G1 G2 ∧
    jm (tkS ps pu n) (tkU ps pu n) (tkS qs qu n) (tkU qs qu n) < jm ps pu qs qu := by
  have hl := h.gp.lt a
  have hl2 := h.gq.lt b
  have okp := h.gp.ok a
  have okq := h.gq.ok b
  obtain ⟨g1, e1⟩ := tk_ok (n := n) h.gp a (by omega) (by omega)
  obtain ⟨g2, e2⟩ := tk_ok (n := n) h.gq b (by omega) (by omega)
  have tl1 := tk_len ps pu n
  have tl2 := tk_len qs qu n
  have n0 : 1 ≤ n := by omega
  clear hn
  generalize tkS ps pu n = ps' at *
  generalize tkU ps pu n = pu' at *
  generalize tkS qs qu n = qs' at *
  generalize tkU qs qu n = qu' at *
  have l1 := len_rep (by omega) e1
  have l2 := len_rep (by omega) e2
  have hlen := h.len1
  have hlen2 := h.len2
  have heq := h.eq
  have f1 := h.fin1
  have f2 := h.fin2
  rw [← e1, ← e2, pc_XX _ _ _ hp hq] at f1 f2
  rw [← e1, ← e2] at heq
  have t1 := old_rep n.toNat (ps.getD 0 default).kind (ru ps' pu')
  have t2 := old_rep n.toNat (qs.getD 0 default).kind (ru qs' qu')
  rw [if_neg hp] at t1
  rw [if_neg hq] at t2
  have heq' : oldU (ru ps' pu') = oldU (ru qs' qu') := by omega
  obtain ⟨p1, p2, p3⟩ := putW_ok (k := (ps.getD 0 default).kind) (n := n) h.gx ⟨okp.1, okp.2.1⟩ (by omega)
  obtain ⟨r1, r2, r3⟩ := putW_ok (k := (qs.getD 0 default).kind) (n := n) h.gy ⟨okq.1, okq.2.1⟩ (by omega)
  have kq : (qs.getD 0 default).kind = 0 ∨ (qs.getD 0 default).kind = 2 := by have := okq.1; have := okq.2.1; omega
  have kp : (ps.getD 0 default).kind = 0 ∨ (ps.getD 0 default).kind = 2 := by have := okp.1; have := okp.2.1; omega
  refine ⟨⟨?_, ?_, g1, g2, heq', ?_, ?_, ?_, ?_, Nat.le_trans tl1 h.lp, Nat.le_trans tl2 h.lq⟩, by unfold jm; omega⟩
  · split; exact p1; exact h.gx
  · split; exact r1; exact h.gy
  · split <;> omega
  · split <;> omega
  · rcases kq with k | k
    · rw [if_neg (show ¬ (qs.getD 0 default).kind = 2 by omega), foldW_app, putI ⟨okp.1, okp.2.1⟩ (by omega)] at f1; rw [if_pos k]; exact f1
    · rw [if_pos k] at f1; rw [if_neg (show ¬ (qs.getD 0 default).kind = 0 by omega)]; exact f1
  · rcases kp with k | k
    · rw [if_neg (show ¬ (ps.getD 0 default).kind = 2 by omega), foldW_app, putI ⟨okq.1, okq.2.1⟩ (by omega)] at f2; rw [if_pos k]; exact f2
    · rw [if_pos k] at f2; rw [if_neg (show ¬ (ps.getD 0 default).kind = 0 by omega)]; exact f2
theorem PI.done (h : PI x y ps pu qs qu T G1 G2) (a : ps.length = 0) (b : qs.length = 0) : x = G1 ∧ y = G2 := by
  have f1 := h.fin1
  have f2 := h.fin2
  rw [ru_nil a, ru_nil b] at f1 f2
  simp only [pairU, foldW] at f1 f2
  exact ⟨f1, f2⟩
end
def pairX1 (a b : List AxStep) : List AxStep := doneW (pairU (ex a) (ex b)).1
def pairX2 (a b : List AxStep) : List AxStep := doneW (pairU (ex a) (ex b)).2
theorem PI.start {a b : List AxStep} (va : Valid a) (vb : Valid b) (hm : oldI a = oldI b) : PI ⟨[], 0, 0⟩ ⟨[], 0, 0⟩ a 0 b 0 ((ex a).length + (ex b).length) (foldW ⟨[], 0, 0⟩ (pairU (ex a) (ex b)).1) (foldW ⟨[], 0, 0⟩ (pairU (ex a) (ex b)).2) ∧ (ex a).length + (ex b).length ≤ 8589934588 := by
  have h1 := ex_len a
  have h2 := ex_len b
  refine ⟨⟨good0, good0, good_r va.1, good_r vb.1, ?_, by rw [ru0, ru0]; simp [exW, ex], by rw [ru0, ru0]; simp [exW, ex], by rw [ru0, ru0], by rw [ru0, ru0], by omega, by omega⟩, by have := va.2.1; have := va.2.2; have := vb.2.1; have := vb.2.2; omega⟩
  rw [ru0, ru0]; unfold oldI at hm; omega

/-! ### Undo -/
def swU : U → U
  | .K => .K
  | .A => .C
  | .C => .A
def undoX (a : List AxStep) : List AxStep := doneW ((ex a).map swU)
theorem swU_kind {k : Int} (h : 0 ≤ k ∧ k ≤ 2) : swU (uOf k) = uOf (([0, 2, 1] : List Int).getD k.toNat default) ∧ 0 ≤ ([0, 2, 1] : List Int).getD k.toNat default ∧ ([0, 2, 1] : List Int).getD k.toNat default ≤ 2 := by
  have : k = 0 ∨ k = 1 ∨ k = 2 := by omega
  rcases this with rfl | rfl | rfl <;> exact ⟨rfl, by decide, by decide⟩
structure UI (a : List AxStep) (w : Wr) (i : Nat) : Prop where
  gw : GoodW w
  len : (exW w).length + (ex (a.drop i)).length ≤ (ex a).length
  fin : foldW w ((ex (a.drop i)).map swU) = foldW ⟨[], 0, 0⟩ ((ex a).map swU)
theorem UI.start (a : List AxStep) : UI a ⟨[], 0, 0⟩ 0 := ⟨good0, by simp [exW, ex], rfl⟩
theorem UI.next {a : List AxStep} {w : Wr} {i : Nat} (h : UI a w i) (hf : Form a) (hi : i < a.length) : UI a (putW w (([0, 2, 1] : List Int).getD (a.getD i default).kind.toNat default) (a.getD i default).n) (i + 1) ∧
    0 ≤ (a.getD i default).kind ∧ (a.getD i default).kind ≤ 2 ∧ 1 ≤ (a.getD i default).n ∧ ((exW w).length : Int) + (a.getD i default).n ≤ (ex a).length ∧ 0 ≤ ([0, 2, 1] : List Int).getD (a.getD i default).kind.toNat default ∧ ([0, 2, 1] : List Int).getD (a.getD i default).kind.toNat default ≤ 2 := by
  have ok := ((at_of_form hf) i (Nat.zero_le _) hi).1
  obtain ⟨k1, k2, k3⟩ := swU_kind ⟨ok.1, ok.2.1⟩
  have e := ex_at hi
  have hlen := h.len
  rw [e] at hlen
  simp only [List.length_append, List.length_replicate] at hlen
  have hn := ok.2.2
  obtain ⟨p1, p2, p3⟩ := putW_ok (k := ([0, 2, 1] : List Int).getD (a.getD i default).kind.toNat default) (n := (a.getD i default).n) h.gw ⟨k2, k3⟩ (by omega)
  refine ⟨⟨p1, by omega, ?_⟩, ok.1, ok.2.1, hn, by omega, k2, k3⟩
  have f := h.fin
  rw [e, List.map_append, List.map_replicate, k1, foldW_app, putI ⟨k2, k3⟩ (by omega)] at f
  exact f
theorem UI.done {a : List AxStep} {w : Wr} {i : Nat} (h : UI a w i) (hi : a.length ≤ i) : w = foldW ⟨[], 0, 0⟩ ((ex a).map swU) := by
  have f := h.fin
  rw [ex_end hi] at f
  exact f
end Go.Ch
