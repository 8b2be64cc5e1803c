/- Steps, their form, and the writer: what it writes is the one form of the units that were put. -/
import Derived.Test.YtbdbibmbfmlobaaAxisPlain
set_option linter.unusedVariables false
set_option linter.unusedSimpArgs false
namespace Go.Ch
open Go Go.Ab

structure AxStep where
  kind : Int
  n : Int
instance : Inhabited AxStep := ⟨⟨0, 0⟩⟩
def stepT (s : AxStep) : Tree := .agg [.sc (.int .i64 s.kind), .sc (.int .i64 s.n)]
def uOf (k : Int) : U := if k = 1 then .A else if k = 2 then .C else .K
def ex : List AxStep → List U
  | [] => []
  | s :: l => rep s.n.toNat (uOf s.kind) ++ ex l
theorem ex_app (a b : List AxStep) : ex (a ++ b) = ex a ++ ex b := by
  induction a with
  | nil => rfl
  | cons s a ih => simp [ex, ih]
def Ok1 (s : AxStep) : Prop := 0 ≤ s.kind ∧ s.kind ≤ 2 ∧ 1 ≤ s.n
def Nx (s t : AxStep) : Prop := s.kind ≠ t.kind ∧ ¬ (s.kind = 2 ∧ t.kind = 1)
theorem ok1_mk {k n : Int} (h : 0 ≤ k ∧ k ≤ 2) (hn : 1 ≤ n) : Ok1 ⟨k, n⟩ := ⟨h.1, h.2, hn⟩
theorem nx_mk {s : AxStep} {k n : Int} (h : s.kind ≠ k) (h2 : ¬ (s.kind = 2 ∧ k = 1)) : Nx s ⟨k, n⟩ := ⟨h, h2⟩
def Form : List AxStep → Prop
  | [] => True
  | [s] => Ok1 s
  | s :: t :: l => Ok1 s ∧ Nx s t ∧ Form (t :: l)
theorem Form.head {s : AxStep} {l : List AxStep} (h : Form (s :: l)) : Ok1 s := by
  cases l with
  | nil => exact h
  | cons t l => exact h.1
theorem Form.tail {s : AxStep} {l : List AxStep} (h : Form (s :: l)) : Form l := by
  cases l with
  | nil => trivial
  | cons t l => exact h.2.2
theorem Form.all : ∀ {l : List AxStep}, Form l → ∀ s ∈ l, Ok1 s
  | [], _, s, h => by cases h
  | t :: l, h, s, hs => by
    rcases List.mem_cons.1 hs with rfl | hs
    · exact h.head
    · exact h.tail.all s hs
theorem form_snoc : ∀ {l : List AxStep} {s : AxStep}, Form l → Ok1 s → (∀ t, l.getLast? = some t → Nx t s) → Form (l ++ [s])
  | [], s, _, h, _ => h
  | [t], s, h1, h2, h3 => ⟨h1, h3 t rfl, h2⟩
  | t :: t' :: l, s, h1, h2, h3 => ⟨h1.1, h1.2.1, form_snoc (l := t' :: l) h1.2.2 h2 (fun x hx => h3 x (by simpa using hx))⟩
theorem form_last : ∀ {l : List AxStep} {s s' : AxStep}, Form (l ++ [s]) → s'.kind = s.kind → 1 ≤ s'.n → Form (l ++ [s'])
  | [], s, s', h, e, hn => ⟨by rw [e]; exact h.1, by rw [e]; exact h.2.1, hn⟩
  | [t], s, s', h, e, hn => ⟨h.1, by unfold Nx; rw [e]; exact h.2.1, by have := h.2.2; exact ⟨by rw [e]; exact this.1, by rw [e]; exact this.2.1, hn⟩⟩
  | t :: t' :: l, s, s', h, e, hn => ⟨h.1, h.2.1, form_last (l := t' :: l) h.2.2 e hn⟩

theorem rep_add (m n : Nat) (x : U) : rep (m + n) x = rep m x ++ rep n x := List.replicate_append_replicate.symm
/-! ### One form for each effect -/
def opt1 (k : Int) (n : Nat) : List AxStep := if n = 0 then [] else [⟨k, n⟩]
def rend (k : Nat) : List (Nat × Nat) → List AxStep
  | [] => opt1 0 k
  | (a, c) :: r => if a = 0 ∧ c = 0 then (if r = [] then opt1 0 k else rend (k + 1) r) else opt1 0 k ++ opt1 1 a ++ opt1 2 c ++ (if r = [] then [] else rend 1 r)
theorem beta_Ks (n : Nat) (u : List U) : beta (rep n .K ++ u) = List.replicate n (0, 0) ++ beta u := by
  induction n with
  | zero => rfl
  | succ n ih => rw [rep_succ, List.cons_append, beta, ih]; rfl
theorem beta_As (n : Nat) {u : List U} {a c : Nat} {r : List (Nat × Nat)} (h : beta u = (a, c) :: r) : beta (rep n .A ++ u) = (a + n, c) :: r := by
  induction n with
  | zero => exact h
  | succ n ih => rw [rep_succ, List.cons_append, beta, ih]; rfl
theorem beta_Cs (n : Nat) {u : List U} {a c : Nat} {r : List (Nat × Nat)} (h : beta u = (a, c) :: r) : beta (rep n .C ++ u) = (a, c + n) :: r := by
  induction n with
  | zero => exact h
  | succ n ih => rw [rep_succ, List.cons_append, beta, ih]; rfl
theorem rend_Ks (n k : Nat) (l : List (Nat × Nat)) (hl : l ≠ []) : rend k (List.replicate n (0, 0) ++ l) = rend (k + n) l := by
  induction n generalizing k with
  | zero => rfl
  | succ n ih =>
    have hne : List.replicate n (0, 0) ++ l ≠ [] := by simp [hl]
    rw [List.replicate_succ, List.cons_append, rend, if_pos ⟨rfl, rfl⟩, if_neg hne, ih]
    congr 1; omega
theorem uOf0 : uOf 0 = .K := rfl
theorem uOf1 : uOf 1 = .A := rfl
theorem uOf2 : uOf 2 = .C := rfl
theorem kinds {s : AxStep} (h : Ok1 s) : s.kind = 0 ∨ s.kind = 1 ∨ s.kind = 2 := by have := h.1; have := h.2.1; omega
theorem beta_head {l : List AxStep} (h : Form l) {a c : Nat} {r : List (Nat × Nat)} (e : beta (ex l) = (a, c) :: r) :
    (∀ s l', l = s :: l' → s.kind = 0 → a = 0 ∧ c = 0) ∧ (∀ s l', l = s :: l' → s.kind ≠ 1 → a = 0) ∧ (∀ s l', l = s :: l' → s.kind ≠ 0 → a ≠ 0 ∨ c ≠ 0) ∧ (l = [] → a = 0 ∧ c = 0 ∧ r = []) := by
  cases l with
  | nil => simp [ex, beta] at e; refine ⟨fun s l' h => (by cases h), fun s l' h => (by cases h), fun s l' h => (by cases h), fun _ => ⟨e.1.1.symm, e.1.2.symm, e.2⟩⟩
  | cons s l =>
    have ok := h.head
    obtain ⟨m, hm⟩ : ∃ m, s.n.toNat = m + 1 := ⟨s.n.toNat - 1, by have := ok.2.2; omega⟩
    obtain ⟨a', c', r', e'⟩ := beta_ne (ex l)
    simp only [ex] at e
    refine ⟨fun t l' h' hk => ?_, fun t l' h' hk => ?_, fun t l' h' hk => ?_, fun h' => by cases h'⟩
    · cases h'
      rw [hk, uOf0, hm, rep_succ, List.cons_append, beta] at e
      simp only [List.cons.injEq, Prod.mk.injEq] at e
      exact ⟨e.1.1.symm, e.1.2.symm⟩
    · cases h'
      rcases kinds ok with k0 | k1 | k2
      · rw [k0, uOf0, hm, rep_succ, List.cons_append, beta] at e
        simp only [List.cons.injEq, Prod.mk.injEq] at e
        exact e.1.1.symm
      · exact absurd k1 hk
      · rw [k2, uOf2, beta_Cs _ e'] at e
        simp only [List.cons.injEq, Prod.mk.injEq] at e
        rw [← e.1.1]
        cases l with
        | nil => simp [ex, beta] at e'; exact e'.1.1.symm
        | cons t l =>
          have nx := h.2.1
          have kt := kinds h.2.2.head
          have k0 : t.kind = 0 := by
            rcases kt with q | q | q
            · exact q
            · exact absurd ⟨k2, q⟩ nx.2
            · exact absurd (k2.trans q.symm) nx.1
          have okt := h.2.2.head
          obtain ⟨m', hm'⟩ : ∃ m', t.n.toNat = m' + 1 := ⟨t.n.toNat - 1, by have := okt.2.2; omega⟩
          simp only [ex] at e'
          rw [k0, uOf0, hm', rep_succ, List.cons_append, beta] at e'
          simp only [List.cons.injEq, Prod.mk.injEq] at e'
          exact e'.1.1.symm
    · cases h'
      rcases kinds ok with k0 | k1 | k2
      · exact absurd k0 hk
      · rw [k1, uOf1, beta_As _ e'] at e
        simp only [List.cons.injEq, Prod.mk.injEq] at e
        left; omega
      · rw [k2, uOf2, beta_Cs _ e'] at e
        simp only [List.cons.injEq, Prod.mk.injEq] at e
        right; omega
theorem rend_ex : ∀ {l : List AxStep}, Form l → rend 0 (beta (ex l)) = l ∧ ∀ k, 0 < k → (∀ s l', l = s :: l' → s.kind ≠ 0) → rend k (beta (ex l)) = ⟨0, k⟩ :: l
  | [], _ => ⟨rfl, fun k hk _ => by simp only [ex, beta, rend]; rw [if_pos ⟨trivial, trivial⟩, if_pos trivial, opt1, if_neg (by omega)]⟩
  | s :: l, h => by
    obtain ⟨i1, i2⟩ := rend_ex h.tail
    have ok := h.head
    have hn : (s.n.toNat : Int) = s.n := Int.toNat_of_nonneg (by have := ok.2.2; omega)
    have hn0 : s.n.toNat ≠ 0 := by have := ok.2.2; omega
    obtain ⟨a, c, r, e⟩ := beta_ne (ex l)
    obtain ⟨q1, q2, q3, q4⟩ := beta_head h.tail e
    obtain ⟨kd, n⟩ := s
    simp only [ex] at hn hn0 ⊢
    have main : kd ≠ 0 → ∀ k, rend k (beta (rep n.toNat (uOf kd) ++ ex l)) = opt1 0 k ++ ⟨kd, n⟩ :: l := by
      intro hk k
      rcases kinds ok with k0 | k1 | k2
      · exact absurd k0 hk
      · simp only at k1
        have ha : a = 0 := by
          cases l with
          | nil => exact (q4 rfl).1
          | cons t l => exact q2 t l rfl (fun ht => h.2.1.1 (by rw [ht, k1]))
        subst ha
        rw [k1, uOf1, beta_As _ e, rend, if_neg (by omega)]
        rw [e, rend] at i1
        rw [← i1]
        have e1 : opt1 1 (0 + n.toNat) = [⟨1, n⟩] := by rw [opt1, if_neg (by omega), Nat.zero_add, hn]
        rw [e1]
        by_cases hc : c = 0
        · subst hc
          cases r <;> simp [opt1]
        · simp [opt1, hc]
      · simp only at k2
        have hac : a = 0 ∧ c = 0 := by
          cases l with
          | nil => exact ⟨(q4 rfl).1, (q4 rfl).2.1⟩
          | cons t l =>
            refine q1 t l rfl ?_
            have nx := h.2.1
            rcases kinds h.2.2.head with q | q | q
            · exact q
            · exact absurd ⟨k2, q⟩ nx.2
            · exact absurd (k2.trans q.symm) nx.1
        obtain ⟨rfl, rfl⟩ := hac
        rw [k2, uOf2, beta_Cs _ e, rend, if_neg (by omega)]
        rw [e, rend, if_pos ⟨rfl, rfl⟩] at i1
        rw [← i1]
        have e1 : opt1 2 (0 + n.toNat) = [⟨2, n⟩] := by rw [opt1, if_neg (by omega), Nat.zero_add, hn]
        rw [e1]
        cases r with
        | nil => simp [opt1]
        | cons x r => simp [opt1]
    refine ⟨?_, fun k hk hs => ?_⟩
    · by_cases k0 : kd = 0
      · subst k0
        rw [uOf0, beta_Ks, rend_Ks _ _ _ (by rw [e]; simp)]
        have := i2 (0 + n.toNat) (by omega) (fun t l' ht => by subst ht; exact fun hk => h.2.1.1 hk.symm)
        rw [this, Nat.zero_add, hn]
      · rw [main k0]; rfl
    · rw [main (hs _ _ rfl), opt1, if_neg (by omega)]; rfl
/-- Two lists in the form of a change that do the same are equal. -/
theorem form_unique {a b : List AxStep} (ha : Form a) (hb : Form b) (h : Sw (ex a) (ex b)) : a = b := by
  rw [← (rend_ex ha).1, ← (rend_ex hb).1, beta_sw h]

/-! ### The writer -/
structure Wr where
  out : List AxStep
  add : Int
  cut : Int
def flushW (w : Wr) : List AxStep := w.out ++ (if 0 < w.add then [⟨1, w.add⟩] else []) ++ (if 0 < w.cut then [⟨2, w.cut⟩] else [])
def keepW (l : List AxStep) (n : Int) : List AxStep :=
  if 0 < l.length ∧ (l.getD (l.length - 1) default).kind = 0 then l.set (l.length - 1) ⟨(l.getD (l.length - 1) default).kind, (l.getD (l.length - 1) default).n + n⟩ else l ++ [⟨0, n⟩]
def putW (w : Wr) (k n : Int) : Wr :=
  if n = 0 then w else if k = 1 then ⟨w.out, w.add + n, w.cut⟩ else if k = 2 then ⟨w.out, w.add, w.cut + n⟩ else ⟨keepW (flushW w) n, 0, 0⟩
def exW (w : Wr) : List U := ex w.out ++ (rep w.add.toNat .A ++ rep w.cut.toNat .C)
structure GoodW (w : Wr) : Prop where
  form : Form w.out
  last : ∀ t, w.out.getLast? = some t → t.kind = 0
  add : 0 ≤ w.add
  cut : 0 ≤ w.cut
theorem flushW_ex {w : Wr} (h : GoodW w) : ex (flushW w) = exW w := by
  have h1 := h.add
  have h2 := h.cut
  unfold flushW exW
  rw [ex_app, ex_app, List.append_assoc]
  congr 2
  · split
    · simp [ex, uOf]
    · rw [show w.add.toNat = 0 by omega]; rfl
  · split
    · simp [ex, uOf]
    · rw [show w.cut.toNat = 0 by omega]; rfl
theorem flushW_form {w : Wr} (h : GoodW w) : Form (flushW w) := by
  have h1 := h.add
  have h2 := h.cut
  unfold flushW
  by_cases ha : 0 < w.add
  · rw [if_pos ha]
    have f1 : Form (w.out ++ [⟨1, w.add⟩]) := form_snoc h.form (ok1_mk (by omega) (by omega)) (fun t ht => by
      have := h.last t ht
      exact nx_mk (by omega) (by omega))
    by_cases hc : 0 < w.cut
    · rw [if_pos hc]
      refine form_snoc f1 (ok1_mk (by omega) (by omega)) (fun t ht => ?_)
      rw [List.getLast?_concat] at ht
      cases ht
      exact nx_mk (by show (1 : Int) ≠ 2; decide) (by show ¬ ((1 : Int) = 2 ∧ (2 : Int) = 1); decide)
    · rw [if_neg hc, List.append_nil]; exact f1
  · rw [if_neg ha, List.append_nil]
    by_cases hc : 0 < w.cut
    · rw [if_pos hc]
      refine form_snoc h.form (ok1_mk (by omega) (by omega)) (fun t ht => ?_)
      have := h.last t ht
      exact nx_mk (by omega) (by omega)
    · rw [if_neg hc, List.append_nil]; exact h.form
theorem last_getD {l : List AxStep} (h : 0 < l.length) : l = l.take (l.length - 1) ++ [l.getD (l.length - 1) default] := by
  conv => lhs; rw [← List.take_append_drop (l.length - 1) l]
  congr 1
  rw [List.drop_eq_getElem_cons (by omega), List.drop_eq_nil_of_le (by omega)]
  simp [List.getD, List.getElem?_eq_getElem (show l.length - 1 < l.length by omega)]
theorem set_last {l : List AxStep} (h : 0 < l.length) (s : AxStep) : l.set (l.length - 1) s = l.take (l.length - 1) ++ [s] := by
  rw [List.set_eq_take_append_cons_drop, if_pos (by omega), List.drop_eq_nil_of_le (by omega)]
theorem getLast_getD {l : List AxStep} (h : 0 < l.length) : l.getLast? = some (l.getD (l.length - 1) default) := by
  conv => lhs; rw [last_getD h]
  rw [List.getLast?_concat]
theorem keepW_ok {l : List AxStep} {n : Int} (hf : Form l) (hn : 1 ≤ n) : Form (keepW l n) ∧ (∀ t, (keepW l n).getLast? = some t → t.kind = 0) ∧ ex (keepW l n) = ex l ++ rep n.toNat .K := by
  unfold keepW
  split
  · rename_i hc
    obtain ⟨h0, hk⟩ := hc
    generalize hx : l.getD (l.length - 1) default = x at hk ⊢
    have hl := last_getD h0
    rw [hx] at hl
    rw [set_last h0]
    have hox : Ok1 x := hf.all x (by rw [hl]; simp)
    refine ⟨form_last (s := x) (by rw [← hl]; exact hf) rfl (by have := hox.2.2; simp only; omega), fun t ht => ?_, ?_⟩
    · rw [List.getLast?_concat] at ht; cases ht; exact hk
    · conv => rhs; rw [hl]
      rw [ex_app, ex_app, List.append_assoc]
      congr 1
      simp only [ex, List.append_nil]
      rw [hk, uOf0, show (x.n + n).toNat = x.n.toNat + n.toNat by have := hox.2.2; omega]
      exact List.replicate_append_replicate.symm
  · rename_i hc
    refine ⟨form_snoc hf (ok1_mk (by decide) hn) (fun t ht => ?_), fun t ht => ?_, by rw [ex_app]; simp [ex, uOf]⟩
    · have h0 : 0 < l.length := by
        rcases l with _ | ⟨y, l⟩
        · cases ht
        · simp
      rw [getLast_getD h0] at ht
      cases ht
      exact nx_mk (fun hh => hc ⟨h0, hh⟩) (by omega)
    · rw [List.getLast?_concat] at ht; cases ht; rfl
theorem putW_ok {w : Wr} {k n : Int} (h : GoodW w) (hk : 0 ≤ k ∧ k ≤ 2) (hn : 0 ≤ n) : GoodW (putW w k n) ∧ Sw (exW (putW w k n)) (exW w ++ rep n.toNat (uOf k)) ∧ (exW (putW w k n)).length = (exW w).length + n.toNat := by
  have h1 := h.add
  have h2 := h.cut
  unfold putW
  by_cases n0 : n = 0
  · subst n0
    rw [if_pos rfl]
    exact ⟨h, by simp; exact .refl _, by simp⟩
  · rw [if_neg n0]
    by_cases k1 : k = 1
    · subst k1
      rw [if_pos rfl]
      refine ⟨⟨h.form, h.last, by simp only; omega, h2⟩, ?_, ?_⟩
      · unfold exW
        simp only
        rw [show (w.add + n).toNat = w.add.toNat + n.toNat by omega, rep_add, uOf1]
        simp only [List.append_assoc]
        refine .left _ (.left _ ?_)
        have := sw_Cs_As w.cut.toNat n.toNat []
        simp only [List.append_nil] at this
        exact .symm this
      · unfold exW
        simp only [List.length_append, List.length_replicate]
        omega
    · rw [if_neg k1]
      by_cases k2 : k = 2
      · subst k2
        rw [if_pos rfl]
        refine ⟨⟨h.form, h.last, h1, by simp only; omega⟩, ?_, ?_⟩
        · unfold exW
          simp only
          rw [show (w.cut + n).toNat = w.cut.toNat + n.toNat by omega, rep_add, uOf2]
          simp only [List.append_assoc]
          exact .refl _
        · unfold exW
          simp only [List.length_append, List.length_replicate]
          omega
      · rw [if_neg k2]
        have k0 : k = 0 := by omega
        subst k0
        obtain ⟨q1, q2, q3⟩ := keepW_ok (flushW_form h) (n := n) (by omega)
        rw [flushW_ex h] at q3
        have e : exW ⟨keepW (flushW w) n, 0, 0⟩ = exW w ++ rep n.toNat .K := by
          rw [← q3]; simp [exW]
        refine ⟨⟨q1, q2, Int.le_refl _, Int.le_refl _⟩, ?_, ?_⟩
        · rw [e]; exact .refl _
        · rw [e]; simp
/-- Puts one unit after the other. -/
def kOf : U → Int
  | .K => 0
  | .A => 1
  | .C => 2
theorem uOf_kOf (u : U) : uOf (kOf u) = u := by cases u <;> rfl
theorem kOf_ok (u : U) : 0 ≤ kOf u ∧ kOf u ≤ 2 := by cases u <;> decide
def foldW (w : Wr) : List U → Wr
  | [] => w
  | u :: us => foldW (putW w (kOf u) 1) us
theorem foldW_app (w : Wr) (a b : List U) : foldW w (a ++ b) = foldW (foldW w a) b := by
  induction a generalizing w with
  | nil => rfl
  | cons u a ih => exact ih _
theorem foldW_ok {w : Wr} (h : GoodW w) (us : List U) : GoodW (foldW w us) ∧ Sw (exW (foldW w us)) (exW w ++ us) := by
  induction us generalizing w with
  | nil => simp [foldW]; exact ⟨h, .refl _⟩
  | cons u us ih =>
    obtain ⟨a, b, _⟩ := putW_ok (n := 1) h (kOf_ok u) (by decide)
    obtain ⟨c, d⟩ := ih a
    refine ⟨c, .trans d ?_⟩
    rw [uOf_kOf] at b
    have := Sw.right us b
    simpa using this
theorem flushW_nil (l : List AxStep) : flushW ⟨l, 0, 0⟩ = l := by simp [flushW]
theorem keepW_keepW {l : List AxStep} {m n : Int} : keepW (keepW l m) n = keepW l (m + n) := by
  unfold keepW
  by_cases hc : 0 < l.length ∧ (l.getD (l.length - 1) default).kind = 0
  · rw [if_pos hc, if_pos hc]
    have hl : (l.set (l.length - 1) ⟨(l.getD (l.length - 1) default).kind, (l.getD (l.length - 1) default).n + m⟩).length = l.length := by simp
    have hg : (l.set (l.length - 1) ⟨(l.getD (l.length - 1) default).kind, (l.getD (l.length - 1) default).n + m⟩).getD (l.length - 1) default = ⟨(l.getD (l.length - 1) default).kind, (l.getD (l.length - 1) default).n + m⟩ := by
      have h0 : l.length - 1 < l.length := by omega
      simp [List.getD, h0]
    rw [hl, hg, if_pos ⟨hc.1, hc.2⟩, List.set_set]
    simp only
    congr 2; omega
  · rw [if_neg hc, if_neg hc]
    have hl : (l ++ [(⟨0, m⟩ : AxStep)]).length = l.length + 1 := by simp
    have hg : (l ++ [(⟨0, m⟩ : AxStep)]).getD (l.length + 1 - 1) default = ⟨0, m⟩ := by simp
    rw [hl, hg, if_pos ⟨by omega, rfl⟩]
    simp [List.set_append_right]
theorem putW_A (w : Wr) (n : Int) : putW w 1 n = ⟨w.out, w.add + n, w.cut⟩ := by
  unfold putW
  by_cases h : n = 0
  · rw [if_pos h, h, Int.add_zero]
  · rw [if_neg h]; rfl
theorem putW_C (w : Wr) (n : Int) : putW w 2 n = ⟨w.out, w.add, w.cut + n⟩ := by
  unfold putW
  by_cases h : n = 0
  · rw [if_pos h, h, Int.add_zero]
  · rw [if_neg h]; rfl
theorem putW_K (w : Wr) {n : Int} (h : n ≠ 0) : putW w 0 n = ⟨keepW (flushW w) n, 0, 0⟩ := by
  unfold putW
  rw [if_neg h]; rfl
/-- Many units of one kind at once. -/
theorem putW_rep (w : Wr) (x : U) (m : Nat) : foldW w (rep m x) = putW w (kOf x) m := by
  have one : ∀ m : Nat, putW (putW w (kOf x) (m : Int)) (kOf x) 1 = putW w (kOf x) ((m + 1 : Nat) : Int) := by
    intro m
    cases x with
    | A => simp only [kOf, putW_A, Wr.mk.injEq, true_and, and_true]; omega
    | C => simp only [kOf, putW_C, Wr.mk.injEq, true_and, and_true]; omega
    | K =>
      by_cases h0 : m = 0
      · subst h0; simp [putW]
      · simp only [kOf]
        rw [putW_K w (by omega : (m : Int) ≠ 0), putW_K _ (by decide : (1 : Int) ≠ 0), putW_K w (by omega : ((m + 1 : Nat) : Int) ≠ 0), flushW_nil, keepW_keepW]
        congr 2
  induction m with
  | zero => simp [foldW, putW]
  | succ m ih =>
    rw [show rep (m + 1) x = rep m x ++ [x] from List.replicate_succ', foldW_app, ih]
    exact one m
def doneW (us : List U) : List AxStep := flushW (foldW ⟨[], 0, 0⟩ us)
theorem good0 : GoodW ⟨[], 0, 0⟩ := ⟨trivial, fun t ht => (by cases ht), Int.le_refl _, Int.le_refl _⟩
theorem doneW_ok (us : List U) : Form (doneW us) ∧ Sw (ex (doneW us)) us := by
  obtain ⟨a, b⟩ := foldW_ok good0 us
  exact ⟨flushW_form a, by unfold doneW; rw [flushW_ex a]; exact .trans b (by simp [exW, ex]; exact .refl _)⟩
end Go.Ch
