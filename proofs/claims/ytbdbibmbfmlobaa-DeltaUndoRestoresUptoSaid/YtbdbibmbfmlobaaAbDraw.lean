/- A region that draws its order: every order leads to one state. -/
import Derived.Test.YtbdbibmbfmlobaaAbRegion
set_option linter.unusedVariables false
namespace Go.Ab
variable {P : Program} {w : World} {F : Nat → Prop} {S st : Store} {m : Place}

/-- The last of the first k writers. -/
def look {β : Type} (d : β) (f : Nat → Option β) : Nat → β
  | 0 => d
  | k + 1 => (f k).getD (look d f k)
theorem look_congr {β : Type} {d : β} {f g : Nat → Option β} : ∀ {k : Nat}, (∀ i, i < k → f i = g i) → look d f k = look d g k
  | 0, _ => rfl
  | k + 1, h => by simp only [look, h k (by omega), look_congr (k := k) (fun i hi => h i (by omega))]
theorem look_skip {β : Type} {d : β} {f : Nat → Option β} {i : Nat} : ∀ {k : Nat}, i ≤ k → (∀ j, i ≤ j → j < k → f j = none) → look d f k = look d f i
  | 0, h, _ => by simp [Nat.le_zero.1 h]
  | k + 1, h, hf => by
    by_cases e : i = k + 1
    · rw [e]
    · simp only [look, hf k (by omega) (by omega)]
      exact look_skip (by omega) (fun j h1 h2 => hf j h1 (by omega))
theorem look_hit {β : Type} {d : β} {f : Nat → Option β} {i k : Nat} {v : β} (hi : i < k) (hv : f i = some v) (hf : ∀ j, i < j → j < k → f j = none) : look d f k = v := by
  rw [look_skip (i := i + 1) hi (fun j h1 h2 => hf j (by omega) h2)]
  simp only [look, hv, Option.getD_some]

/-! ### The run in the order of the text, step by step -/
structure Tr where
  s : St        -- the state before the operation
  o : Oper
  r : Res
/-- The steps of a run. -/
def Trace (P : Program) (ops : List Oper) (orcs : List (Nat × Orc)) (nx : Nat) : Nat → List Oper → St → List Res → St → Prop
  | _, [], s, rs, s' => rs = [] ∧ s' = s
  | i, o :: l, s, rs, s' => ∃ r rs', rs = r :: rs' ∧ exec1 P ops s o (nx + 8 * i) (orcAt orcs i) = some r ∧ (r.wr.all fun x => Nat.blt x.1 (nx + 8 * i + 8)) = true ∧
      Trace P ops orcs nx (i + 1) l ⟨put s.sl o.dst r.val, app s.st r.wr, s.nx⟩ rs' s'
theorem trace_of : ∀ {ops : List Oper} {orcs : List (Nat × Orc)} {nx : Nat} (l : List Oper) (i : Nat) (s s' : St) (rs : List Res), runL P ops orcs nx i l s = some (s', rs) → Trace P ops orcs nx i l s rs s'
  | ops, orcs, nx, [], i, s, s', rs, h => by
    simp only [runL, Option.some.injEq, Prod.mk.injEq] at h
    exact ⟨h.2.symm, h.1.symm⟩
  | ops, orcs, nx, o :: l, i, s, s', rs, h => by
    simp only [runL] at h
    split at h
    rotate_left
    · cases h
    rename_i r hr
    cases hk : (r.wr.all fun x => Nat.blt x.1 (nx + 8 * i + 8)) with
    | false => rw [hk] at h; cases h
    | true =>
      rw [hk] at h
      simp only [Bool.not_true, cond_false] at h
      split at h
      rotate_left
      · cases h
      rename_i s2 rs2 hrun
      simp only [Option.some.injEq, Prod.mk.injEq] at h
      obtain ⟨rfl, rfl⟩ := h
      exact ⟨r, rs2, rfl, hr, hk, trace_of l (i + 1) _ _ _ hrun⟩

/-- Who writes slot t. -/
def wSlot (ops : List Oper) (rs : List Res) (t : Nat) (i : Nat) : Option AVal :=
  match ops[i]?, rs[i]? with
  | some o, some r => if o.dst = some t then some r.val else none
  | _, _ => none
/-- Who writes object id. -/
def wObj (rs : List Res) (id : Nat) (i : Nat) : Option (Option Ob) :=
  match rs[i]? with
  | some r => if hasId (wrIds r) id then some (app emp r.wr id) else none
  | none => none

theorem app_emp {S : Store} {wr : List (Nat × Ob)} {id : Nat} (h : id ∈ wr.map (·.1)) : app S wr id = app emp wr id := app_at (.inl h)

theorem look_shift {β : Type} {d : β} {f : Nat → Option β} : ∀ (k : Nat), look d f (k + 1) = look ((f 0).getD d) (fun i => f (i + 1)) k
  | 0 => rfl
  | k + 1 => by
    rw [look, look_shift k]
    rfl

theorem wSlot_shift {ops : List Oper} {rs : List Res} {o : Oper} {r : Res} {sl : List (Nat × AVal)} {t : Nat} :
    (wSlot (o :: ops) (r :: rs) t 0).getD (get sl t) = get (put sl o.dst r.val) t := by
  rw [get_put]
  simp only [wSlot, List.getElem?_cons_zero]
  split <;> simp_all
theorem wObj_shift {rs : List Res} {r : Res} {S : Store} {id : Nat} : (wObj (r :: rs) id 0).getD (S id) = app S r.wr id := by
  simp only [wObj, List.getElem?_cons_zero]
  cases h : hasId (wrIds r) id with
  | true =>
    have := hasId_iff.1 h
    exact (app_emp this).symm
  | false =>
    have : id ∉ wrIds r := fun hm => by rw [hasId_iff.2 hm] at h; cases h
    exact (app_not this).symm

/-- The state before operation i, in terms of the writers. -/
theorem trace_state {ops : List Oper} {orcs : List (Nat × Orc)} {nx : Nat} : ∀ (l : List Oper) (i : Nat) (s s' : St) (rs : List Res), Trace P ops orcs nx i l s rs s' →
    rs.length = l.length ∧ ((∀ t, get s'.sl t = look (get s.sl t) (wSlot l rs t) l.length) ∧ (∀ id, s'.st id = look (s.st id) (wObj rs id) l.length)) ∧
    ∀ (j : Nat) (o : Oper) (r : Res), l[j]? = some o → rs[j]? = some r → ∃ sj : St, exec1 P ops sj o (nx + 8 * (i + j)) (orcAt orcs (i + j)) = some r ∧ (r.wr.all fun x => Nat.blt x.1 (nx + 8 * (i + j) + 8)) = true ∧
      (∀ t, get sj.sl t = look (get s.sl t) (wSlot l rs t) j) ∧ (∀ id, sj.st id = look (s.st id) (wObj rs id) j)
  | [], i, s, s', rs, h => by
    obtain ⟨rfl, rfl⟩ := h
    exact ⟨rfl, ⟨fun t => rfl, fun id => rfl⟩, fun j o r h => by simp at h⟩
  | o0 :: l, i, s, s', rs, h => by
    obtain ⟨r0, rs', rfl, he, hk, ht⟩ := h
    obtain ⟨ih1, ⟨ih3, ih4⟩, ih2⟩ := trace_state l (i + 1) _ s' rs' ht
    have shS : ∀ t k, look (get s.sl t) (wSlot (o0 :: l) (r0 :: rs') t) (k + 1) = look (get (put s.sl o0.dst r0.val) t) (wSlot l rs' t) k := fun t k => by
      rw [look_shift, wSlot_shift]
      exact look_congr (fun i _ => by simp [wSlot])
    have shO : ∀ id k, look (s.st id) (wObj (r0 :: rs') id) (k + 1) = look (app s.st r0.wr id) (wObj rs' id) k := fun id k => by
      rw [look_shift, wObj_shift]
      exact look_congr (fun i _ => by simp [wObj])
    refine ⟨by simp [ih1], ⟨fun t => by rw [List.length_cons, shS]; exact ih3 t, fun id => by rw [List.length_cons, shO]; exact ih4 id⟩, fun j o r ho hr => ?_⟩
    cases j with
    | zero =>
      simp at ho hr
      subst ho; subst hr
      exact ⟨s, he, hk, fun t => rfl, fun id => rfl⟩
    | succ j =>
      simp at ho hr
      obtain ⟨sj, h1, h2, h3, h4⟩ := ih2 j o r ho hr
      exact ⟨sj, by rw [show i + (j + 1) = i + 1 + j by omega]; exact h1, by rw [show i + (j + 1) = i + 1 + j by omega]; exact h2, fun t => by rw [h3, shS], fun id => by rw [h4, shO]⟩

/-! ### Which operations wait for which -/
def Closed (ops : List Oper) (E : Nat → Bool) : Prop := ∀ j o, ops[j]? = some o → E j = true → ∀ e ∈ o.after.toList, Region.binds .any e = true → E e.on = true

theorem testBit_fold {E : Nat → Bool} {ms : List Nat} (hms : ∀ (j : Nat), E j = true → ∀ i, Nat.testBit (ms.getD j 0) i = true → E i = true) : ∀ (es : List Edge) (s0 : Nat), (∀ i, Nat.testBit s0 i = true → E i = true) →
    (∀ e ∈ es, Region.binds .any e = true → E e.on = true) → ∀ i, Nat.testBit (es.foldl (fun s e => bif Region.binds .any e then s ||| 2 ^ e.on ||| ms.getD e.on 0 else s) s0) i = true → E i = true
  | [], s0, h0, _, i, h => h0 i h
  | e :: es, s0, h0, he, i, h => by
    simp only [List.foldl_cons] at h
    refine testBit_fold hms es _ (fun i hi => ?_) (fun e' h' => he e' (by simp [h'])) i h
    cases hb : Region.binds .any e with
    | false => rw [hb] at hi; exact h0 i hi
    | true =>
      rw [hb] at hi
      simp only [cond_true, Nat.testBit_or, Bool.or_eq_true, Nat.testBit_two_pow, decide_eq_true_eq] at hi
      have hE := he e (by simp) hb
      rcases hi with (hi | hi) | hi
      · exact h0 i hi
      · rw [← hi]; exact hE
      · exact hms e.on hE i hi

theorem masks_ok {E : Nat → Bool} : ∀ (l : List Oper) (ms : List Nat), (∀ (j : Nat), E j = true → ∀ i, Nat.testBit (ms.getD j 0) i = true → E i = true) →
    (∀ (j : Nat) (o : Oper), l[j]? = some o → E (ms.length + j) = true → ∀ e ∈ o.after.toList, Region.binds .any e = true → E e.on = true) →
    ∀ (j : Nat), E j = true → ∀ i, Nat.testBit ((masks l ms).getD j 0) i = true → E i = true
  | [], ms, h, _ => h
  | o :: l, ms, h, hl => by
    refine masks_ok l (ms ++ [maskStep ms o]) (fun j hj i hi => ?_) (fun j o' ho' hj => ?_)
    · by_cases c : j < ms.length
      · rw [List.getD_eq_getElem?_getD, List.getElem?_append_left c] at hi
        exact h j hj i (by rw [List.getD_eq_getElem?_getD]; exact hi)
      · by_cases c2 : j = ms.length
        · subst c2
          rw [List.getD_eq_getElem?_getD, List.getElem?_append_right (Nat.le_refl _)] at hi
          simp only [Nat.sub_self, List.getElem?_cons_zero, Option.getD_some] at hi
          exact testBit_fold h o.after.toList 0 (fun i hi => by simp at hi) (hl 0 o (by simp) (by simpa using hj)) i hi
        · rw [List.getD_eq_getElem?_getD, List.getElem?_eq_none (by simp; omega)] at hi
          simp at hi
    · exact hl (j + 1) o' (by simpa using ho') (by simp only [List.length_append, List.length_singleton] at hj; rw [show ms.length + (j + 1) = ms.length + 1 + j by omega]; exact hj)
theorem apartFrom_at {ops : List Oper} {nid i : Nat} {o : Oper} {r : Res} : ∀ {l : List Oper} {rs : List Res} {ms : List Nat}, apartFrom ops nid i o r l rs ms = true →
    ∀ (q : Nat) (o' : Oper) (r' : Res), l[q]? = some o' → rs[q]? = some r' → Nat.testBit (ms.getD q 0) i = true ∨ apart ops nid o o' r r' = true
  | [], _, _, _, q, o', r', h, _ => by simp at h
  | _ :: _, [], _, _, q, o', r', _, h => by simp at h
  | o1 :: l, r1 :: rs, [], h, _, _, _, _, _ => by simp [apartFrom] at h
  | o1 :: l, r1 :: rs, mk :: ms, h, q, o', r', ho, hr => by
    simp only [apartFrom, Bool.and_eq_true, Bool.or_eq_true] at h
    cases q with
    | zero => simp at ho hr; subst ho; subst hr; simpa using h.1
    | succ q => simp at ho hr; simpa using apartFrom_at h.2 q o' r' ho hr
theorem apartAll_at {ops : List Oper} {nx : Nat} : ∀ {k : Nat} {l : List Oper} {rs : List Res} {ms : List Nat}, apartAll ops nx k l rs ms = true →
    ∀ (p q : Nat) (o o' : Oper) (r r' : Res), p < q → l[p]? = some o → rs[p]? = some r → l[q]? = some o' → rs[q]? = some r' → Nat.testBit (ms.getD q 0) (k + p) = true ∨ apart ops (nx + 8 * (k + p)) o o' r r' = true
  | k, [], _, _, _, p, q, o, o', r, r', _, h, _, _, _ => by simp at h
  | k, _ :: _, [], _, _, p, q, o, o', r, r', _, _, h, _, _ => by simp at h
  | k, _ :: _, _ :: _, [], h, _, _, _, _, _, _, _, _, _, _, _ => by simp [apartAll] at h
  | k, o1 :: l, r1 :: rs, m1 :: ms, h, p, q, o, o', r, r', hpq, ho, hr, ho', hr' => by
    simp only [apartAll, Bool.and_eq_true] at h
    cases q with
    | zero => omega
    | succ q =>
      cases p with
      | zero =>
        simp at ho hr ho' hr'; subst ho; subst hr
        simpa using apartFrom_at h.1 q o' r' ho' hr'
      | succ p =>
        simp at ho hr ho' hr'
        have := apartAll_at h.2 p q o o' r r' (by omega) ho hr ho' hr'
        rw [show k + 1 + p = k + (p + 1) by omega] at this
        simpa using this
theorem edgesAll_at : ∀ {k : Nat} {l : List Oper}, edgesAll k l = true → ∀ (q : Nat) (o : Oper), l[q]? = some o → ∀ e ∈ o.after.toList, Region.binds .any e = true → e.on < k + q
  | k, [], _, q, o, h, _, _, _ => by simp at h
  | k, o1 :: l, h, q, o, ho, e, he, hb => by
    simp only [edgesAll, Bool.and_eq_true] at h
    cases q with
    | zero =>
      simp at ho; subst ho
      have := List.all_eq_true.1 h.1 e he
      simp only [hb, Bool.not_true, Bool.false_or] at this
      exact Nat.lt_of_succ_le (Nat.le_of_ble_eq_true this)
    | succ q =>
      simp at ho
      have := edgesAll_at h.2 q o ho e he hb
      omega

/-! ### The state when the operations of E have been carried out -/
section
variable (ops : List Oper) (rs : List Res) (s : St)
def slE (E : Nat → Bool) (t : Nat) : AVal := look (get s.sl t) (fun i => bif E i then wSlot ops rs t i else none) ops.length
def stE (E : Nat → Bool) (id : Nat) : Option Ob := look (s.st id) (fun i => bif E i then wObj rs id i else none) ops.length
structure RelE (F : Nat → Prop) (N : Nat) (m0 : Place) (w0 : World) (E : Nat → Bool) (a : Act) (w : World) : Prop where
  ex : ∃ m, (∀ t, VRel (stE ops rs s E) m w (okB F (stE ops rs s E) m w) (slE ops rs s E t) (a.tmps.getD t undef)) ∧ SRel F (stE ops rs s E) m w ∧ FrameExt F s.st m0 w0 (stE ops rs s E) m w
  size : a.tmps.size = N
  defers : a.defers = []
end

theorem wSlot_none {ops : List Oper} {rs : List Res} {t j : Nat} (h : ∀ o, ops[j]? = some o → o.dst ≠ some t) : wSlot ops rs t j = none := by
  unfold wSlot
  split
  · rename_i o r ho hr
    rw [if_neg (h o ho)]
  · rfl
theorem wObj_none {rs : List Res} {id j : Nat} (h : ∀ r, rs[j]? = some r → id ∉ wrIds r) : wObj rs id j = none := by
  unfold wObj
  split
  · rename_i r hr
    have : hasId (wrIds r) id = false := by
      cases hh : hasId (wrIds r) id with
      | false => rfl
      | true => exact absurd (hasId_iff.1 hh) (h r hr)
    rw [this]; rfl
  · rfl
theorem metL_false {a b : List Nat} (h : metL a b = false) {i : Nat} (ha : i ∈ a) : i ∉ b := by
  intro hb
  unfold metL at h
  have := List.any_eq_false.1 h i ha
  rw [hasId_iff.2 hb] at this
  exact this rfl

structure Apart (ops : List Oper) (nid : Nat) (o o' : Oper) (r r' : Res) : Prop where
  d1 : ∀ d, o.dst = some d → d ∉ looks ops o' ∧ o'.dst ≠ some d
  d2 : ∀ d, o'.dst = some d → d ∉ looks ops o
  w1 : ∀ i ∈ wrIds r, i ∉ r'.need ∧ i ∉ wrIds r'
  w2 : ∀ i ∈ wrIds r', i ∉ r.need
  w3 : ∀ i ∈ wrIds r', ¬ (nid ≤ i ∧ i < nid + 8)
theorem apart_spec {ops : List Oper} {nid : Nat} {o o' : Oper} {r r' : Res} (h : apart ops nid o o' r r' = true) : Apart ops nid o o' r r' := by
  unfold apart at h
  simp only [Bool.and_eq_true, Bool.not_eq_true'] at h
  obtain ⟨⟨⟨⟨h1, h2⟩, h3⟩, h4⟩, h5⟩ := h
  refine ⟨fun d hd => ?_, fun d hd => ?_, fun i hi => ?_, fun i hi => metL_false h4 hi, fun i hi hlt => ?_⟩
  · rw [hd] at h1
    simp only [Bool.or_eq_false_iff] at h1
    refine ⟨fun hm => (by rw [hasId_iff.2 hm] at h1; cases h1.1), fun he => ?_⟩
    rw [he] at h1
    simp at h1
  · rw [hd] at h2
    simp only at h2
    exact fun hm => (by rw [hasId_iff.2 hm] at h2; cases h2)
  · have := metL_false h3 hi
    simp only [List.mem_append, not_or] at this
    exact this
  · have := List.any_eq_false.1 h5 i hi
    simp only [Bool.and_eq_true, not_and] at this
    exact this (Nat.ble_eq_true_of_le hlt.1) (Nat.ble_eq_true_of_le hlt.2)

theorem step_draw {ops : List Oper} {orcs : List (Nat × Orc)} {s s' : St} {rs : List Res} {N : Nat} {m0 : Place} {w0 : World} (htr : Trace P ops orcs s.nx 0 ops s rs s') (hd : ops.all (dstOk N) = true) (hok : drawOk ops s.nx rs = true) (hC : All (allC rs))
    (hfresh : ∀ id, s.nx ≤ id → s.st id = none) {E : Nat → Bool} (hlt : ∀ j, E j = true → j < ops.length) (hcl : Closed ops E) {i : Nat} {oi : Oper} (hi : ops[i]? = some oi) (hEi : E i = false)
    (hpre : ∀ e ∈ oi.after.toList, Region.binds .any e = true → E e.on = true) {a : Act} {w : World} (hrel : RelE ops rs s F N m0 w0 E a w) (hs0 : SRel F s.st m0 w0) {Q : Exit → Act → World → Prop} {K : Act → World → Prop}
    (hK : ∀ a' w', RelE ops rs s F N m0 w0 (fun j => bif Nat.beq j i then true else E j) a' w' → K a' w') : wpOp P ops.toArray Q i K a w := by
  obtain ⟨hlen, -, hst⟩ := trace_state ops 0 s s' rs htr
  have hil : i < ops.length := (List.getElem?_eq_some_iff.1 hi).1
  have hri : rs[i]? = some rs[i] := List.getElem?_eq_getElem (by omega)
  generalize hr : rs[i] = ri at hri
  obtain ⟨si, hex, hwlt, hsl, hso⟩ := hst i oi ri hi hri
  rw [Nat.zero_add] at hex hwlt
  have hallr : ∀ (q : Nat) (o : Oper) (r : Res), ops[q]? = some o → rs[q]? = some r → (r.wr.all fun x => Nat.blt x.1 (s.nx + 8 * q + 8)) = true := fun q o r ho hr => by
    obtain ⟨_, _, h, _⟩ := hst q o r ho hr
    rwa [Nat.zero_add] at h
  unfold drawOk at hok
  simp only [Bool.and_eq_true] at hok
  -- the order
  have mk1 : ∀ j, E j = true → ∀ k, Nat.testBit ((masks ops []).getD j 0) k = true → E k = true :=
    masks_ok ops [] (fun j hj k hk => by simp at hk) (fun j o ho hj e he hb => hcl j o ho (by simpa using hj) e he hb)
  have mk2 : ∀ k, k ≠ i → Nat.testBit ((masks ops []).getD i 0) k = true → E k = true := by
    intro k hki hk
    have := masks_ok (E := fun j => bif Nat.beq j i then true else E j) ops [] (fun j hj k hk => by simp at hk) (fun j o ho hj e he hb => by
      simp only [List.length_nil, Nat.zero_add] at hj
      by_cases c : j = i
      · subst c
        rw [hi] at ho; cases ho
        have h1 := hpre e he hb
        simp only [h1]
        cases Nat.beq e.on j <;> rfl
      · simp only [beq_ne c, cond_false] at hj
        have h1 := hcl j o ho hj e he hb
        simp only [h1]
        cases Nat.beq e.on i <;> rfl) i (by simp) k hk
    simp only [beq_ne hki, cond_false] at this; exact this
  have ap : ∀ p q o o' r r', p < q → ops[p]? = some o → rs[p]? = some r → ops[q]? = some o' → rs[q]? = some r' → Nat.testBit ((masks ops []).getD q 0) p = false → Apart ops (s.nx + 8 * p) o o' r r' := by
    intro p q o o' r r' hpq ho hr ho' hr' hb
    have := apartAll_at hok.2 p q o o' r r' hpq ho hr ho' hr'
    rw [Nat.zero_add] at this
    rcases this with h | h
    · rw [hb] at h; cases h
    · exact apart_spec h
  have later : ∀ j o r, i < j → E j = true → ops[j]? = some o → rs[j]? = some r → Apart ops (s.nx + 8 * i) oi o ri r := fun j o r hij hEj ho hr => ap i j oi o ri r hij hi hri ho hr (by
    cases hh : Nat.testBit ((masks ops []).getD j 0) i with
    | false => rfl
    | true => have := mk1 j hEj i hh; rw [hEi] at this; cases this)
  have earlier : ∀ j o r, j < i → E j = false → ops[j]? = some o → rs[j]? = some r → Apart ops (s.nx + 8 * j) o oi r ri := fun j o r hji hEj ho hr => ap j i o oi r ri hji ho hr hi hri (by
    cases hh : Nat.testBit ((masks ops []).getD i 0) j with
    | false => rfl
    | true => have := mk2 j (by omega) hh; rw [hEj] at this; cases this)
  have rsome : ∀ j, j < ops.length → ∃ o r, ops[j]? = some o ∧ rs[j]? = some r := fun j hj => ⟨ops[j], rs[j], List.getElem?_eq_getElem hj, List.getElem?_eq_getElem (by omega)⟩
  obtain ⟨⟨m, hv, hS, hF⟩, hsz, hdf⟩ := hrel
  -- what is read
  have e1 : ∀ t ∈ looks ops oi, slE ops rs s E t = get si.sl t := by
    intro t ht
    rw [hsl]
    unfold slE
    rw [look_skip (i := i) (Nat.le_of_lt hil) (fun j hij hjn => by
      by_cases c : j = i
      · subst c; rw [hEi]; rfl
      · cases hEj : E j with
        | false => rfl
        | true =>
          obtain ⟨o, r, ho, hr⟩ := rsome j hjn
          have := later j o r (by omega) hEj ho hr
          exact wSlot_none (fun o' ho' he => by rw [ho] at ho'; cases ho'; exact this.d2 t he ht))]
    refine look_congr (fun j hji => ?_)
    cases hEj : E j with
    | true => rfl
    | false =>
      obtain ⟨o, r, ho, hr⟩ := rsome j (by omega)
      have := earlier j o r hji hEj ho hr
      exact (wSlot_none (fun o' ho' he => by rw [ho] at ho'; cases ho'; exact (this.d1 t he).1 ht)).symm
  have e2 : ∀ id ∈ ri.need, si.st id = stE ops rs s E id := by
    intro id hid
    rw [hso]
    unfold stE
    rw [look_skip (k := ops.length) (i := i) (Nat.le_of_lt hil) (fun j hij hjn => by
      by_cases c : j = i
      · subst c; rw [hEi]; rfl
      · cases hEj : E j with
        | false => rfl
        | true =>
          obtain ⟨o, r, ho, hr⟩ := rsome j hjn
          have := later j o r (by omega) hEj ho hr
          exact wObj_none (fun r' hr' hm => by rw [hr] at hr'; cases hr'; exact this.w2 id hm hid))]
    refine (look_congr (fun j hji => ?_)).symm
    cases hEj : E j with
    | true => rfl
    | false =>
      obtain ⟨o, r, ho, hr⟩ := rsome j (by omega)
      have := earlier j o r hji hEj ho hr
      exact (wObj_none (fun r' hr' hm => by rw [hr] at hr'; cases hr'; exact (this.w1 id hm).1 hid)).symm
  have e3 : ∀ id, s.nx + 8 * i ≤ id → id < s.nx + 8 * i + 8 → stE ops rs s E id = none := by
    intro id h1 h2
    unfold stE
    rw [look_skip (i := 0) (Nat.zero_le _) (fun j _ hjn => by
      cases hEj : E j with
      | false => rfl
      | true =>
        obtain ⟨o, r, ho, hr⟩ := rsome j hjn
        refine wObj_none (fun r' hr' hm => ?_)
        rw [hr] at hr'; cases hr'
        have hji : j ≠ i := fun e => by subst e; rw [hEi] at hEj; cases hEj
        by_cases c : j < i
        · obtain ⟨x, hx, rfl⟩ := List.mem_map.1 hm
          have := Nat.lt_of_succ_le (Nat.le_of_ble_eq_true (List.all_eq_true.1 (hallr j o r ho hr) x hx))
          omega
        · exact (later j o r (by omega) hEj ho hr).w3 id hm ⟨h1, h2⟩)]
    exact hfresh id (by omega)
  -- what is written
  have e4 : app (stE ops rs s E) ri.wr = stE ops rs s (fun j => bif Nat.beq j i then true else E j) := by
    funext id
    by_cases hm : id ∈ wrIds ri
    · rw [app_emp hm]
      unfold stE
      refine (look_hit hil (by simp [wObj, hri, hasId_iff.2 hm]) (fun j hij hjn => ?_)).symm
      simp only [beq_ne (by omega : j ≠ i), cond_false]
      cases hEj : E j with
      | false => rfl
      | true =>
        obtain ⟨o, r, ho, hr⟩ := rsome j hjn
        have := later j o r hij hEj ho hr
        exact wObj_none (fun r' hr' hm' => by rw [hr] at hr'; cases hr'; exact (this.w1 id hm).2 hm')
    · rw [app_not hm]
      unfold stE
      refine look_congr (fun j hjn => ?_)
      by_cases c : j = i
      · subst c
        rw [hEi]
        simp only [cond_false, Nat.beq_refl, cond_true]
        exact (wObj_none (fun r' hr' hm' => by rw [hri] at hr'; cases hr'; exact hm hm')).symm
      · simp only [beq_ne c, cond_false]
  have e5 : ∀ t, slE ops rs s (fun j => bif Nat.beq j i then true else E j) t = if oi.dst = some t then ri.val else slE ops rs s E t := by
    intro t
    by_cases hm : oi.dst = some t
    · rw [if_pos hm]
      unfold slE
      refine look_hit hil (by simp [wSlot, hi, hri, hm]) (fun j hij hjn => ?_)
      simp only [beq_ne (by omega : j ≠ i), cond_false]
      cases hEj : E j with
      | false => rfl
      | true =>
        obtain ⟨o, r, ho, hr⟩ := rsome j hjn
        have := later j o r hij hEj ho hr
        exact wSlot_none (fun o' ho' he => by rw [ho] at ho'; cases ho'; exact (this.d1 t hm).2 he)
    · rw [if_neg hm]
      unfold slE
      refine look_congr (fun j hjn => ?_)
      by_cases c : j = i
      · subst c
        rw [hEi]
        simp only [cond_false, Nat.beq_refl, cond_true]
        exact wSlot_none (fun o' ho' he => by rw [hi] at ho'; cases ho'; exact hm he)
      · simp only [beq_ne c, cond_false]
  have hCi : All ri.cnd := by
    have : ∀ (l : List Res) (q : Nat) (r : Res), All (allC l) → l[q]? = some r → All r.cnd := by
      intro l
      induction l with
      | nil => intro q r _ h; simp at h
      | cons r0 l ih =>
        intro q r h hq
        simp only [allC] at h
        rw [All_append] at h
        cases q with
        | zero => simp at hq; subst hq; exact h.1
        | succ q => simp at hq; exact ih q r h.2 hq
    exact this rs i ri hC hri
  unfold wpOp
  have hai : ops.toArray[i]? = some oi := by simpa using hi
  simp only [hai]
  refine exec1_wp hex hCi e2 hS (fun id h1 h2 => e3 id h1 h2) (fun t ht => by rw [← e1 t ht]; exact hv t) (fun v w' m' k1 k2 k3 => ?_)
  rw [e4] at k1 k2 k3
  refine hK _ _ ⟨⟨m', fun t => ?_, k1, hF.trans hs0 k2⟩, by rw [put_size]; exact hsz, by rw [put_defers]; exact hdf⟩
  rw [e5, put_getD _ _ _ _ (fun d hd' => by
    have := List.all_eq_true.1 hd oi (List.mem_of_getElem? hi)
    unfold dstOk at this
    rw [hd'] at this
    rw [hsz]; exact Nat.lt_of_succ_le (Nat.le_of_ble_eq_true this))]
  split
  · exact k3
  · exact k2.val (hv t)

def listedE (n : Nat) (listed : Array Bool) : Nat → Bool := fun j => Nat.blt j n && listed.getD j false

theorem wpAny_draw {ops : List Oper} {orcs : List (Nat × Orc)} {s s' : St} {rs : List Res} {N : Nat} {m0 : Place} {w0 : World} (htr : Trace P ops orcs s.nx 0 ops s rs s') (hd : ops.all (dstOk N) = true) (hok : drawOk ops s.nx rs = true) (hC : All (allC rs))
    (hfresh : ∀ id, s.nx ≤ id → s.st id = none) (hs0 : SRel F s.st m0 w0) {Q : Exit → Act → World → Prop} (hQ : ∀ E a w, (∀ j, j < ops.length → E j = true) → RelE ops rs s F N m0 w0 E a w → Q .normal a w) :
    ∀ (fuel : Nat) (listed : Array Bool) (a : Act) (w : World), listed.size = ops.length → listed.toList.count false = fuel → Closed ops (listedE ops.length listed) → RelE ops rs s F N m0 w0 (listedE ops.length listed) a w →
      wpAny P .any ops.toArray Q fuel listed a w := by
  have hedge : edgesAll 0 ops = true := by
    unfold drawOk at hok
    simp only [Bool.and_eq_true] at hok
    exact hok.1
  have hget : ∀ (listed : Array Bool) (j : Nat), listed.size = ops.length → j < ops.length → listed.getD j true = listedE ops.length listed j := by
    intro listed j hl hj
    have h1 : Nat.blt j ops.length = true := Nat.ble_eq_true_of_le hj
    have h2 : j < listed.size := by omega
    simp [listedE, h1, h2]
  have ready_mem : ∀ (listed : Array Bool) (i : Nat), listed.size = ops.length → (i ∈ Region.ready .any ops.toArray listed ↔
      ∃ o, ops[i]? = some o ∧ listedE ops.length listed i = false ∧ ∀ e ∈ o.after.toList, Region.binds .any e = true → listedE ops.length listed e.on = true) := by
    intro listed i hl
    unfold Region.ready
    simp only [List.mem_filter, List.mem_range, List.size_toArray, Bool.and_eq_true, Bool.not_eq_true']
    constructor
    · rintro ⟨h1, h2, h3⟩
      rw [hget listed i hl h1] at h2
      refine ⟨ops[i], List.getElem?_eq_getElem h1, h2, fun e he hb => ?_⟩
      simp only [List.getElem?_toArray, List.getElem?_eq_getElem h1, Option.map_some, Option.getD_some, Array.all_eq_true', Bool.or_eq_true, Bool.not_eq_true'] at h3
      have h4 := h3 e (by simpa using he)
      rw [hb] at h4
      have h5 := h4.resolve_left (by simp)
      have h6 : e.on < listed.size := by
        rcases Nat.lt_or_ge e.on listed.size with h | h
        · exact h
        · simp [Array.getElem?_eq_none h] at h5
      have h7 : Nat.blt e.on ops.length = true := Nat.ble_eq_true_of_le (by omega)
      simp only [listedE, h7, Bool.true_and]
      exact h5
    · rintro ⟨o, h1, h2, h3⟩
      have hi : i < ops.length := (List.getElem?_eq_some_iff.1 h1).1
      refine ⟨hi, by rw [hget listed i hl hi]; exact h2, ?_⟩
      simp only [List.getElem?_toArray, h1, Option.map_some, Option.getD_some, Array.all_eq_true', Bool.or_eq_true, Bool.not_eq_true']
      intro e he
      cases hb : Region.binds .any e with
      | false => exact .inl rfl
      | true =>
        right
        have := h3 e (by simpa using he) hb
        simp only [listedE, Bool.and_eq_true] at this
        exact this.2
  have allDone : ∀ (listed : Array Bool), listed.size = ops.length → Region.ready .any ops.toArray listed = [] → ∀ j, j < ops.length → listedE ops.length listed j = true := by
    intro listed hl hr j
    induction j using Nat.strongRecOn with
    | _ j ih =>
      intro hj
      cases hh : listedE ops.length listed j with
      | true => rfl
      | false =>
        have : j ∈ Region.ready .any ops.toArray listed := (ready_mem listed j hl).2 ⟨ops[j], List.getElem?_eq_getElem hj, hh, fun e he hb => by
          have := edgesAll_at hedge j ops[j] (List.getElem?_eq_getElem hj) e he hb
          rw [Nat.zero_add] at this
          exact ih e.on this (by omega)⟩
        rw [hr] at this
        cases this
  intro fuel
  induction fuel with
  | zero =>
    intro listed a w hl hcnt hcl hrel
    have hall : ∀ j, j < ops.length → listedE ops.length listed j = true := by
      intro j hj
      rw [← hget listed j hl hj]
      have hjl : j < listed.size := by omega
      cases hh : listed.getD j true with
      | true => rfl
      | false =>
        have hm : false ∈ listed.toList := by
          have : listed[j] = false := by simpa [hjl] using hh
          rw [← this]
          simp
        have := List.count_pos_iff.2 hm
        omega
    refine ⟨?_, hQ _ a w hall hrel⟩
    cases hr : Region.ready .any ops.toArray listed with
    | nil => rfl
    | cons i l =>
      have : i ∈ Region.ready .any ops.toArray listed := by rw [hr]; simp
      obtain ⟨o, h1, h2, _⟩ := (ready_mem listed i hl).1 this
      have := hall i (List.getElem?_eq_some_iff.1 h1).1
      rw [h2] at this; cases this
  | succ fuel ih =>
    intro listed a w hl hcnt hcl hrel
    refine ⟨fun hr => hQ _ a w (allDone listed hl hr) hrel, fun i hi => ?_⟩
    obtain ⟨o, h1, h2, h3⟩ := (ready_mem listed i hl).1 hi
    have hil : i < ops.length := (List.getElem?_eq_some_iff.1 h1).1
    have hset : listedE ops.length (listed.setIfInBounds i true) = fun j => bif Nat.beq j i then true else listedE ops.length listed j := by
      funext j
      by_cases c : j = i
      · subst c
        have h4 : Nat.blt j ops.length = true := Nat.ble_eq_true_of_le hil
        simp [listedE, h4, hl, hil]
      · rw [beq_ne c]
        simp [listedE, Array.getElem?_setIfInBounds_ne (Ne.symm c)]
    refine step_draw htr hd hok hC hfresh (fun j hj => ?_) hcl h1 h2 h3 hrel hs0 (fun a' w' hr' => ?_)
    · simp only [listedE, Bool.and_eq_true] at hj
      exact Nat.lt_of_succ_le (Nat.le_of_ble_eq_true hj.1)
    · refine ih _ a' w' (by simpa using hl) ?_ ?_ (by rw [hset]; exact hr')
      · have hil' : i < listed.toList.length := by simp; omega
        have hli : listed.toList[i] = false := by
          have := hget listed i hl hil
          rw [h2] at this
          have hjl : i < listed.size := by omega
          simpa [hjl] using this
        rw [Array.toList_setIfInBounds, List.count_set hil', hli, hcnt]
        simp
      · rw [hset]
        intro j o' ho' hj e he hb
        by_cases c : j = i
        · subst c
          rw [h1] at ho'; cases ho'
          have := h3 e he hb
          simp only [this]
          cases Nat.beq e.on j <;> rfl
        · simp only [beq_ne c, cond_false] at hj
          have := hcl j o' ho' hj e he hb
          simp only [this]
          cases Nat.beq e.on i <;> rfl

theorem runR_draw {n : Nat} {ops : List Oper} {orcs : List (Nat × Orc)} {keys : List Nat} {s s' : St} {C : List Prop} (hm : P.follows .mixedOrders = true) (h : runR P n ops true orcs keys s = some (s', C)) (hC : All C) {m : Place} {a : Act} {w : World} (hs : Rel F n s m a w)
    {Q : Exit → Act → World → Prop} (hQ : ∀ m' a' w', Rel F n s' m' a' w' → FrameExt F s.st m w s'.st m' w' → Q .normal a' w') (id : Nat) : (Code.region id ops.toArray true).wp P Q a w := by
  unfold runR at h
  split at h
  rotate_left
  · cases h
  rename_i s2 rs hrun
  obtain ⟨h1, h2⟩ := bif_some h
  simp only [Bool.and_eq_true, Bool.not_true, Bool.false_or] at h1
  simp only [Option.some.injEq, Prod.mk.injEq] at h2
  obtain ⟨rfl, rfl⟩ := h2
  have htr := trace_of ops 0 s s2 rs hrun
  obtain ⟨hlen, ⟨hfs, hfo⟩, hsj⟩ := trace_state ops 0 s s2 rs htr
  refine wp_region_any hm ?_
  have hdr : FrameExt F s.st m w s.st m w.drew := ⟨rfl, rfl, rfl, Nat.le_refl _, fun _ _ _ => rfl, fun id o h => ⟨o, h, Nat.le_refl _, fun _ => rfl, fun h => h, .inl rfl, o.same_refl⟩, fun id o h h' => by rw [h'] at h; cases h⟩
  have hsz : ops.toArray.size = ops.length := by simp
  have hE0 : ∀ j, listedE ops.length (Array.replicate ops.length false) j = false := by
    intro j
    simp only [listedE]
    cases hb : Nat.blt j ops.length with
    | false => rfl
    | true =>
      have : j < ops.length := Nat.lt_of_succ_le (Nat.le_of_ble_eq_true hb)
      simp [this]
  have l0 : ∀ {β : Type} (d : β) (f : Nat → Option β) k, (∀ j, j < k → f j = none) → look d f k = d := fun d f k hf => look_skip (i := 0) (Nat.zero_le _) (fun j _ hj => hf j hj)
  have hst0 : stE ops rs s (listedE ops.length (Array.replicate ops.length false)) = s.st := by
    funext id
    exact l0 _ _ _ (fun j _ => by rw [hE0]; rfl)
  have hsl0 : ∀ t, slE ops rs s (listedE ops.length (Array.replicate ops.length false)) t = get s.sl t := fun t => l0 _ _ _ (fun j _ => by rw [hE0]; rfl)
  have key := wpAny_draw (P := P) (F := F) (N := n) (m0 := m) (w0 := w) (Q := Q) htr h1.1 h1.2 hC hs.fresh hs.srel (fun E a' w' hE hr => by
      obtain ⟨⟨m', q1, q2, q3⟩, q4, q5⟩ := hr
      have hst : stE ops rs s E = s2.st := by
        funext id
        rw [hfo id]
        exact look_congr (fun j hj => by rw [hE j hj]; rfl)
      have hsl : ∀ t, slE ops rs s E t = get s2.sl t := fun t => by
        rw [hfs t]
        exact look_congr (fun j hj => by rw [hE j hj]; rfl)
      rw [hst] at q1 q2 q3
      refine hQ m' a' w' ⟨SlotsRel.keep (fun t => by rw [← hsl t]; exact q1 t) keys, q4, q5, q2, fun id hid => ?_⟩ q3
      simp only at hid ⊢
      rw [hfo id]
      rw [l0 _ _ _ (fun j hj => ?_)]
      · exact hs.fresh id (by omega)
      · refine wObj_none (fun r hr hmem => ?_)
        obtain ⟨sj, _, hw, _⟩ := hsj j ops[j] r (List.getElem?_eq_getElem hj) hr
        obtain ⟨x, hx, rfl⟩ := List.mem_map.1 hmem
        have := Nat.lt_of_succ_le (Nat.le_of_ble_eq_true (List.all_eq_true.1 hw x hx))
        omega) ops.length (Array.replicate ops.length false) a { w with drawn := w.drawn + 1 } (by simp) (by simp) (fun j o ho hj => by rw [hE0] at hj; cases hj) ?_
  · rw [hsz]; exact key
  · refine ⟨⟨m, fun t => ?_, ?_, ?_⟩, hs.size, hs.defers⟩
    · rw [hst0, hsl0]
      exact hdr.val (hs.slots t)
    · rw [hst0]
      exact ⟨fun id o h => (hs.srel.objs id o h).persist hdr (fun _ _ => rfl), hs.srel.inj, hs.srel.avoid, hs.srel.low⟩
    · rw [hst0]; exact hdr

end Go.Ab
