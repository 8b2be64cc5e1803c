/- The abstract values of the framework: immutable trees, owned rows and boxes, and how they stand to the concrete world. -/
import Derived.Calls
import Derived.Orders
import Derived.Tactics
import Derived.Below
set_option linter.unusedVariables false
namespace Go.Ab

/-- Immutable data. 'sc': a one-cell value as it is; 'agg': a struct or an array, cell by cell; 'lst k xs': a slice of elements of k cells each. -/
inductive Tree where
  | sc (v : Value)
  | agg (cs : List Tree)
  | lst (k : Nat) (xs : List Tree)
instance : Inhabited Tree := ⟨.sc (.bool false)⟩

def Tree.cells : Tree → List Tree
  | .agg cs => cs
  | .sc v => [.sc v]
  | .lst k xs => [.lst k xs]
def Tree.isCell : Tree → Bool
  | .agg _ => false
  | _ => true
def flat : List Tree → List Tree
  | [] => []
  | x :: xs => x.cells ++ flat xs

/-- An element of k cells. -/
def Elt (k : Nat) (x : Tree) : Prop := x.cells.length = k ∧ ∀ T ∈ x.cells, T.isCell = true

inductive TRep (w : World) (ok : Nat → Prop) : Tree → Value → Prop
  | sc (v : Value) (h : v.oneCell' = true) : TRep w ok (.sc v) v
  | agg (cs : List Tree) (us : List Value) (hl : us.length = cs.length) (hc : ∀ T ∈ cs, T.isCell = true)
      (h : ∀ (i : Nat) (T : Tree) (u : Value), cs[i]? = some T → us[i]? = some u → TRep w ok T u) : TRep w ok (.agg cs) (.agg us.toArray)
  | lst (k : Nat) (xs : List Tree) (A : Option Addr) (c : Nat) (us : List Value) (hk : 0 < k) (hx : ∀ x ∈ xs, Elt k x) (hn : xs.length ≤ c) (hm : c ≤ maxLen)
      (hA : xs ≠ [] → ∃ b o, A = some ⟨b, o, none⟩ ∧ ok b ∧ ∀ (j : Nat) (u : Value), us[j]? = some u → w.cell? ⟨b, o + j, none⟩ = some u)
      (hl : us.length = xs.length * k)
      (h : ∀ (j : Nat) (T : Tree) (u : Value), (flat xs)[j]? = some T → us[j]? = some u → TRep w ok T u) : TRep w ok (.lst k xs) (.slice A xs.length c)

theorem TRep.mono {w w' : World} {ok ok' : Nat → Prop} (hok : ∀ b, ok b → ok' b) (hc : ∀ b o u, ok b → w.cell? ⟨b, o, none⟩ = some u → w'.cell? ⟨b, o, none⟩ = some u)
    {T : Tree} {v : Value} (h : TRep w ok T v) : TRep w' ok' T v := by
  induction h with
  | sc v h => exact .sc v h
  | agg cs us hl hc' _ ih => exact .agg cs us hl hc' ih
  | lst k xs A c us hk hx hn hm hA hl _ ih =>
    refine .lst k xs A c us hk hx hn hm (fun hne => ?_) hl ih
    obtain ⟨b, o, e, hb, hcell⟩ := hA hne
    exact ⟨b, o, e, hok b hb, fun j u hu => hc _ _ _ hb (hcell j u hu)⟩

theorem TRep.one {w : World} {ok : Nat → Prop} {T : Tree} {v : Value} (h : TRep w ok T v) (hT : T.isCell = true) : v.oneCell' = true := by
  cases h with
  | sc _ h => exact h
  | agg => simp [Tree.isCell] at hT
  | lst => rfl

/-- What a function holds while it runs. 'row id n': the owned slice number id, when it had n elements; 'ptr': into a box; 'eptr': into an element of an owned slice; 'cptr': into immutable memory. -/
inductive AVal where
  | t (T : Tree)
  | row (id n : Nat)
  | ptr (id off : Nat)
  | eptr (id n i sub : Nat)
  | cptr (cs : List Tree)
  | agg (cs : List AVal)
  | fn (f : FuncId) (cap : List AVal)
  | tup (vs : List AVal)
  | cond (c : Bool) (v : AVal)
  | junk
instance : Inhabited AVal := ⟨.junk⟩

/-- The memory that a function may write: a box of cells, or an owned slice of elements of k cells ('fz': written no more). -/
inductive Ob where
  | box (cs : List AVal)
  | row (k : Nat) (fz : Bool) (xs : List Tree)
def Ob.len : Ob → Nat
  | .box cs => cs.length
  | .row _ _ xs => xs.length
def Ob.live : Ob → Bool
  | .box _ => true
  | .row _ fz _ => !fz
/-- Of one shape. -/
def Ob.same : Ob → Ob → Prop
  | .box cs, .box cs' => cs.length = cs'.length
  | .row k _ _, .row k' _ _ => k = k'
  | _, _ => False
theorem Ob.same_refl (o : Ob) : o.same o := by cases o <;> simp [Ob.same]
abbrev Store := Nat → Option Ob
/-- Where an object lies: its block (none: a slice that is still nil), and its capacity. -/
abbrev Place := Nat → Option Nat × Nat
def rowVal (L : Option Nat × Nat) (n : Nat) : Value := .slice (L.1.map fun b => ⟨b, 0, none⟩) n L.2

inductive VRel (st : Store) (m : Place) (w : World) (ok : Nat → Prop) : AVal → Value → Prop
  | t (T : Tree) (u : Value) (h : TRep w ok T u) : VRel st m w ok (.t T) u
  | row (id n k : Nat) (fz : Bool) (xs : List Tree) (L : Option Nat × Nat) (hs : st id = some (.row k fz xs)) (hn : n ≤ xs.length) (hu : n = xs.length → m id = L) :
      VRel st m w ok (.row id n) (rowVal L n)
  | ptr (id off : Nat) (cs : List AVal) (b : Nat) (hs : st id = some (.box cs)) (hm : (m id).1 = some b) : VRel st m w ok (.ptr id off) (.pointer (some ⟨b, off, none⟩))
  | eptr (id n i sub k : Nat) (fz : Bool) (xs : List Tree) (b : Nat) (hs : st id = some (.row k fz xs)) (hn : n ≤ xs.length)
      (hu : n = xs.length → (m id).1 = some b) : VRel st m w ok (.eptr id n i sub) (.pointer (some ⟨b, i * k + sub, none⟩))
  | cptr (cs : List Tree) (b o : Nat) (us : List Value) (hb : ok b) (hl : us.length = cs.length) (hc : ∀ T ∈ cs, T.isCell = true)
      (hcell : ∀ (j : Nat) (u : Value), us[j]? = some u → w.cell? ⟨b, o + j, none⟩ = some u)
      (h : ∀ (j : Nat) (T : Tree) (u : Value), cs[j]? = some T → us[j]? = some u → TRep w ok T u) : VRel st m w ok (.cptr cs) (.pointer (some ⟨b, o, none⟩))
  | agg (cs : List AVal) (us : List Value) (hl : us.length = cs.length)
      (h : ∀ (i : Nat) (v : AVal) (u : Value), cs[i]? = some v → us[i]? = some u → VRel st m w ok v u) (h1 : ∀ u ∈ us, u.oneCell' = true) : VRel st m w ok (.agg cs) (.agg us.toArray)
  | fn (f : FuncId) (cap : List AVal) (us : List Value) (hl : us.length = cap.length)
      (h : ∀ (i : Nat) (v : AVal) (u : Value), cap[i]? = some v → us[i]? = some u → VRel st m w ok v u) : VRel st m w ok (.fn f cap) (.func (.func f) #[] us.toArray)
  | tup (vs : List AVal) (us : List Value) (hl : us.length = vs.length)
      (h : ∀ (i : Nat) (v : AVal) (u : Value), vs[i]? = some v → us[i]? = some u → VRel st m w ok v u) : VRel st m w ok (.tup vs) (.tuple us.toArray)
  | cond (c : Bool) (v : AVal) (u : Value) (h1 : c = true → VRel st m w ok v u) (h0 : c = false → u = undef) : VRel st m w ok (.cond c v) u
  | junk (u : Value) : VRel st m w ok .junk u

/-- The blocks that immutable data may lie in. -/
def okB (F : Nat → Prop) (st : Store) (m : Place) (w : World) (b : Nat) : Prop :=
  b < w.heap.size ∧ ¬ F b ∧ ∀ id o, st id = some o → o.live = true → (m id).1 ≠ some b

def BoxAt (st : Store) (m : Place) (w : World) (ok : Nat → Prop) (cs : List AVal) (L : Option Nat × Nat) : Prop :=
  ∃ b us e, L.1 = some b ∧ w.heap[b]? = some (.cells us e (0, 0)) ∧ us.size = cs.length ∧
    ∀ (i : Nat) (v : AVal) (u : Value), cs[i]? = some v → us[i]? = some u → VRel st m w ok v u ∧ u.oneCell' = true
def RowAt (w : World) (ok : Nat → Prop) (k : Nat) (xs : List Tree) (L : Option Nat × Nat) : Prop :=
  0 < k ∧ (∀ x ∈ xs, Elt k x) ∧ xs.length ≤ L.2 ∧ L.2 ≤ maxLen ∧
    ((L.1 = none ∧ L.2 = 0) ∨ ∃ b us e, L.1 = some b ∧ w.heap[b]? = some (.cells us e (0, 0)) ∧ us.size = L.2 * k ∧ (∀ (j : Nat) (u : Value), us[j]? = some u → u.oneCell' = true) ∧
      ∀ (j : Nat) (T : Tree) (u : Value), (flat xs)[j]? = some T → us[j]? = some u → TRep w ok T u)
def ORel (st : Store) (m : Place) (w : World) (ok : Nat → Prop) : Ob → Option Nat × Nat → Prop
  | .box cs, L => BoxAt st m w ok cs L
  | .row k _ xs, L => RowAt w ok k xs L

structure SRel (F : Nat → Prop) (st : Store) (m : Place) (w : World) : Prop where
  objs : ∀ id o, st id = some o → ORel st m w (okB F st m w) o (m id)
  inj : ∀ i j oi oj b, st i = some oi → st j = some oj → (m i).1 = some b → (m j).1 = some b → i = j
  avoid : ∀ id o b, st id = some o → (m id).1 = some b → ¬ F b
  low : ∀ b, F b → b < w.heap.size

/-- From (st, m, w) to (st', m', w'): what is not among the live objects is as it was; objects stay where they are unless they grow. -/
structure FrameExt (F : Nat → Prop) (st : Store) (m : Place) (w : World) (st' : Store) (m' : Place) (w' : World) : Prop where
  os : w'.os = w.os
  tape : w'.tape = w.tape
  output : w'.output = w.output
  size : w.heap.size ≤ w'.heap.size
  block : ∀ b, b < w.heap.size → (F b ∨ ∀ id o, st id = some o → o.live = true → (m id).1 ≠ some b) → w'.heap[b]? = w.heap[b]?
  keep : ∀ id o, st id = some o → ∃ o', st' id = some o' ∧ o.len ≤ o'.len ∧ (o.len = o'.len → m' id = m id) ∧ (o.live = false → o'.live = false) ∧
    ((m' id).1 = (m id).1 ∨ ∀ b, (m' id).1 = some b → w.heap.size ≤ b) ∧
    o.same o'
  new : ∀ id o, st' id = some o → st id = none → ∀ b, (m' id).1 = some b → w.heap.size ≤ b

theorem FrameExt.refl (F : Nat → Prop) (st : Store) (m : Place) (w : World) : FrameExt F st m w st m w :=
  ⟨rfl, rfl, rfl, Nat.le_refl _, fun _ _ _ => rfl, fun _ o h => ⟨o, h, Nat.le_refl _, fun _ => rfl, id, .inl rfl, o.same_refl⟩, fun id o h h' => by rw [h'] at h; cases h⟩

theorem FrameExt.trans {F : Nat → Prop} {st st1 st2 : Store} {m m1 m2 : Place} {w w1 w2 : World} (hs : SRel F st m w) (h : FrameExt F st m w st1 m1 w1) (k : FrameExt F st1 m1 w1 st2 m2 w2) :
    FrameExt F st m w st2 m2 w2 := by
  refine ⟨k.os.trans h.os, k.tape.trans h.tape, k.output.trans h.output, Nat.le_trans h.size k.size, fun b hb hf => ?_, fun id o ho => ?_, fun id o ho hn b hb => ?_⟩
  · have h1 := h.block b hb hf
    rw [← h1]
    refine k.block b (Nat.lt_of_lt_of_le hb h.size) ?_
    rcases hf with hf | hf
    · exact .inl hf
    · refine .inr fun id o1 ho1 hl1 hm1 => ?_
      cases h0 : st id with
      | none =>
        have := h.new id o1 ho1 h0 b hm1
        omega
      | some o =>
        obtain ⟨o', ho', _, _, hlv, hpl, _⟩ := h.keep id o h0
        rw [ho1] at ho'
        cases ho'
        have hol : o.live = true := by
          cases hh : o.live with
          | true => rfl
          | false => rw [hlv hh] at hl1; cases hl1
        rcases hpl with hp | hp
        · exact hf id o h0 hol (hp ▸ hm1)
        · have := hp b hm1
          omega
  · obtain ⟨o1, ho1, hl, hm, hlv, hpl, hsh⟩ := h.keep id o ho
    obtain ⟨o2, ho2, hl', hm', hlv', hpl', hsh'⟩ := k.keep id o1 ho1
    refine ⟨o2, ho2, Nat.le_trans hl hl', fun e => ?_, fun e => hlv' (hlv e), ?_, ?_⟩
    · rw [hm' (by omega), hm (by omega)]
    · rcases hpl' with hp | hp
      · rcases hpl with hq | hq
        · exact .inl (hp.trans hq)
        · exact .inr fun b hb => hq b (hp ▸ hb)
      · refine .inr fun b hb => ?_
        have := hp b hb
        have := h.size
        omega
    · cases o <;> cases o1 <;> cases o2 <;> simp_all [Ob.same]
  · cases h1 : st1 id with
    | none =>
      have := k.new id o ho h1 b hb
      have := h.size
      omega
    | some o1 =>
      obtain ⟨o2, _, _, _, _, hpl, _⟩ := k.keep id o1 h1
      rcases hpl with hp | hp
      · exact h.new id o1 h1 hn b (hp ▸ hb)
      · have := hp b hb
        have := h.size
        omega

theorem cell_of_heap {w w' : World} {b : Nat} (h : w'.heap[b]? = w.heap[b]?) (o : Nat) : w'.cell? ⟨b, o, none⟩ = w.cell? ⟨b, o, none⟩ := by
  simp only [World.cell?, h]

theorem FrameExt.ok {F : Nat → Prop} {st st' : Store} {m m' : Place} {w w' : World} (h : FrameExt F st m w st' m' w') {b : Nat} (hb : okB F st m w b) : okB F st' m' w' b := by
  obtain ⟨h1, h2, h3⟩ := hb
  refine ⟨Nat.lt_of_lt_of_le h1 h.size, h2, fun id o' ho' hl hm => ?_⟩
  cases h0 : st id with
  | none => have := h.new id o' ho' h0 b hm; omega
  | some o =>
    obtain ⟨o1, ho1, _, _, hlv, hpl, _⟩ := h.keep id o h0
    rw [ho'] at ho1
    cases ho1
    have hol : o.live = true := by
      cases hh : o.live with
      | true => rfl
      | false => rw [hlv hh] at hl; cases hl
    rcases hpl with hp | hp
    · exact h3 id o h0 hol (hp ▸ hm)
    · have := hp b hm
      omega

theorem FrameExt.heap {F : Nat → Prop} {st st' : Store} {m m' : Place} {w w' : World} (h : FrameExt F st m w st' m' w') {b : Nat} (hb : okB F st m w b) : w'.heap[b]? = w.heap[b]? :=
  h.block b hb.1 (.inr hb.2.2)

theorem FrameExt.tree {F : Nat → Prop} {st st' : Store} {m m' : Place} {w w' : World} (h : FrameExt F st m w st' m' w') {T : Tree} {v : Value} (hT : TRep w (okB F st m w) T v) :
    TRep w' (okB F st' m' w') T v :=
  hT.mono (fun _ hb => h.ok hb) (fun b o u hb hc => by rw [cell_of_heap (h.heap hb)]; exact hc)

/-- Values persist. -/
theorem FrameExt.val {F : Nat → Prop} {st st' : Store} {m m' : Place} {w w' : World} (h : FrameExt F st m w st' m' w') {v : AVal} {u : Value} (hv : VRel st m w (okB F st m w) v u) :
    VRel st' m' w' (okB F st' m' w') v u := by
  induction hv with
  | t T u hT => exact .t T u (h.tree hT)
  | row id n k fz xs L hs hn hu =>
    obtain ⟨o', ho', hl, hm, _, _, hsh⟩ := h.keep id _ hs
    cases o' with
    | box => simp [Ob.same] at hsh
    | row k' fz' xs' =>
      simp only [Ob.len] at hl hm
      exact .row id n k' fz' xs' L ho' (Nat.le_trans hn hl) (fun e => by rw [hm (by omega)]; exact hu (by omega))
  | ptr id off cs b hs hm =>
    obtain ⟨o', ho', hl, hm', _, hpl, hsh⟩ := h.keep id _ hs
    cases o' with
    | box cs' =>
      exact .ptr id off cs' b ho' (by rw [hm' hsh]; exact hm)
    | row => simp [Ob.same] at hsh
  | eptr id n i sub k fz xs b hs hn hu =>
    obtain ⟨o', ho', hl, hm, _, _, hsh⟩ := h.keep id _ hs
    cases o' with
    | box => simp [Ob.same] at hsh
    | row k' fz' xs' =>
      simp only [Ob.len] at hl hm
      simp only [Ob.same] at hsh
      subst hsh
      exact .eptr id n i sub k fz' xs' b ho' (Nat.le_trans hn hl) (fun e => by rw [hm (by omega)]; exact hu (by omega))
  | cptr cs b o us hb hl hc hcell hT =>
    exact .cptr cs b o us (h.ok hb) hl hc (fun j u hu => by rw [cell_of_heap (h.heap hb)]; exact hcell j u hu) (fun j T u h1 h2 => h.tree (hT j T u h1 h2))
  | agg cs us hl _ h1 ih => exact .agg cs us hl ih h1
  | fn f cap us hl _ ih => exact .fn f cap us hl ih
  | tup vs us hl _ ih => exact .tup vs us hl ih
  | cond c v u _ h0 ih => exact .cond c v u ih h0
  | junk u => exact .junk u

end Go.Ab
