/- Going through a function's text path by path: the states are reckoned by the kernel and nowhere written out; what an operation asks is proved where its oracle stands. -/
import Derived.Test.YtfhidobmbgmjfaaGreatDoorM1
import Derived.Test.YtfhidobmbgmjfaaGreatDoorM2
import Derived.Test.YtfhidobmbgmjfaaGreatDoorM3
import Derived.Test.YtfhidobmbgmjfaaGreatDoorM4
import Derived.KernelRfl
import Derived.Test.YtfhidobmbgmjfaaGreatDoorProg
import Derived.Maps.RangeRun
section
set_option linter.unusedVariables false
namespace Go.Ab
open Go
variable {P : Program} {w : World} {F : Fen P} {S st : Store} {m : Place}
variable {n : Nat} {l0 : List (Nat × Ob)} {s : St} {Q : Exit → St → Prop}

/-- An oracle with what it makes the operation ask, proved. -/
structure Ox where
  o : Orc
  cs : List Prop
  h : All cs
/-- Steps that see the state in another form. -/
inductive LeI where
  | nR (t k : Nat)
  | nL (t k : Nat)
  | nB (b i k : Nat)
  | fz (id : Nat)
  | fr (t : Nat) (p : List Prop) (h : All p)
  | eq (t : Nat) (d v : AVal) (h : Weak d v)
  | er (id : Nat) (xs ys : List Tree) (h : xs = ys)
  | kp (ts : List Nat)
  | eb (b i : Nat) (v v' : AVal) (h : v = v')
  | mc (id : Nat) (xs' : List Tree) (p : List Prop) (h : All p)
  | mf (t : Nat)
  | fR (t : Nat) (p : List Prop) (h : All p)
  | mv (t i j : Nat) (h : i = j)
  | mput (id : Nat) (es' : List (Int × MV)) (p : List Prop) (h : All p)
  | mfz (id : Nat) (es' : List (Int × MV)) (p : List Prop) (h : All p)
  | me (id : Nat) (es es' : List (Int × MV)) (h : es = es')
inductive It where
  | r (xs : List (Nat × Ox))
  | t
  | f
  | u
  | le (x : LeI)
inductive Fr where
  | seq (c : Code)
  | blk (i : Nat)
  | loop (c : Code)
inductive Ctl where
  | run (c : Code)
  | out (e : Exit)
instance : Inhabited Ctl := ⟨.run .skip⟩
structure Cfg where
  ctl : Ctl
  K : List Fr
  s : St
instance : Inhabited Cfg := ⟨⟨default, [], ⟨[], emp, 0⟩⟩⟩
inductive At where
  | br (b : Bool) (x y : Code) (K : List Fr) (s : St)
  | any (x y : Code) (K : List Fr) (s : St)
  | loop (c : Code) (K : List Fr) (s : St)
  | back (c : Code) (K : List Fr) (s : St)
  | fin (e : Exit) (s : St)
  | mid (c : Code) (K : List Fr) (s : St)

def leR (s : St) : LeI → Option (St × List Prop)
  | .nR t k => match get s.sl t with
    | .t (.sc (.slice none 0 0)) => bif Nat.blt 0 k then some (⟨(t, .row s.nx 0) :: s.sl, upd s.st s.nx (.row k false []), s.nx + 1⟩, []) else none
    | _ => none
  | .nL t k => match get s.sl t with
    | .t (.sc (.slice none 0 0)) => bif Nat.blt 0 k then some (⟨(t, .t (.lst k [])) :: s.sl, s.st, s.nx⟩, []) else none
    | _ => none
  | .nB b i k => match s.st b with
    | some (.box cs) => match cs[i]? with
      | some (.t (.sc (.slice none 0 0))) => bif Nat.blt 0 k then some (⟨s.sl, upd (upd s.st s.nx (.row k false [])) b (.box (cs.set i (.row s.nx 0))), s.nx + 1⟩, []) else none
      | _ => none
    | _ => none
  | .fz id => match s.st id with
    | some (.row k false xs) => some (⟨s.sl, upd s.st id (.row k true xs), s.nx⟩, [])
    | _ => none
  | .fr t _ _ => match snap s.st (get s.sl t) with
    | some (v', g, p) => bif g.all (fun x => Nat.blt x.1 s.nx) then some (⟨(t, v') :: s.sl, app s.st g, s.nx⟩, p) else none
    | none => none
  | .eq t _ v _ => some (⟨(t, v) :: s.sl, s.st, s.nx⟩, [Weak (get s.sl t) v])
  | .er id _ ys _ => match s.st id with
    | some (.row k fz xs) => some (⟨s.sl, upd s.st id (.row k fz ys), s.nx⟩, [xs = ys])
    | _ => none
  | .kp ts => some (⟨keepS s.sl ts, s.st, s.nx⟩, [])
  | .mc id xs' _ _ => match s.st id with
    | some (.mat false xs (some (i, r, q))) => match s.st r with
      | some (.row k _ ys) => some (⟨s.sl, upd (upd s.st r (.row k true ys)) id (.mat false xs' none), s.nx⟩, [q = ys.length, xs.set i (.lst k ys) = xs'])
      | _ => none
    | _ => none
  | .mf t => match get s.sl t with
    | .mat id => match s.st id with
      | some (.mat false xs none) => some (⟨(t, .t (.lst 1 xs)) :: s.sl, upd s.st id (.mat true xs none), s.nx⟩, [])
      | _ => none
    | _ => none
  | .fR t _ _ => match snapR s.st (get s.sl t) with
    | some (v', g, p) => bif g.all (fun x => Nat.blt x.1 s.nx) then some (⟨(t, v') :: s.sl, app s.st g, s.nx⟩, p) else none
    | none => none
  | .mv t _ _ _ => match get s.sl t with
    | .row id q => match s.st id with
      | some (.row k false xs) => some (⟨(t, .row s.nx q) :: s.sl, upd (upd s.st id .gone) s.nx (.row k false xs), s.nx + 1⟩, [q = xs.length])
      | _ => none
    | _ => none
  | .mput id es' _ _ => match s.st id with
    | some (.mp es (some (n, .ptr r 0))) => match s.st r with
      | some (.box cs) => bif Nat.beq r id || !(cs.all isCellV) then none else (allT cs).bind fun Ts => some (⟨s.sl, upd (upd s.st r .gone) id (.mp es' none), s.nx⟩, [(lookE es n).isSome = true, putE es n (.bx Ts) = es'])
      | _ => none
    | some (.mp es (some (n, .row r q))) => match s.st r with
      | some (.row k false xs) => bif Nat.beq r id then none else some (⟨s.sl, upd (upd s.st r .gone) id (.mp es' none), s.nx⟩, [q = xs.length, (lookE es n).isSome = true, putE es n (.rw k xs) = es'])
      | _ => none
    | _ => none
  | .mfz id es' _ _ => match s.st id with
    | some (.mp es none) => some (⟨s.sl, upd s.st id (.mp es' none), s.nx⟩, [(es.map fun x => (x.1, frz x.2)) = es'])
    | _ => none
  | .me id _ es' _ => match s.st id with
    | some (.mp es h) => some (⟨s.sl, upd s.st id (.mp es' h), s.nx⟩, [es = es'])
    | _ => none
  | .eb b i _ v' _ => match s.st b with
    | some (.box cs) => match cs[i]? with
      | some v0 => some (⟨s.sl, upd s.st b (.box (cs.set i v')), s.nx⟩, [v0 = v'])
      | none => none
    | _ => none
def leC : LeI → List Prop
  | .fr _ p _ => p
  | .eq _ d v _ => [Weak d v]
  | .er _ xs ys _ => [xs = ys]
  | .eb _ _ v v' _ => [v = v']
  | .mc _ _ p _ => p
  | .fR _ p _ => p
  | .mv _ i j _ => [i = j]
  | .mput _ _ p _ => p
  | .mfz _ _ p _ => p
  | .me _ es es' _ => [es = es']
  | _ => []
def runA (P : Program) (n : Nat) (ops : List Oper) (draw : Bool) (orcs : List (Nat × Orc)) (s : St) : Option (St × List Prop) :=
  match runL P ops orcs s.nx 0 ops s with
  | some (s', rs) => bif (ops.all (dstOk n)) && (!draw || drawOk ops s.nx rs) then some (⟨s'.sl, s'.st, s.nx + 8 * ops.length⟩, allC rs) else none
  | none => none
def oxO : List (Nat × Ox) → List (Nat × Orc)
  | [] => []
  | (i, x) :: l => (i, x.o) :: oxO l
/- No '++' here: so the kernel, which holds it against the reckoned list, never compares the parts of two '++'. -/
def apC : List Prop → List Prop → List Prop
  | [], t => t
  | p :: l, t => p :: apC l t
def oxC : List (Nat × Ox) → List Prop → List Prop
  | [], t => t
  | (_, x) :: l, t => apC x.cs (oxC l t)
def csL : List It → List Prop
  | [] => []
  | .r xs :: l => oxC xs (csL l)
  | .le x :: l => apC (leC x) (csL l)
  | _ :: l => csL l

inductive OutR where
  | fin
  | back (c : Code) (K : List Fr)
  | go (ctl : Ctl) (K : List Fr)
def outS (e : Exit) : List Fr → OutR
  | [] => .fin
  | .seq c :: K => match e with
    | .normal => .go (.run c) K
    | e => .go (.out e) K
  | .blk i :: K => match e with
    | .exit j => bif Nat.beq j i then .go (.out .normal) K else .go (.out (.exit j)) K
    | e => .go (.out e) K
  | .loop c :: K => match e with
    | .normal => .back c K
    | e => .go (.out e) K
def go (P : Program) (n : Nat) : Nat → List It → Ctl → List Fr → St → List Prop → Option (At × List Prop)
  | 0, _, _, _, _, _ => none
  | fuel + 1, .le x :: sc, ctl, K, s, acc => match leR s x with
    | some (s', C) => go P n fuel sc ctl K s' (acc ++ C)
    | none => none
  | fuel + 1, sc, .run c, K, s, acc => match c with
    | .seq x y => go P n fuel sc (.run x) (.seq y :: K) s acc
    | .skip => go P n fuel sc (.out .normal) K s acc
    | .ret => go P n fuel sc (.out .ret) K s acc
    | .exit i => go P n fuel sc (.out (.exit i)) K s acc
    | .block i c => go P n fuel sc (.run c) (.blk i :: K) s acc
    | .loop c => match sc with
      | [] => some (.loop c K s, acc)
      | .u :: sc => go P n fuel sc (.run c) (.loop c :: K) s acc
      | _ => none
    | .cond c x y => match ev s.sl c with
      | .t (.sc (.bool b)) => match sc with
        | [] => some (.br b x y K s, acc)
        | .t :: sc => bif b then go P n fuel sc (.run x) K s acc else none
        | .f :: sc => bif b then none else go P n fuel sc (.run y) K s acc
        | _ => none
      | .anyB => match sc with
        | [] => some (.any x y K s, acc)
        | _ => none
      | _ => none
    | .region id ops draw => match sc with
      | [] => some (.mid (.region id ops draw) K s, acc)
      | .r xs :: sc => match runA P n ops.toList draw (oxO xs) s with
        | some (s', C) => go P n fuel sc (.out .normal) K s' (acc ++ C)
        | none => none
      | _ => none
    | .rangeFunc g ps a b => match sc with
      | [] => some (.mid (.rangeFunc g ps a b) K s, acc)
      | _ => none
    | _ => none
  | fuel + 1, sc, .out e, K, s, acc => match outS e K with
    | .fin => match sc with
      | [] => some (.fin e s, acc)
      | _ => none
    | .back c K => match sc with
      | [] => some (.back c K s, acc)
      | .u :: sc => go P n fuel sc (.run c) (.loop c :: K) s acc
      | _ => none
    | .go ctl K => go P n fuel sc ctl K s acc

/-! ### Soundness -/
def wrapK (P : Program) (n : Nat) (l0 : List (Nat × Ob)) : List Fr → (Exit → St → Prop) → Exit → St → Prop
  | [], Q => Q
  | .seq c :: K, Q => andThen (fun s => Sim P n l0 c s (wrapK P n l0 K Q)) (wrapK P n l0 K Q)
  | .blk i :: K, Q => inBlk i (wrapK P n l0 K Q)
  | .loop c :: K, Q => andThen (fun s => LoopSim P n l0 c s (wrapK P n l0 K Q)) (wrapK P n l0 K Q)
def LeClosed (n : Nat) (l0 : List (Nat × Ob)) (Q : Exit → St → Prop) : Prop := ∀ e s s', Le n l0 s s' → Q e s' → Q e s
def CtlG (P : Program) (n : Nat) (l0 : List (Nat × Ob)) (Q : Exit → St → Prop) : Ctl → List Fr → St → Prop
  | .run c, K, s => Sim P n l0 c s (wrapK P n l0 K Q)
  | .out e, K, s => wrapK P n l0 K Q e s
def AtG (P : Program) (n : Nat) (l0 : List (Nat × Ob)) (Q : Exit → St → Prop) : At → Prop
  | .any x y K s => Sim P n l0 x s (wrapK P n l0 K Q) ∧ Sim P n l0 y s (wrapK P n l0 K Q)
  | .br b x y K s => (b = true → Sim P n l0 x s (wrapK P n l0 K Q)) ∧ (b = false → Sim P n l0 y s (wrapK P n l0 K Q))
  | .loop c K s => LoopSim P n l0 c s (wrapK P n l0 K Q)
  | .back c K s => LoopSim P n l0 c s (wrapK P n l0 K Q)
  | .fin e s => Q e s
  | .mid c K s => Sim P n l0 c s (wrapK P n l0 K Q)

theorem wrapK_le (hQ : LeClosed n l0 Q) : ∀ (K : List Fr), LeClosed n l0 (wrapK P n l0 K Q)
  | [] => hQ
  | .seq c :: K => fun e s s' h k => by
    cases e with
    | normal => exact Sim.weaken h k
    | _ => exact wrapK_le hQ K _ s s' h k
  | .blk i :: K => fun e s s' h k => by
    cases e with
    | exit j =>
      simp only [wrapK, inBlk] at k ⊢
      split
      · rename_i hj; rw [if_pos hj] at k; exact wrapK_le hQ K _ s s' h k
      · rename_i hj; rw [if_neg hj] at k; exact wrapK_le hQ K _ s s' h k
    | _ => exact wrapK_le hQ K _ s s' h k
  | .loop c :: K => fun e s s' h k => by
    cases e with
    | normal => exact LoopSim.weaken h k
    | _ => exact wrapK_le hQ K _ s s' h k
theorem CtlG_le (hQ : LeClosed n l0 Q) {ctl : Ctl} {K : List Fr} {s s' : St} (h : Le n l0 s s') (k : CtlG P n l0 Q ctl K s') : CtlG P n l0 Q ctl K s := by
  cases ctl with
  | run c => exact Sim.weaken h k
  | out e => exact wrapK_le hQ K e s s' h k
theorem Le.row {id k : Nat} {fz : Bool} {xs ys : List Tree} (hid : s.st id = some (.row k fz xs)) (h : xs = ys) : Le n l0 s ⟨s.sl, upd s.st id (.row k fz ys), s.nx⟩ := by
  have e : upd s.st id (.row k fz ys) = s.st := by
    funext j
    unfold upd
    by_cases hj : j = id
    · subst hj; simp [hid, h]
    · rw [beq_ne hj]; rfl
  rw [e]
  exact fun P F m0 w0 m a w h0 h1 h2 => ⟨m, h1, h2⟩
theorem Le.boxE {b i : Nat} {cs : List AVal} {v0 v : AVal} (hb : s.st b = some (.box cs)) (hi : cs[i]? = some v0) (h : v0 = v) : Le n l0 s ⟨s.sl, upd s.st b (.box (cs.set i v)), s.nx⟩ := by
  subst h
  have e0 : cs.set i v0 = cs := by
    apply List.ext_getElem?
    intro j
    rw [List.getElem?_set]
    split
    · rename_i hj; subst hj
      have := (List.getElem?_eq_some_iff.1 hi).1
      rw [if_pos this, hi]
    · rfl
  have e : upd s.st b (.box (cs.set i v0)) = s.st := by
    funext j
    unfold upd
    by_cases hj : j = b
    · subst hj; simp [hb, e0]
    · rw [beq_ne hj]; rfl
  rw [e]
  exact fun P F m0 w0 m a w h0 h1 h2 => ⟨m, h1, h2⟩
theorem Le.keep (ts : List Nat) : Le n l0 s ⟨keepS s.sl ts, s.st, s.nx⟩ := by
  intro P F m0 w0 m a w h0 h1 h2
  exact ⟨m, ⟨h1.slots.keep ts, h1.size, h1.defers, h1.srel, h1.fresh⟩, h2⟩
/-- A row gets another number; the old one is gone. -/
theorem Le.mvRow {t id q k : Nat} {xs : List Tree} (hg : get s.sl t = .row id q) (hs : s.st id = some (.row k false xs)) (hq : q = xs.length) :
    Le n l0 s ⟨(t, .row s.nx q) :: s.sl, upd (upd s.st id .gone) s.nx (.row k false xs), s.nx + 1⟩ := by
  intro P F m0 w0 m a w h0 h1 h2
  have hn : s.st s.nx = none := h1.fresh s.nx (Nat.le_refl _)
  obtain ⟨k1, k2⟩ := shrink_obj h1.srel hs hn (Nat.le_refl xs.length)
  rw [List.take_length] at k1 k2
  refine ⟨_, ⟨fun t' => ?_, h1.size, h1.defers.ext k2, k1, fun id' hid' => ?_⟩, h2.trans h0 k2⟩
  · simp only [get]
    by_cases e : t = t'
    · subst e
      have hv := h1.slots t
      rw [hg] at hv
      simp only [Nat.beq_refl, cond_true]
      generalize a.tmps.getD t undef = u at hv
      cases hv with
      | row _ _ k' fz' xs' L hs' hn' hu' =>
        rw [hs] at hs'; cases hs'
        have := hu' hq
        exact .row s.nx q k false xs L (upd_same _ _ _) (by omega) (fun _ => by rw [place_same]; exact this)
      | rowG _ _ L hs' => rw [hs] at hs'; cases hs'
    · rw [beq_ne e, cond_false]
      exact k2.val (h1.slots t')
  · show upd (upd s.st id .gone) s.nx _ id' = none
    simp only at hid'
    have hne : id' ≠ id := fun e => by subst e; rw [h1.fresh id' (by omega)] at hs; cases hs
    rw [upd_ne (by omega), upd_ne hne]
    exact h1.fresh id' (by omega)
theorem upd_fresh {S : Store} {nx id i : Nat} {o o' : Ob} (h : ∀ id, nx ≤ id → S id = none) (hi : S i = some o') (hid : nx ≤ id) : upd S i o id = none := by
  have : id ≠ i := fun e => by subst e; rw [h id hid] at hi; cases hi
  rw [upd_ne this]; exact h id hid
/-- A step that changes no memory, where the state's numbers are known to be in order. -/
theorem Le.ghost' {S' : Store} (h : ∀ {P : Program} (F : Fen P) (m : Place) (w : World), SRel F s.st m w → (∀ id, s.nx ≤ id → s.st id = none) → (∀ id, s.nx ≤ id → S' id = none) ∧ ∃ m', SRel F S' m' w ∧ FrameExt F s.st m w S' m' w) : Le n l0 s ⟨s.sl, S', s.nx⟩ := by
  intro P F m0 w0 m a w h0 h1 h2
  obtain ⟨hn, m', k1, k2⟩ := h F m w h1.srel h1.fresh
  exact ⟨m', ⟨fun t => k2.val (h1.slots t), h1.size, h1.defers.ext k2, k1, hn⟩, h2.trans h0 k2⟩
theorem Le.mput {id r : Nat} {es es' : List (Int × MV)} {k : Int} {v : AVal} {o : Ob} {mv : MV} (hid : s.st id = some (.mp es (some (k, v)))) (hr : s.st r = some o) (hlive : o.live = true) (hsame : o.same .gone)
    (hlen : ∀ {P : Program} (F : Fen P) (m : Place) (w : World), SRel F s.st m w → o.len < 18446744073709551616) (hri : r ≠ id) (hl : (lookE es k).isSome = true) (he : putE es k mv = es')
    (hv : ∀ {P : Program} (F : Fen P) (m : Place) (w : World), SRel F s.st m w → ∀ u, VRel s.st m w (okB F s.st m w) v u → ∀ S' m' w', FrameExt F s.st m w S' m' w' → (∀ x, (m r).1 = some x → w'.heap[x]? = w.heap[x]?) → MRel S' m' w' (okB F S' m' w') mv u (m r).1) :
    Le n l0 s ⟨s.sl, upd (upd s.st r .gone) id (.mp es' none), s.nx⟩ := by
  subst he
  obtain ⟨v0, hv0⟩ := Option.isSome_iff_exists.1 hl
  obtain ⟨i, h1, h2⟩ := lookE_some hv0
  refine Le.ghost' (fun F m w hS hf => ⟨fun id' hid' => ?_, put_back hS hid h1 h2 hr hlive hsame (hlen F m w hS) hri (hv F m w hS)⟩)
  have e1 : id' ≠ id := fun e => by subst e; rw [hf id' hid'] at hid; cases hid
  rw [upd_ne e1]
  exact upd_fresh hf hr hid'
theorem leR_sound {x : LeI} {s' : St} {C : List Prop} (h : leR s x = some (s', C)) (hC : All C) : Le n l0 s s' := by
  cases x with
  | nR t k =>
    simp only [leR] at h
    split at h
    · rename_i hg
      obtain ⟨hk, h⟩ := bif_some h
      cases h
      exact Le.nilRow hg (by simp) hk
    · cases h
  | nL t k =>
    simp only [leR] at h
    split at h
    · rename_i hg
      obtain ⟨hk, h⟩ := bif_some h
      cases h
      exact Le.nilLst hg hk
    · cases h
  | nB b i k =>
    simp only [leR] at h
    split at h
    · rename_i cs hb
      split at h
      · rename_i hg
        obtain ⟨hk, h⟩ := bif_some h
        cases h
        exact Le.nilBox hb hg (by simp) hk
      · cases h
    · cases h
  | fz id =>
    simp only [leR] at h
    split at h
    · rename_i hb; cases h; exact Le.fz hb
    · cases h
  | fr t p hp =>
    simp only [leR] at h
    split at h
    · rename_i v' g p hs
      obtain ⟨hk, h⟩ := bif_some h
      cases h
      exact Le.freeze rfl hs hC hk
    · cases h
  | fR t p hp =>
    simp only [leR] at h
    split at h
    · rename_i v' g p hs
      obtain ⟨hk, h⟩ := bif_some h
      cases h
      exact Le.freezeR rfl hs hC hk
    · cases h
  | eq t d v hw =>
    simp only [leR] at h
    cases h
    exact Le.slot rfl hC.1
  | er id xs ys he =>
    simp only [leR] at h
    split at h
    · rename_i hb; cases h; exact Le.row hb hC.1
    · cases h
  | kp ts =>
    simp only [leR] at h
    cases h
    exact Le.keep ts
  | mc id xs' p hp =>
    simp only [leR] at h
    split at h
    · rename_i hid
      split at h
      · rename_i hr
        cases h
        exact Le.matClose hid hr hC.1 hC.2.1
      · cases h
    · cases h
  | mf t =>
    simp only [leR] at h
    split at h
    · rename_i hg
      split at h
      · rename_i hid; cases h; exact Le.matFreeze hg hid
      · cases h
    · cases h
  | mv t i j he =>
    simp only [leR] at h
    split at h
    · rename_i hg
      split at h
      · rename_i hid; cases h; exact Le.mvRow hg hid hC.1
      · cases h
    · cases h
  | mput id es' p hp =>
    simp only [leR] at h
    split at h
    · rename_i es k r hid
      split at h
      · rename_i cs hr
        cases hri : (Nat.beq r id || !cs.all isCellV) with
        | true => rw [hri] at h; cases h
        | false =>
          rw [hri, cond_false] at h
          simp only [Option.bind_eq_some_iff, Option.some.injEq, Prod.mk.injEq] at h
          obtain ⟨Ts, hTs, rfl, rfl⟩ := h
          simp only [Bool.or_eq_false_iff] at hri
          have hne : r ≠ id := fun e => by subst e; simp at hri
          obtain ⟨c1, c2, -⟩ := hC
          have hcs := allT_some hTs
          subst hcs
          refine @Le.mput _ _ _ _ _ _ _ _ _ _ (.bx Ts) hid hr rfl trivial (fun F m w hS => by simp [Ob.len]) hne c1 c2 (@fun P F m w hS u hv S' m' w' hF hx => ?_)
          obtain ⟨bb, us, ty, q1, q2, q3, q4⟩ := hS.objs r _ hr
          have huv : u = .pointer (some ⟨bb, 0, none⟩) := by
            cases hv with
            | ptrG _ _ _ hs' => rw [hr] at hs'; cases hs'
            | ptr _ _ cs' b' hs' hm => rw [q1] at hm; cases hm; rfl
          refine ⟨bb, us, ty, q1, huv, (hx bb q1).trans q2, by simpa using q3, fun T hT => ?_, fun i T u a b' => hF.tree ?_⟩
          · have := hri.2
            simp only [Bool.not_eq_false', List.all_eq_true] at this
            exact this (.t T) (List.mem_map.2 ⟨T, hT, rfl⟩)
          · have := (q4 i (.t T) u (by simp [a]) b').1
            cases this with
            | t _ _ h => exact h
      · cases h
    · rename_i es k r q hid
      split at h
      · rename_i k' xs hr
        cases hri : Nat.beq r id with
        | true => rw [hri] at h; cases h
        | false =>
          rw [hri, cond_false] at h
          simp only [Option.some.injEq, Prod.mk.injEq] at h
          obtain ⟨rfl, rfl⟩ := h
          have hne : r ≠ id := fun e => by subst e; simp at hri
          obtain ⟨c0, c1, c2, -⟩ := hC
          refine @Le.mput _ _ _ _ _ _ _ _ _ _ (.rw k' xs) hid hr rfl trivial (@fun P F m w hS => ?_) hne c1 c2 (@fun P F m w hS u hv S' m' w' hF hx => ?_)
          · obtain ⟨_, _, a3, a4, _⟩ := hS.objs r _ hr
            simp only [maxLen] at a4; simp only [Ob.len]; omega
          · refine ⟨m r, ?_, rfl, RowAt.persist hF (hS.objs r _ hr) hx⟩
            cases hv with
            | rowG _ _ L hs' => rw [hr] at hs'; cases hs'
            | row _ _ k'' fz' xs' L hs' hn' hu' =>
              rw [hr] at hs'; cases hs'
              rw [hu' c0, c0]
      · cases h
    · cases h
  | mfz id es' p hp =>
    simp only [leR] at h
    split at h
    · rename_i es hid
      simp only [Option.some.injEq, Prod.mk.injEq] at h
      obtain ⟨rfl, rfl⟩ := h
      obtain ⟨rfl, -⟩ := hC
      exact Le.ghost' (fun F m w hS hf => ⟨fun id' hid' => upd_fresh hf hid hid', free_all hS hid⟩)
    · cases h
  | me id es1 es' he =>
    simp only [leR] at h
    split at h
    · rename_i es hh hid
      simp only [Option.some.injEq, Prod.mk.injEq] at h
      obtain ⟨rfl, rfl⟩ := h
      obtain ⟨rfl, -⟩ := hC
      have e : upd s.st id (.mp es hh) = s.st := by
        funext j
        unfold upd
        by_cases hj : j = id
        · subst hj; simp [hid]
        · rw [beq_ne hj]; rfl
      rw [e]
      exact fun P F m0 w0 m a w h0 h1 h2 => ⟨m, h1, h2⟩
    · cases h
  | eb b i v v' he =>
    simp only [leR] at h
    split at h
    · rename_i cs hb
      split at h
      · rename_i v0 hi; cases h; exact Le.boxE hb hi hC.1
      · cases h
    · cases h

theorem get_keepS_all : ∀ (ks : List Nat) (sl : List (Nat × AVal)) (t : Nat), t ∈ ks → get (keepS sl ks) t = get sl t
  | k :: ks, sl, t, h => by
    simp only [keepS, get]
    by_cases e : k = t
    · subst e; simp
    · rw [beq_ne e]
      rcases List.mem_cons.1 h with h | h
      · exact absurd h.symm e
      · exact get_keepS_all ks sl t h
theorem get_not : ∀ (sl : List (Nat × AVal)) (t : Nat), t ∉ sl.map (·.1) → get sl t = .junk
  | [], t, h => rfl
  | (k, v) :: sl, t, h => by
    simp only [List.map_cons, List.mem_cons, not_or] at h
    simp only [get]
    rw [beq_ne (Ne.symm h.1)]
    exact get_not sl t h.2
theorem get_keepS_keys (sl : List (Nat × AVal)) (t : Nat) : get (keepS sl (sl.map (·.1))) t = get sl t := by
  by_cases h : t ∈ sl.map (·.1)
  · exact get_keepS_all _ _ _ h
  · rcases keepS_get (sl.map (·.1)) sl t with e | e
    · exact e
    · rw [e, get_not sl t h]
theorem Rel.slots_eq {sl sl' : List (Nat × AVal)} {st : Store} {nx : Nat} {a : Act} (h : Rel F n ⟨sl, st, nx⟩ m a w) (e : ∀ t, get sl' t = get sl t) : Rel F n ⟨sl', st, nx⟩ m a w :=
  ⟨fun t => by rw [e]; exact h.slots t, h.size, h.defers, h.srel, h.fresh⟩
theorem runA_sim (hm : P.follows .mixedOrders = true) {id : Nat} {ops : Array Oper} {draw : Bool} {orcs : List (Nat × Orc)} {s' : St} {C : List Prop} (h : runA P n ops.toList draw orcs s = some (s', C)) (hC : All C) (hq : Q .normal s') :
    Sim P n l0 (.region id ops draw) s Q := by
  unfold runA at h
  split at h
  rotate_left
  · cases h
  rename_i s2 rs hrun
  obtain ⟨h1, h2⟩ := bif_some h
  cases h2
  have hR : runR P n ops.toList draw orcs (s2.sl.map (·.1)) s = some (⟨keepS s2.sl (s2.sl.map (·.1)), s2.st, s.nx + 8 * ops.toList.length⟩, allC rs) := by
    unfold runR
    rw [hrun]
    simp only [h1, cond_true]
  intro F m0 w0 m a w h0 r1 r2
  cases draw with
  | false =>
    have := runR_text hR hC r1 (Q := fun e a' w' => ∃ s' m', Rel F n s' m' a' w' ∧ FrameExt F (app emp l0) m0 w0 s'.st m' w' ∧ Q e s') (fun m' a' w' q1 q2 => ⟨⟨s2.sl, s2.st, s.nx + 8 * ops.toList.length⟩, m', q1.slots_eq (fun t => (get_keepS_keys _ t).symm), r2.trans h0 q2, hq⟩) id
    simpa using this
  | true =>
    have := runR_draw hm hR hC r1 (Q := fun e a' w' => ∃ s' m', Rel F n s' m' a' w' ∧ FrameExt F (app emp l0) m0 w0 s'.st m' w' ∧ Q e s') (fun m' a' w' q1 q2 => ⟨⟨s2.sl, s2.st, s.nx + 8 * ops.toList.length⟩, m', q1.slots_eq (fun t => (get_keepS_keys _ t).symm), r2.trans h0 q2, hq⟩) id
    simpa using this

theorem All_app {a b : List Prop} : All (a ++ b) ↔ All a ∧ All b := All_append

theorem outS_fin {e : Exit} {K : List Fr} (h : outS e K = .fin) : K = [] := by
  cases K with
  | nil => rfl
  | cons f K =>
    cases f with
    | seq c => cases e <;> simp [outS] at h
    | blk i =>
      cases e with
      | exit j => simp only [outS] at h; cases hj : Nat.beq j i <;> rw [hj] at h <;> simp at h
      | _ => simp [outS] at h
    | loop c => cases e <;> simp [outS] at h
theorem outS_back {e : Exit} {K K' : List Fr} {c : Code} (h : outS e K = .back c K') (hA : LoopSim P n l0 c s (wrapK P n l0 K' Q)) : wrapK P n l0 K Q e s := by
  cases K with
  | nil => simp [outS] at h
  | cons f K =>
    cases f with
    | seq c => cases e <;> simp [outS] at h
    | blk i =>
      cases e with
      | exit j => simp only [outS] at h; cases hj : Nat.beq j i <;> rw [hj] at h <;> simp at h
      | _ => simp [outS] at h
    | loop c =>
      cases e with
      | normal => simp only [outS] at h; cases h; exact hA
      | _ => simp [outS] at h
theorem outS_go {e : Exit} {K K' : List Fr} {ctl : Ctl} (h : outS e K = .go ctl K') (hA : CtlG P n l0 Q ctl K' s) : wrapK P n l0 K Q e s := by
  cases K with
  | nil => simp [outS] at h
  | cons f K =>
    cases f with
    | seq c => cases e <;> (simp only [outS] at h; cases h; exact hA)
    | blk i =>
      cases e with
      | exit j =>
        simp only [outS] at h
        show inBlk i _ (.exit j) s
        simp only [inBlk]
        cases hj : Nat.beq j i with
        | true => rw [hj] at h; cases h; rw [if_pos (Nat.eq_of_beq_eq_true hj)]; exact hA
        | false => rw [hj] at h; cases h; rw [if_neg (fun e => by subst e; simp at hj)]; exact hA
      | _ => simp only [outS] at h; cases h; exact hA
    | loop c =>
      cases e with
      | normal => simp [outS] at h
      | _ => simp only [outS] at h; cases h; exact hA

theorem go_sound (hm : P.follows .mixedOrders = true) (hQ : LeClosed n l0 Q) : ∀ (fuel : Nat) (sc : List It) (ctl : Ctl) (K : List Fr) (s : St) (acc : List Prop) (a : At) (C : List Prop),
    go P n fuel sc ctl K s acc = some (a, C) → All C → AtG P n l0 Q a → All acc ∧ CtlG P n l0 Q ctl K s := by
  intro fuel
  induction fuel with
  | zero => intro sc ctl K s acc a C h; simp [go] at h
  | succ fuel ih =>
    intro sc ctl K s acc a C h hC hA
    unfold go at h
    split at h
    · cases h
    · -- a state step
      rename_i x sc' K' s' acc' hfu
      cases hfu
      split at h
      · rename_i s2 C2 hle
        obtain ⟨q1, q2⟩ := ih _ _ _ _ _ _ _ h hC hA
        rw [All_app] at q1
        exact ⟨q1.1, CtlG_le hQ (leR_sound hle q1.2) q2⟩
      · cases h
    · -- the text
      rename_i fuel2 c hfu _
      cases hfu
      split at h
      · obtain ⟨q1, q2⟩ := ih _ _ _ _ _ _ _ h hC hA; exact ⟨q1, Sim.seq q2⟩
      · obtain ⟨q1, q2⟩ := ih _ _ _ _ _ _ _ h hC hA; exact ⟨q1, Sim.skip q2⟩
      · obtain ⟨q1, q2⟩ := ih _ _ _ _ _ _ _ h hC hA; exact ⟨q1, Sim.ret q2⟩
      · obtain ⟨q1, q2⟩ := ih _ _ _ _ _ _ _ h hC hA; exact ⟨q1, Sim.exit q2⟩
      · obtain ⟨q1, q2⟩ := ih _ _ _ _ _ _ _ h hC hA; exact ⟨q1, Sim.block q2⟩
      · split at h
        · cases h; exact ⟨hC, Sim.loop hA⟩
        · obtain ⟨q1, q2⟩ := ih _ _ _ _ _ _ _ h hC hA; exact ⟨q1, Sim.loop (LoopSim.step q2)⟩
        · cases h
      · split at h
        · rename_i b hb
          split at h
          · cases h; exact ⟨hC, Sim.cond hb hA.1 hA.2⟩
          · cases b with
            | true => obtain ⟨q1, q2⟩ := ih _ _ _ _ _ _ _ h hC hA; exact ⟨q1, Sim.cond hb (fun _ => q2) (fun e => by cases e)⟩
            | false => cases h
          · cases b with
            | false => obtain ⟨q1, q2⟩ := ih _ _ _ _ _ _ _ h hC hA; exact ⟨q1, Sim.cond hb (fun e => by cases e) (fun _ => q2)⟩
            | true => cases h
          · cases h
        · rename_i hb
          split at h
          · cases h; exact ⟨hC, Sim.condAny hb hA.1 hA.2⟩
          · cases h
        · cases h
      · split at h
        · cases h; exact ⟨hC, hA⟩
        · split at h
          · rename_i s2 C2 hr
            obtain ⟨q1, q2⟩ := ih _ _ _ _ _ _ _ h hC hA
            rw [All_app] at q1
            exact ⟨q1.1, runA_sim hm hr q1.2 q2⟩
          · cases h
        · cases h
      · split at h
        · cases h; exact ⟨hC, hA⟩
        · cases h
      · cases h
    · -- on the way out
      rename_i fuel2 e hfu _
      cases hfu
      split at h
      · rename_i ho
        split at h
        · cases h; exact ⟨hC, by rw [outS_fin ho]; exact hA⟩
        · cases h
      · rename_i c K' ho
        split at h
        · cases h; exact ⟨hC, outS_back ho hA⟩
        · obtain ⟨q1, q2⟩ := ih _ _ _ _ _ _ _ h hC hA; exact ⟨q1, outS_back ho (LoopSim.step q2)⟩
        · cases h
      · rename_i ctl K' ho
        obtain ⟨q1, q2⟩ := ih _ _ _ _ _ _ _ h hC hA
        exact ⟨q1, outS_go ho q2⟩
end Go.Ab
end
section
set_option linter.unusedVariables false
namespace Go.Ab
open Go
variable {P : Program} {n : Nat} {l0 : List (Nat × Ob)} {Q : Exit → St → Prop}

abbrev VI (x : Int) : AVal := .t (.sc (.int .i64 x))
abbrev VB (b : Bool) : AVal := .t (.sc (.bool b))
abbrev VS (s : ByteArray) : AVal := .t (.sc (.string s))
abbrev VN : AVal := .t (.sc (.slice none 0 0))
abbrev VL {α : Type} (k : Nat) (f : α → Tree) (l : List α) : AVal := .t (.lst k (l.map f))
abbrev TI (x : Int) : Tree := .sc (.int .i64 x)
abbrev TB (b : Bool) : Tree := .sc (.bool b)
abbrev TS (s : ByteArray) : Tree := .sc (.string s)
abbrev TN : Tree := .sc (.slice none 0 0)
abbrev TL {α : Type} (k : Nat) (f : α → Tree) (l : List α) : Tree := .lst k (l.map f)
abbrev OR {α : Type} (k : Nat) (f : α → Tree) (l : List α) : Ob := .row k false (l.map f)
abbrev OF {α : Type} (k : Nat) (f : α → Tree) (l : List α) : Ob := .row k true (l.map f)

/-! ### Rules -/
structure SimC (P : Program) (n : Nat) (l0 : List (Nat × Ob)) (Q : Exit → St → Prop) (c : Cfg) : Prop where
  run : P.follows .mixedOrders = true → LeClosed n l0 Q → CtlG P n l0 Q c.ctl c.K c.s
def runP (P : Program) (n : Nat) (sc : List It) (c : Cfg) : Option (At × List Prop) := go P n 100000 sc c.ctl c.K c.s []
theorem leC_all : ∀ (x : LeI), All (leC x)
  | .fr _ p h => h
  | .eq _ d v h => ⟨h, trivial⟩
  | .er _ xs ys h => ⟨h, trivial⟩
  | .nR _ _ => trivial
  | .nL _ _ => trivial
  | .nB _ _ _ => trivial
  | .fz _ => trivial
  | .kp _ => trivial
  | .eb _ _ _ _ h => ⟨h, trivial⟩
  | .mc _ _ _ h => h
  | .fR _ _ h => h
  | .mv _ _ _ h => ⟨h, trivial⟩
  | .mf _ => trivial
  | .mput _ _ _ h => h
  | .mfz _ _ _ h => h
  | .me _ _ _ h => ⟨h, trivial⟩
theorem apC_all : ∀ {l t : List Prop}, All l → All t → All (apC l t)
  | [], t, _, h => h
  | p :: l, t, hp, h => ⟨hp.1, apC_all hp.2 h⟩
theorem oxC_all : ∀ (l : List (Nat × Ox)) {t : List Prop}, All t → All (oxC l t)
  | [], t, h => h
  | (_, x) :: l, t, h => apC_all x.h (oxC_all l h)
theorem csL_all : ∀ (sc : List It), All (csL sc)
  | [] => trivial
  | .r xs :: l => oxC_all xs (csL_all l)
  | .le x :: l => apC_all (leC_all x) (csL_all l)
  | .t :: l => csL_all l
  | .f :: l => csL_all l
  | .u :: l => csL_all l
theorem run_sound {sc : List It} {c : Cfg} {a : At} {C : List Prop} (h : runP P n sc c = some (a, C)) (hC : All C) (hA : P.follows .mixedOrders = true → LeClosed n l0 Q → AtG P n l0 Q a) : SimC P n l0 Q c :=
  ⟨fun hm hQ => (go_sound hm hQ _ _ _ _ _ _ _ _ h hC (hA hm hQ)).2⟩

def brQ : Option (At × List Prop) → Option (Bool × List Prop)
  | some (.br b _ _ _ _, C) => some (b, C)
  | _ => none
def brX (v : Bool) : Option (At × List Prop) → Cfg
  | some (.br _ x y K s, _) => ⟨.run (bif v then x else y), K, s⟩
  | _ => default
theorem SimC.br {c : Cfg} (sc : List It) (b : Bool) (ht : b = true → SimC P n l0 Q (brX true (runP P n sc c))) (hf : b = false → SimC P n l0 Q (brX false (runP P n sc c)))
    (h : brQ (runP P n sc c) = some (b, csL sc) := by kernel_rfl) : SimC P n l0 Q c := by
  generalize hr : runP P n sc c = r at *
  match r, h with
  | some (.br b' x y K s, C), h =>
    simp only [brQ, Option.some.injEq, Prod.mk.injEq] at h
    obtain ⟨rfl, rfl⟩ := h
    exact run_sound hr (csL_all sc) (fun hm hQ => ⟨fun e => (ht e).run hm hQ, fun e => (hf e).run hm hQ⟩)

/-- What a condition says when it holds, and when it does not. -/
class BP (b : Bool) (t f : outParam Prop) : Prop where
  t : b = true → t
  f : b = false → f
instance (priority := 10) BP.any (b : Bool) : BP b (b = true) (b = false) := ⟨id, id⟩
instance (priority := 100) BP.dec (p : Prop) [Decidable p] : BP (decide p) p (¬ p) := ⟨of_decide_eq_true, of_decide_eq_false⟩
instance BP.ilt (a b : Int) [Decidable (a < b)] : BP (decide (a < b)) (a < b) (b ≤ a) := ⟨of_decide_eq_true, fun h => Int.not_lt.1 (of_decide_eq_false h)⟩
instance BP.ile (a b : Int) [Decidable (a ≤ b)] : BP (decide (a ≤ b)) (a ≤ b) (b < a) := ⟨of_decide_eq_true, fun h => Int.not_le.1 (of_decide_eq_false h)⟩
instance BP.not (b : Bool) {t f : Prop} [h : BP b t f] : BP (!b) f t := ⟨fun e => h.f (by simpa using e), fun e => h.t (by simpa using e)⟩
instance BP.and (a b : Bool) {t f t' f' : Prop} [h : BP a t f] [k : BP b t' f'] : BP (a && b) (t ∧ t') (f ∨ f') := ⟨fun e => by rw [Bool.and_eq_true] at e; exact ⟨h.t e.1, k.t e.2⟩, fun e => by rw [Bool.and_eq_false_iff] at e; exact e.imp h.f k.f⟩
instance BP.or (a b : Bool) {t f t' f' : Prop} [h : BP a t f] [k : BP b t' f'] : BP (a || b) (t ∨ t') (f ∧ f') := ⟨fun e => by rw [Bool.or_eq_true] at e; exact e.imp h.t k.t, fun e => by rw [Bool.or_eq_false_iff] at e; exact ⟨h.f e.1, k.f e.2⟩⟩
instance BP.beq {α : Type} [BEq α] [LawfulBEq α] (a b : α) : BP (a == b) (a = b) (¬ a = b) := ⟨fun e => beq_iff_eq.1 e, fun e => beq_eq_false_iff_ne.1 e⟩
instance BP.bne {α : Type} [BEq α] [LawfulBEq α] (a b : α) : BP (a != b) (¬ a = b) (a = b) := ⟨fun e => bne_iff_ne.1 e, fun e => bne_eq_false_iff_eq.1 e⟩
theorem SimC.bp {c : Cfg} (sc : List It) (b : Bool) {t f : Prop} [hb : BP b t f] (ht : t → SimC P n l0 Q (brX true (runP P n sc c))) (hf : f → SimC P n l0 Q (brX false (runP P n sc c)))
    (h : brQ (runP P n sc c) = some (b, csL sc) := by kernel_rfl) : SimC P n l0 Q c := SimC.br sc b (fun e => ht (hb.t e)) (fun e => hf (hb.f e)) h

def anQ : Option (At × List Prop) → Option (List Prop)
  | some (.any _ _ _ _, C) => some C
  | _ => none
def anX (v : Bool) : Option (At × List Prop) → Cfg
  | some (.any x y K s, _) => ⟨.run (bif v then x else y), K, s⟩
  | _ => default
theorem SimC.any {c : Cfg} (sc : List It) (ht : SimC P n l0 Q (anX true (runP P n sc c))) (hf : SimC P n l0 Q (anX false (runP P n sc c)))
    (h : anQ (runP P n sc c) = some (csL sc) := by kernel_rfl) : SimC P n l0 Q c := by
  generalize hr : runP P n sc c = r at *
  match r, h with
  | some (.any x y K s, C), h =>
    simp only [anQ, Option.some.injEq] at h
    subst h
    exact run_sound hr (csL_all sc) (fun hm hQ => ⟨ht.run hm hQ, hf.run hm hQ⟩)

def mdQ : Option (At × List Prop) → Option (List Prop)
  | some (.mid _ _ _, C) => some C
  | _ => none
def mdX : Option (At × List Prop) → Cfg
  | some (.mid c K s, _) => ⟨.run c, K, s⟩
  | _ => default
theorem SimC.mid {c : Cfg} (sc : List It) (k : SimC P n l0 Q (mdX (runP P n sc c))) (h : mdQ (runP P n sc c) = some (csL sc) := by kernel_rfl) : SimC P n l0 Q c := by
  generalize hr : runP P n sc c = r at *
  match r, h with
  | some (.mid x K s, C), h =>
    simp only [mdQ, Option.some.injEq] at h
    subst h
    exact run_sound hr (csL_all sc) (fun hm hQ => k.run hm hQ)

def mkSt (p : List (Nat × AVal) × List (Nat × Ob)) (nx : Nat) : St := ⟨p.1, app emp p.2, nx⟩
def idT : List (Nat × Ob) → List (Nat × Nat)
  | [] => []
  | (i, _) :: l => (i, i) :: idT l
def keysT : List (Nat × AVal) → List Nat
  | [] => []
  | (i, _) :: l => i :: keysT l
def lpQ (l0 : List (Nat × Ob)) (nx : Nat) (p : List (Nat × AVal) × List (Nat × Ob)) : Option (At × List Prop) → Option ((List (Nat × AVal) × List (Nat × Ob)) × List Prop)
  | some (.loop _ _ s, C) => match renSt l0 (idT p.2) (keysT p.1) nx s with
    | some p => some (p, C)
    | none => none
  | _ => none
def lpC : Option (At × List Prop) → Code
  | some (.loop c _ _, _) => c
  | _ => default
def lpK : Option (At × List Prop) → List Fr
  | some (.loop _ K _, _) => K
  | _ => []
theorem SimC.loop {c : Cfg} {α : Type} (sc : List It) (nx : Nat) (S : α → List (Nat × AVal) × List (Nat × Ob)) (I : α → Prop) (μ : α → Nat) (a : α) (ha : I a)
    (round : ∀ a, I a → (∀ b, I b → μ b < μ a → LoopSim P n l0 (lpC (runP P n sc c)) (mkSt (S b) nx) (wrapK P n l0 (lpK (runP P n sc c)) Q)) →
      SimC P n l0 Q ⟨.run (lpC (runP P n sc c)), .loop (lpC (runP P n sc c)) :: lpK (runP P n sc c), mkSt (S a) nx⟩)
    (h : lpQ l0 nx (S a) (runP P n sc c) = some (S a, csL sc) := by kernel_rfl) : SimC P n l0 Q c := by
  generalize hr : runP P n sc c = r at *
  match r, h with
  | some (.loop x K s, C), h =>
    simp only [lpQ] at h
    split at h
    · rename_i p hp
      simp only [Option.some.injEq, Prod.mk.injEq] at h
      obtain ⟨rfl, rfl⟩ := h
      refine run_sound hr (csL_all sc) (fun hm hQ => ?_)
      have hle : Le n l0 s (mkSt (S a) nx) := Le.ren hp
      refine LoopSim.weaken hle ?_
      exact loop_ind (fun a => mkSt (S a) nx) I μ (fun a hI ih => LoopSim.step ((round a hI ih).run hm hQ)) a ha
    · cases h

def bkQ (l0 : List (Nat × Ob)) (τ : List (Nat × Nat)) (nx : Nat) (p : List (Nat × AVal) × List (Nat × Ob)) : Option (At × List Prop) → Option ((List (Nat × AVal) × List (Nat × Ob)) × List Prop)
  | some (.back _ _ s, C) => match renSt l0 τ (keysT p.1) nx s with
    | some p => some (p, C)
    | none => none
  | _ => none
def bkC : Option (At × List Prop) → Option (Code × List Fr)
  | some (.back c K _, _) => some (c, K)
  | _ => none
theorem SimC.back {c : Cfg} (sc : List It) (τ : List (Nat × Nat)) {p : List (Nat × AVal) × List (Nat × Ob)} {nx : Nat} {body : Code} {K : List Fr} (ih : LoopSim P n l0 body (mkSt p nx) (wrapK P n l0 K Q))
    (h : bkQ l0 τ nx p (runP P n sc c) = some (p, csL sc) := by kernel_rfl) (hc : bkC (runP P n sc c) = some (body, K) := by kernel_rfl) : SimC P n l0 Q c := by
  generalize hr : runP P n sc c = r at *
  match r, h, hc with
  | some (.back x K' s, C), h, hc =>
    simp only [bkC, Option.some.injEq, Prod.mk.injEq] at hc
    obtain ⟨rfl, rfl⟩ := hc
    simp only [bkQ] at h
    split at h
    · rename_i p' hp
      simp only [Option.some.injEq, Prod.mk.injEq] at h
      obtain ⟨rfl, rfl⟩ := h
      exact run_sound hr (csL_all sc) (fun hm hQ => LoopSim.weaken (Le.ren hp) ih)
    · cases h

abbrev FinX := FinM
theorem FinX_le {rv : List ResultVar} {res : AVal} {l1 : List (Nat × Ob)} : LeClosed n l0 (FinX P n l0 rv res l1) := fun _ _ _ h k => FinM.le h k
def resX (P : Program) (rv : List ResultVar) (sl : List (Nat × AVal)) (l : List (Nat × Ob)) : Option AVal := resM P rv sl (app emp l)
def rvKeys : List ResultVar → List Nat
  | [] => []
  | .tmp t :: l => t :: rvKeys l
  | .cell t _ :: l => t :: rvKeys l
def nxOf : List (Nat × Ob) → Nat
  | [] => 0
  | (i, _) :: l => bif Nat.blt i (nxOf l) then nxOf l else i + 1
def nxT : List (Nat × Nat) → Nat
  | [] => 0
  | (_, i) :: l => bif Nat.blt i (nxT l) then nxT l else i + 1
def isEnd : Exit → Bool
  | .ret => true
  | .normal => true
  | _ => false
def fnQ (P : Program) (l0 : List (Nat × Ob)) (τ : List (Nat × Nat)) (rv : List ResultVar) : Option (At × List Prop) → Option (AVal × List (Nat × Ob) × List Prop)
  | some (.fin e s, C) => bif isEnd e then match renSt l0 τ (rvKeys rv) (nxT τ) s with
    | some (sl, l) => match resX P rv sl l with
      | some r => some (r, l, C)
      | none => none
    | none => none
    else none
  | _ => none
theorem isEnd_or {e : Exit} (h : isEnd e = true) : e = .ret ∨ e = .normal := by cases e <;> simp [isEnd] at h ⊢
theorem SimC.finE {c : Cfg} {rv : List ResultVar} {res : AVal} {l1 : List (Nat × Ob)} {β : Type} (sc : List It) (τ : List (Nat × Nat)) (R : β → AVal × List (Nat × Ob)) (x y : β) (e : y = x)
    (h : fnQ P l0 τ rv (runP P n sc c) = some ((R x).1, (R x).2, csL sc) := by kernel_rfl) (hR : R y = (res, l1) := by kernel_rfl) : SimC P n l0 (FinX P n l0 rv res l1) c := by
  subst e
  rw [hR] at h
  generalize hr : runP P n sc c = r at *
  match r, h with
  | some (.fin e s, C), h =>
    simp only [fnQ] at h
    cases he : isEnd e with
    | false => rw [he] at h; cases h
    | true =>
      rw [he] at h
      simp only [cond_true] at h
      split at h
      · rename_i sl l hs
        split at h
        · rename_i r hres
          simp only [Option.some.injEq, Prod.mk.injEq] at h
          obtain ⟨rfl, rfl, rfl⟩ := h
          exact run_sound hr (csL_all sc) (fun hm hQ => FinM.here (isEnd_or he) (Le.ren hs) rfl hres)
        · cases h
      · cases h
theorem SimC.fin {c : Cfg} {rv : List ResultVar} {res : AVal} {l1 : List (Nat × Ob)} (sc : List It) (τ : List (Nat × Nat)) (h : fnQ P l0 τ rv (runP P n sc c) = some (res, l1, csL sc) := by kernel_rfl) : SimC P n l0 (FinX P n l0 rv res l1) c :=
  SimC.finE sc τ (fun z => z) (res, l1) (res, l1) rfl h rfl
/-- The results are taken up, frozen where the steps say so; what is left over is dropped. -/
def leS (s : St) : List LeI → Option (St × List Prop)
  | [] => some (s, [])
  | x :: l => match leR s x with
    | some (s', C) => match leS s' l with
      | some (s2, C2) => some (s2, apC C C2)
      | none => none
    | none => none
def leCs : List LeI → List Prop
  | [] => []
  | x :: l => apC (leC x) (leCs l)
theorem leCs_all : ∀ l : List LeI, All (leCs l)
  | [] => trivial
  | x :: l => apC_all (leC_all x) (leCs_all l)
theorem apC_inv : ∀ {l t : List Prop}, All (apC l t) → All l ∧ All t
  | [], _, h => ⟨trivial, h⟩
  | _ :: _, _, h => ⟨⟨h.1, (apC_inv h.2).1⟩, (apC_inv h.2).2⟩
theorem leS_sound : ∀ {l : List LeI} {s s' : St} {C : List Prop}, leS s l = some (s', C) → All C → Le n l0 s s'
  | [], s, s', C, h, _ => by
    simp only [leS, Option.some.injEq, Prod.mk.injEq] at h
    obtain ⟨rfl, rfl⟩ := h
    exact Le.refl _
  | x :: l, s, s', C, h, hC => by
    simp only [leS] at h
    split at h
    · rename_i s1 C1 h1
      split at h
      · rename_i s2 C2 h2
        simp only [Option.some.injEq, Prod.mk.injEq] at h
        obtain ⟨rfl, rfl⟩ := h
        obtain ⟨q1, q2⟩ := apC_inv hC
        exact Le.trans (leR_sound h1 q1) (leS_sound h2 q2)
      · cases h
    · cases h
def fvQ (P : Program) (l0 : List (Nat × Ob)) (les : List LeI) (τ : List (Nat × Nat)) (rv : List ResultVar) : Option (At × List Prop) → Option (AVal × List (Nat × Ob) × List Prop × List Prop)
  | some (.fin e s, C) => bif isEnd e then match resM P rv s.sl s.st with
    | some r0 => match leS ⟨[(0, r0)], s.st, s.nx⟩ les with
      | some (s2, D) => match renSt l0 τ [0] (nxT τ) s2 with
        | some (sl, l) => some (get sl 0, l, C, D)
        | none => none
      | none => none
    | none => none
    else none
  | _ => none
theorem SimC.finVE {c : Cfg} {rv : List ResultVar} {res : AVal} {l1 : List (Nat × Ob)} {β : Type} (sc : List It) (les : List LeI) (τ : List (Nat × Nat)) (R : β → AVal × List (Nat × Ob)) (x y : β) (e : y = x)
    (h : fvQ P l0 les τ rv (runP P n sc c) = some ((R x).1, (R x).2, csL sc, leCs les) := by kernel_rfl) (hR : R y = (res, l1) := by kernel_rfl) : SimC P n l0 (FinX P n l0 rv res l1) c := by
  subst e
  rw [hR] at h
  generalize hr : runP P n sc c = r at *
  match r, h with
  | some (.fin e s, C), h =>
    simp only [fvQ] at h
    cases he : isEnd e with
    | false => rw [he] at h; cases h
    | true =>
      rw [he] at h
      simp only [cond_true] at h
      split at h
      · rename_i r0 hr0
        split at h
        · rename_i s2 D hD
          split at h
          · rename_i sl l hs
            simp only [Option.some.injEq, Prod.mk.injEq] at h
            obtain ⟨rfl, rfl, rfl, rfl⟩ := h
            exact run_sound hr (csL_all sc) (fun hm hQ => ⟨isEnd_or he, s, r0, ⟨sl, app emp l, nxT τ⟩, Le.refl _, hr0, Le.trans (leS_sound hD (leCs_all les)) (Le.ren hs), rfl, rfl⟩)
          · cases h
        · cases h
      · cases h
theorem SimC.at {c : Cfg} (nx : Nat) (τ : List (Nat × Nat)) (p : List (Nat × AVal) × List (Nat × Ob)) (k : SimC P n l0 Q ⟨c.ctl, c.K, mkSt p nx⟩) (h : renSt l0 τ (keysT p.1) nx c.s = some p := by kernel_rfl) : SimC P n l0 Q c :=
  ⟨fun hm hQ => CtlG_le hQ (Le.ren h) (k.run hm hQ)⟩
theorem SimC.len {x : Code} {K : List Fr} {s : St} {α : Type} (t : Nat) {k : Nat} {f : α → Tree} {l : List α} (h : l.length ≤ 9223372036854775807 → SimC P n l0 Q ⟨.run x, K, s⟩) (hg : get s.sl t = VL k f l := by rfl) : SimC P n l0 Q ⟨.run x, K, s⟩ :=
  ⟨fun hm hQ => Sim.len (t := t) (k := k) (xs := l.map f) hg (fun hl => (h (by simpa using hl)).run hm hQ)⟩
def bodyOf (fn : Func) : Code := fn.body.getD default
theorem FC.go {f : FuncId} {args : List AVal} {res : AVal} {l1 : List (Nat × Ob)} (fn : Func) (h : SimC P fn.ntmps l0 (FinX P fn.ntmps l0 fn.results.toList res l1) ⟨.run (bodyOf fn), [], ⟨argSlots 0 args, app emp l0, nxOf l0⟩⟩)
    (hf : P.funcs[f]? = some fn := by kernel_rfl) (hn : ((args.length).ble fn.ntmps && fn.body.isSome) = true := by kernel_rfl) (hm : P.follows .mixedOrders = true := by kernel_rfl) : FC P f args (app emp l0) res (app emp l1) := by
  simp only [Bool.and_eq_true] at hn
  obtain ⟨c, hb⟩ := Option.isSome_iff_exists.1 hn.2
  have hc : bodyOf fn = c := by unfold bodyOf; rw [hb]; rfl
  have hx : ∀ l : List (Nat × Ob), l.all (fun x => Nat.blt x.1 (nxOf l)) = true := by
    have key : ∀ l : List (Nat × Ob), ∀ x ∈ l, x.1 < nxOf l := by
      intro l
      induction l with
      | nil => intro x h; simp at h
      | cons y l ih =>
        intro x hx
        obtain ⟨i, o⟩ := y
        simp only [nxOf]
        cases hh : Nat.blt i (nxOf l) with
        | true =>
          have := Nat.lt_of_succ_le (Nat.le_of_ble_eq_true hh)
          rcases List.mem_cons.1 hx with rfl | hx
          · exact this
          · exact ih x hx
        | false =>
          rcases List.mem_cons.1 hx with rfl | hx
          · exact Nat.lt_succ_self _
          · have h1 := ih x hx
            have h2 : ¬ (i < nxOf l) := fun h => by rw [show Nat.blt i (nxOf l) = true from Nat.ble_eq_true_of_le h] at hh; cases hh
            simp only [cond_false]
            omega
    intro l
    exact List.all_eq_true.2 fun x hx => Nat.ble_eq_true_of_le (key l x hx)
  have h := h.run hm FinX_le
  simp only [CtlG, wrapK, hc] at h
  exact FC.of_simM hf hb hn.1 (hx l0) h
end Go.Ab
end
section
set_option linter.unusedVariables false
namespace Go.Ab
open Go
variable {P : Program}

structure Px (p : Prop) where
  o : Orc
  cs : List Prop
  h : p → All cs
def gdC (e : Bool) : List Prop → List Prop
  | [] => []
  | p :: l => (e = true → p) :: gdC e l
theorem gdC_all {e : Bool} : ∀ {l : List Prop}, (e = true → All l) → All (gdC e l)
  | [], _ => trivial
  | p :: l, h => ⟨fun he => (h he).1, gdC_all fun he => (h he).2⟩
/-- As it stands; behind a guard; behind a guard, with a write. -/
def X {p : Prop} (x : Px p) (h : p := by first | with_reducible exact True.intro | omega | (and_intros <;> first | omega | with_reducible rfl | with_reducible assumption | with_reducible exact True.intro | (simp only [List.length_map]; omega) | (simp; omega) | (simp; done))) : Ox := ⟨x.o, x.cs, x.h h⟩
def Xg {p : Prop} (e : Bool) (x : Px p) (h : e = true → p := by first | (intro _; with_reducible exact True.intro) | (intro hg; (try simp [-List.getD_eq_getElem?_getD] at hg); first | omega | (and_intros <;> first | omega | with_reducible rfl | with_reducible assumption | with_reducible exact True.intro | (simp only [List.length_map]; omega) | (simp; omega) | (simp [hg]; done)))) : Ox := ⟨x.o, gdC e x.cs, gdC_all fun he => x.h (h he)⟩
def Xw {p : Prop} (e : Bool) (x : Px p) (h : e = true) (hp : p) : Ox := ⟨x.o, gdC e x.cs ++ [e = true], All_app.2 ⟨gdC_all fun _ => x.h hp, h, trivial⟩⟩
def oV (v : AVal) : Orc := ⟨some v, none, none, none, []⟩
def oE (x : Tree) : Orc := ⟨none, none, some x, none, []⟩

/-- A guarded value is read: its guard. -/
def Xq {p : Prop} (e : Bool) (x : Px p) : Px (e = true ∧ p) := ⟨x.o, (e = true) :: x.cs, fun h => ⟨h.1, x.h h.2⟩⟩
/-- Conditions alone. -/
def Xc (p : Prop) : Px p := ⟨Orc.no, [p], fun h => ⟨h, trivial⟩⟩
def X0 : Px True := ⟨Orc.no, [], fun _ => trivial⟩
def Xa {p q : Prop} (x : Px p) (y : Px q) : Px (p ∧ q) := ⟨y.o, x.cs ++ y.cs, fun h => All_app.2 ⟨x.h h.1, y.h h.2⟩⟩
/-- No overflow. -/
def Xn (a : Int) : Px (-9223372036854775808 ≤ a ∧ a ≤ 9223372036854775807) := ⟨oV (VI a), [Weak (VI (IntKind.i64.wrap a)) (VI a)], fun h => ⟨Weak.of_eq (nw h), trivial⟩⟩
def Xmax (a b : Int) : Px True := ⟨oV (VI (max a b)), [Weak (VI (if b > a then b else a)) (VI (max a b))], fun _ => ⟨Weak.of_eq max_if, trivial⟩⟩
def Xmin (a b : Int) : Px True := ⟨oV (VI (min a b)), [Weak (VI (if b < a then b else a)) (VI (min a b))], fun _ => ⟨Weak.of_eq min_if, trivial⟩⟩
/-- The length of a list. -/
def Xl {α : Type} (f : α → Tree) (l : List α) : Px True := ⟨oV (VI (l.length : Int)), [Weak (VI ((l.map f).length : Int)) (VI (l.length : Int))], fun _ => ⟨Weak.of_eq len_map, trivial⟩⟩
/-- An element of a list; its number written otherwise. -/
def Xi {α : Type} [Inhabited α] (f : α → Tree) (l : List α) (j : Int) : Px (0 ≤ j ∧ j < (l.length : Int)) :=
  ⟨oE (f (l.getD j.toNat default)), [0 ≤ j, (l.map f)[j.toNat]? = some (f (l.getD j.toNat default))], fun h => ⟨h.1, elt_map h.1 h.2, trivial⟩⟩
def Xi' {α : Type} [Inhabited α] (f : α → Tree) (l : List α) (j : Int) (k : Nat) : Px (j = (k : Int) ∧ k < l.length) :=
  ⟨oE (f (l.getD k default)), [0 ≤ j, (l.map f)[j.toNat]? = some (f (l.getD k default))], fun h => ⟨by omega, elt_map' h.1 h.2, trivial⟩⟩
/-- An element of a row: its place; what is there; what is written there. -/
def Xp {α : Type} (f : α → Tree) (o : List α) (j : Int) : Px (0 ≤ j ∧ j < (o.length : Int)) :=
  ⟨Orc.no, [o.length = (o.map f).length, 0 ≤ j, j < (o.length : Int)], fun h => ⟨List.length_map _ |>.symm, h.1, h.2, trivial⟩⟩
def Xe {α : Type} [Inhabited α] (f : α → Tree) (o : List α) (i : Nat) : Px (i < o.length) :=
  ⟨oE (f (o.getD i default)), [o.length = (o.map f).length, (o.map f)[i]? = some (f (o.getD i default))], fun h => ⟨List.length_map _ |>.symm, elt_nat h, trivial⟩⟩
def Xs {α : Type} [Inhabited α] (k : Nat) (f : α → Tree) (id : Nat) (o : List α) (i : Nat) (x : α) (g : List (Nat × Ob) := []) : Px (i < o.length) :=
  ⟨⟨none, some (g ++ [(id, .row k false ((o.set i x).map f))]), some (f (o.getD i default)), none, []⟩,
    [o.length = (o.map f).length, (o.map f)[i]? = some (f (o.getD i default)), g ++ [(id, Ob.row k false ((o.set i x).map f))] = g ++ [(id, Ob.row k false ((o.map f).set i (f x)))]],
    fun h => ⟨List.length_map _ |>.symm, elt_nat h, by rw [row_set rfl], trivial⟩⟩
/-- Parts of a list. -/
def Xst {α : Type} (f : α → Tree) (k : Nat) (l : List α) (hi : Int) : Px (0 ≤ hi ∧ hi ≤ (l.length : Int)) :=
  ⟨oV (VL k f (l.take hi.toNat)), [0 ≤ hi, hi ≤ (((l.map f).length : Nat) : Int), Weak (.t (.lst k ((l.map f).take hi.toNat))) (VL k f (l.take hi.toNat))], fun h => ⟨h.1, by rw [List.length_map]; exact h.2, Weak.of_eq sl_take, trivial⟩⟩
/-- The same, of an owned row. -/
def rowC {p : Prop} {α : Type} (f : α → Tree) (o : List α) (x : Px p) : Px p := ⟨x.o, (o.length = (o.map f).length) :: x.cs, fun h => ⟨List.length_map _ |>.symm, x.h h⟩⟩
theorem lm {α : Type} {n : Nat} {f : α → Tree} {o : List α} (h : n = o.length := by first | with_reducible rfl | omega | (simp; done) | (simp; omega)) : n = (o.map f).length := by rw [List.length_map]; exact h
/-- The row's number is said otherwise. -/
def Xen {α : Type} [Inhabited α] (n : Nat) (f : α → Tree) (o : List α) (i : Nat) : Px (n = o.length ∧ i < o.length) :=
  ⟨oE (f (o.getD i default)), [n = (o.map f).length, (o.map f)[i]? = some (f (o.getD i default))], fun h => ⟨by rw [List.length_map]; exact h.1, elt_nat h.2, trivial⟩⟩
def Xpn {α : Type} (n : Nat) (f : α → Tree) (o : List α) (j : Int) : Px (n = o.length ∧ 0 ≤ j ∧ j < (n : Int)) :=
  ⟨Orc.no, [n = (o.map f).length, 0 ≤ j, j < (n : Int)], fun h => ⟨by rw [List.length_map]; exact h.1, h.2.1, h.2.2, trivial⟩⟩
def Xsn {α : Type} [Inhabited α] (n k : Nat) (f : α → Tree) (id : Nat) (o : List α) (i : Nat) (x : α) (g : List (Nat × Ob) := []) : Px (n = o.length ∧ i < o.length) :=
  ⟨⟨none, some (g ++ [(id, .row k false ((o.set i x).map f))]), some (f (o.getD i default)), none, []⟩,
    [n = (o.map f).length, (o.map f)[i]? = some (f (o.getD i default)), g ++ [(id, Ob.row k false ((o.set i x).map f))] = g ++ [(id, Ob.row k false ((o.map f).set i (f x)))]],
    fun h => ⟨by rw [List.length_map]; exact h.1, elt_nat h.2, by rw [row_set rfl], trivial⟩⟩
/-- A byte of a string. -/
def Xb (s : ByteArray) (j : Int) : Px (0 ≤ j ∧ j < (s.size : Int)) := ⟨Orc.no, [0 ≤ j, j < (s.size : Int)], fun h => ⟨h.1, h.2, trivial⟩⟩
/-- append to nil, to a row. -/
def Xan {α : Type} (f : α → Tree) (id : Nat) (ys : List α) : Px (ys.length ≤ 1099511627776) :=
  ⟨oV (.row id ys.length), [(ys.map f).length ≤ 1099511627776, Weak (.row id (ys.map f).length) (.row id ys.length)], fun h => ⟨by rw [List.length_map]; exact h, Weak.of_eq (by rw [List.length_map]), trivial⟩⟩
def Xap {α : Type} (k : Nat) (f : α → Tree) (id : Nat) (o ys : List α) : Px (o.length + ys.length ≤ 1099511627776) :=
  ⟨⟨some (.row id (o ++ ys).length), some [(id, .row k false ((o ++ ys).map f))], none, none, []⟩,
    [o.length = (o.map f).length, o.length + (ys.map f).length ≤ 1099511627776, Weak (.row id (o.length + (ys.map f).length)) (.row id (o ++ ys).length), [(id, Ob.row k false ((o ++ ys).map f))] = [(id, Ob.row k false (o.map f ++ ys.map f))]],
    fun h => ⟨List.length_map _ |>.symm, by rw [List.length_map]; exact h, Weak.of_eq (by simp), row_append rfl, trivial⟩⟩
def XapB {α : Type} (k : Nat) (f : α → Tree) (id : Nat) (o ys : List α) : Px (o.length + ys.length ≤ 8589934592) :=
  ⟨⟨some (.row id (o ++ ys).length), some [(id, .row k false ((o ++ ys).map f))], none, none, []⟩,
    [o.length = (o.map f).length, o.length + (ys.map f).length ≤ 8589934592, Weak (.row id (o.length + (ys.map f).length)) (.row id (o ++ ys).length), [(id, Ob.row k false ((o ++ ys).map f))] = [(id, Ob.row k false (o.map f ++ ys.map f))]],
    fun h => ⟨List.length_map _ |>.symm, by rw [List.length_map]; exact h, Weak.of_eq (by simp), row_append rfl, trivial⟩⟩
def Xmz {α : Type} (k : Nat) (f : α → Tree) (id : Nat) (n m : Int) (z : α) (zs : List Tree) (hz : TWs zs (f z).cells) : Px (0 ≤ n ∧ n ≤ m ∧ m ≤ 1099511627776) :=
  ⟨⟨none, some [(id, .row k false ((List.replicate n.toNat z).map f))], some (f z), none, []⟩, [0 ≤ n, n ≤ m, m ≤ 1099511627776, TWs zs (f z).cells, [(id, Ob.row k false ((List.replicate n.toNat z).map f))] = [(id, Ob.row k false (List.replicate n.toNat (f z)))]],
    fun h => ⟨h.1, h.2.1, h.2.2, hz, by rw [List.map_replicate], trivial⟩⟩
/-- Nil cells of a struct. -/
def Xf (l : List (Nat × Nat)) : Px True := ⟨⟨none, none, none, none, l⟩, [], fun _ => trivial⟩
/-! ### Rows that end earlier, tails, strings gone through -/
def Xnx (s : ByteArray) (p : Nat) : Px (p < s.size) := ⟨Orc.no, [p < s.size], fun h => ⟨h, trivial⟩⟩
def Xov (s : ByteArray) (p : Nat) : Px (s.size ≤ p) := ⟨⟨none, none, none, none, [(0, 0)]⟩, [s.size ≤ p], fun h => ⟨h, trivial⟩⟩

/-- Under a guard, guarded values are read (k of them, by the same guard). -/
def rpC (e : Bool) : Nat → List Prop → List Prop
  | 0, l => l
  | k + 1, l => (e = true) :: rpC e k l
theorem rpC_all {e : Bool} (he : e = true) {l : List Prop} (h : All l) : ∀ k, All (rpC e k l)
  | 0 => h
  | k + 1 => ⟨he, rpC_all he h k⟩
def Xv {p : Prop} (k : Nat) (e : Bool) (x : Px p) (h : e = true → p := by first | (intro _; with_reducible exact True.intro) | (intro hg; (try simp [-List.getD_eq_getElem?_getD] at hg); first | omega | (and_intros <;> first | omega | with_reducible rfl | with_reducible assumption | with_reducible exact True.intro | (simp only [List.length_map]; omega) | (simp; omega) | (simp [hg]; done)))) : Ox :=
  ⟨x.o, gdC e (rpC e k x.cs), gdC_all fun he => rpC_all he (x.h (h he)) k⟩
/-- pick: 'and', 'or'. -/
def Xk (g : Bool) : Px True := ⟨Orc.no, [g = true → g = true], fun _ => ⟨id, trivial⟩⟩
def Xk' (g : Bool) : Px True := ⟨Orc.no, [g = false → (!g) = true], fun _ => ⟨fun h => by simp [h], trivial⟩⟩

def Xka (e g : Bool) : Ox := ⟨Orc.no, [e = true → e = true, e = true → g = true → (e && g) = true], ⟨id, fun h k => by rw [h, k]; rfl, trivial⟩⟩
def Xko (e g : Bool) : Ox := ⟨Orc.no, [e = true → e = true, e = true → g = false → (e && !g) = true], ⟨id, fun h k => by rw [h, k]; rfl, trivial⟩⟩
/-! ### A slice of slices -/
/-! ### Calls -/
theorem FC.nil {f : FuncId} {args : List AVal} {res : AVal} {st st' : Store} (i k : Nat) (h : FC P f args st res st') (hi : args[i]? = some (.t (.lst k [])) := by kernel_rfl) (hk : Nat.blt 0 k = true := by kernel_rfl) : FC P f (args.set i VN) st res st' := by
  intro F m w us hS hl hv
  refine h F m w us hS (by simpa using hl) (fun j v u hj hu => ?_)
  by_cases e : i = j
  · subst e
    rw [hi] at hj
    cases hj
    have hlt := (List.getElem?_eq_some_iff.1 hi).1
    have := hv i VN u (by simp [hlt]) hu
    exact nil_lst (Nat.lt_of_succ_le (Nat.le_of_ble_eq_true hk)) _ _ _ _ _ this
  · exact hv j v u (by rw [List.getElem?_set_ne e]; exact hj) hu
/-- A callee that makes nothing; what its arguments ask ahead. -/
def Xc0 {p : Prop} {f : FuncId} {args : List AVal} {res : AVal} (h : FC P f args emp res emp) (x : Px p) (hc : callable P f = true := by kernel_rfl) : Px p :=
  ⟨⟨none, none, none, some ⟨0, [], res, []⟩, []⟩, (callable P f = true) :: (x.cs ++ [FC P f args emp res emp]), fun hp => ⟨hc, All_app.2 ⟨x.h hp, h, trivial⟩⟩⟩
def freshT : Nat → List (Nat × Ob) → List (Nat × Nat) → List (Nat × Nat)
  | _, [], _ => []
  | nid, (i, _) :: l, τ => match lk τ i with
    | some _ => freshT nid l τ
    | none => (i, nid) :: freshT (nid + 1) l τ
def orL {α : Type} (o : Option (List α)) : List α := o.getD []
def orV (o : Option AVal) : AVal := o.getD .junk
def ck1 (τ : List (Nat × Nat)) (res : AVal) (l1 : List (Nat × Ob)) : Bool := nodupB (τ.map (·.1)) && nodupB (τ.map (·.2)) && (renStore τ (app emp l1) τ).isSome && (renV τ res).isSome
theorem renL_nil_inv {args : List AVal} (h : renL [] args = some args) : renL (inv []) args = some args := h
theorem FC.fresh {f : FuncId} {args : List AVal} {res : AVal} {l1 : List (Nat × Ob)} (τ : List (Nat × Nat)) (h : FC P f args emp res (app emp l1)) (ha : renL [] args = some args) (hk : ck1 τ res l1 = true) :
    FC P f args emp (orV (renV τ res)) (app emp (orL (renStore τ (app emp l1) τ))) := by
  simp only [ck1, Bool.and_eq_true] at hk
  obtain ⟨⟨⟨k1, k2⟩, k3⟩, k4⟩ := hk
  obtain ⟨l', e3⟩ := Option.isSome_iff_exists.1 k3
  obtain ⟨r', e4⟩ := Option.isSome_iff_exists.1 k4
  refine FC.ren (l0 := []) (l0' := []) h [] τ (by simp [nodupB, k1, k2]) rfl (renL_nil_inv ha) rfl ?_ ?_
  · rw [e3]; rfl
  · rw [e4]; rfl
/-- A callee that makes objects of its own. -/
def Xc1 {p : Prop} {f : FuncId} {args : List AVal} {res : AVal} {l1 : List (Nat × Ob)} (nid : Nat) (h : FC P f args emp res (app emp l1)) (x : Px p) (ha : renL [] args = some args := by kernel_rfl)
    (hk : ck1 (freshT nid l1 []) res l1 = true := by kernel_rfl) (hc : callable P f = true := by kernel_rfl) : Px p :=
  ⟨⟨none, none, none, some ⟨1, [], orV (renV (freshT nid l1 []) res), orL (renStore (freshT nid l1 []) (app emp l1) (freshT nid l1 []))⟩, []⟩,
    (callable P f = true) :: (x.cs ++ [FC P f args emp (orV (renV (freshT nid l1 []) res)) (app emp (orL (renStore (freshT nid l1 []) (app emp l1) (freshT nid l1 []))))]),
    fun hp => ⟨hc, All_app.2 ⟨x.h hp, FC.fresh _ h ha hk, trivial⟩⟩⟩
def sndL : List (Nat × Nat) → List Nat
  | [] => []
  | (_, j) :: l => j :: sndL l
def ck3 (τ0 τ : List (Nat × Nat)) (args : List AVal) (l0 : List (Nat × Ob)) (res : AVal) (l1 : List (Nat × Ob)) : Bool :=
  (nodupB (τ0.map (·.1)) && nodupB (τ0.map (·.2)) && nodupB (τ.map (·.1)) && nodupB (τ.map (·.2)) && τ0.all (fun p => match lk τ p.1 with | some j => Nat.beq j p.2 | none => false)) &&
    (orL (renStore τ0 (app emp l0) τ0)).all (fun x => hasId (τ0.map (·.2)) x.1) && (renStore τ (app emp l1) τ).isSome && (renV τ res).isSome &&
    (orL (renStore τ0 (app emp l0) τ0)).all (fun x => hasId ((orL (renStore τ (app emp l1) τ)).map (·.1)) x.1)
theorem app_over {a b : List (Nat × Ob)} (h : ∀ x ∈ a, x.1 ∈ b.map (·.1)) : app (app emp a) b = app emp b := by
  funext i
  by_cases hi : i ∈ b.map (·.1)
  · exact app_at (.inl hi)
  · rw [app_not hi, app_not hi]
    refine app_not (fun hm => ?_)
    obtain ⟨x, hx, rfl⟩ := List.mem_map.1 hm
    exact hi (h x hx)
theorem FC.obj {f : FuncId} {args : List AVal} {res : AVal} {l0 l1 : List (Nat × Ob)} (τ0 τ : List (Nat × Nat)) (h : FC P f args (app emp l0) res (app emp l1)) (hk : ck3 τ0 τ args l0 res l1 = true)
    (h0 : renStore (inv τ0) (app emp (orL (renStore τ0 (app emp l0) τ0))) (inv τ0) = some l0) (ha : renL (inv τ0) (orL (renL τ0 args)) = some args) :
    FC P f (orL (renL τ0 args)) (app emp (orL (renStore τ0 (app emp l0) τ0))) (orV (renV τ res)) (app (app emp (orL (renStore τ0 (app emp l0) τ0))) (orL (renStore τ (app emp l1) τ))) := by
  simp only [ck3, Bool.and_eq_true] at hk
  obtain ⟨⟨⟨⟨k1, k2⟩, k3⟩, k4⟩, k5⟩ := hk
  obtain ⟨l', e3⟩ := Option.isSome_iff_exists.1 k3
  obtain ⟨r', e4⟩ := Option.isSome_iff_exists.1 k4
  rw [app_over (fun x hx => hasId_iff.1 (List.all_eq_true.1 k5 x hx))]
  refine FC.ren h τ0 τ (by simp only [Bool.and_eq_true]; exact k1) h0 ha k2 ?_ ?_
  · rw [e3]; rfl
  · rw [e4]; rfl
/-- A callee that is handed objects. -/
def Xc3 {p : Prop} {f : FuncId} {args : List AVal} {res : AVal} {l0 l1 : List (Nat × Ob)} (nid : Nat) (τ0 : List (Nat × Nat)) (h : FC P f args (app emp l0) res (app emp l1)) (x : Px p)
    (hk : ck3 τ0 (τ0 ++ freshT nid l1 τ0) args l0 res l1 = true := by kernel_rfl)
    (h0 : renStore (inv τ0) (app emp (orL (renStore τ0 (app emp l0) τ0))) (inv τ0) = some l0 := by kernel_rfl) (ha : renL (inv τ0) (orL (renL τ0 args)) = some args := by kernel_rfl) (hc : callable P f = true := by kernel_rfl) : Px p :=
  ⟨⟨none, none, none, some ⟨3, sndL τ0, orV (renV (τ0 ++ freshT nid l1 τ0) res), orL (renStore (τ0 ++ freshT nid l1 τ0) (app emp l1) (τ0 ++ freshT nid l1 τ0))⟩, []⟩,
    [callable P f = true, FC P f (orL (renL τ0 args)) (app emp (orL (renStore τ0 (app emp l0) τ0))) (orV (renV (τ0 ++ freshT nid l1 τ0) res)) (app (app emp (orL (renStore τ0 (app emp l0) τ0))) (orL (renStore (τ0 ++ freshT nid l1 τ0) (app emp l1) (τ0 ++ freshT nid l1 τ0))))],
    fun hp => ⟨hc, FC.obj _ _ h hk h0 ha, trivial⟩⟩
/-- One that only reads them. -/
theorem FC.objr {f : FuncId} {args : List AVal} {res : AVal} {l0 : List (Nat × Ob)} (τ0 : List (Nat × Nat)) (h : FC P f args (app emp l0) res (app emp l0)) (hk : ck3 τ0 τ0 args l0 res l0 = true)
    (h0 : renStore (inv τ0) (app emp (orL (renStore τ0 (app emp l0) τ0))) (inv τ0) = some l0) (ha : renL (inv τ0) (orL (renL τ0 args)) = some args) :
    FC P f (orL (renL τ0 args)) (app emp (orL (renStore τ0 (app emp l0) τ0))) (orV (renV τ0 res)) (app (app emp (orL (renStore τ0 (app emp l0) τ0))) []) := by
  have := FC.obj τ0 τ0 h hk h0 ha
  simp only [ck3, Bool.and_eq_true] at hk
  rw [app_over (fun x hx => hasId_iff.1 (List.all_eq_true.1 hk.2 x hx))] at this
  exact this
def Xc4 {p : Prop} {f : FuncId} {args : List AVal} {res : AVal} {l0 : List (Nat × Ob)} (τ0 : List (Nat × Nat)) (h : FC P f args (app emp l0) res (app emp l0)) (x : Px p)
    (hk : ck3 τ0 τ0 args l0 res l0 = true := by kernel_rfl)
    (h0 : renStore (inv τ0) (app emp (orL (renStore τ0 (app emp l0) τ0))) (inv τ0) = some l0 := by kernel_rfl) (ha : renL (inv τ0) (orL (renL τ0 args)) = some args := by kernel_rfl) (hc : callable P f = true := by kernel_rfl) : Px p :=
  ⟨⟨none, none, none, some ⟨3, sndL τ0, orV (renV τ0 res), []⟩, []⟩,
    [callable P f = true, FC P f (orL (renL τ0 args)) (app emp (orL (renStore τ0 (app emp l0) τ0))) (orV (renV τ0 res)) (app (app emp (orL (renStore τ0 (app emp l0) τ0))) [])],
    fun hp => ⟨hc, FC.objr _ h hk h0 ha, trivial⟩⟩
theorem pr {α β : Type} {a b : α} {c d : β} (h : a = b) (k : c = d) : (a, c) = (b, d) := by rw [h, k]
def Xcv (k : IntKind) (z : Int) : Px (k.wrap z = z) := ⟨oV (.t (.sc (.int k z))), [Weak (.t (.sc (.int k (k.wrap z)))) (.t (.sc (.int k z)))], fun h => ⟨Weak.of_eq (by rw [h]), trivial⟩⟩
def Xsh (k : IntKind) (b y z : Int) : Px (0 ≤ b ∧ y = z) := ⟨oV (.t (.sc (.int k z))), [0 ≤ b, Weak (.t (.sc (.int k y))) (.t (.sc (.int k z)))], fun h => ⟨h.1, Weak.of_eq (by rw [h.2]), trivial⟩⟩
end Go.Ab
end
section
set_option linter.unusedVariables false
set_option linter.unusedSimpArgs false
namespace Go.Ch
open Go Go.Ab

structure Attr where
  name : ByteArray
  val : ByteArray
abbrev mt : ByteArray := { data := #[] }
instance : Inhabited Attr := ⟨⟨mt, mt⟩⟩
def attrT (a : Attr) : Tree := .agg [.sc (.string a.name), .sc (.string a.val)]

/-! ### The order of strings -/
theorem byt_ext {a b : ByteArray} (h : a.toList = b.toList) : a = b := by
  rw [ByteArray.toList_eq, ByteArray.toList_eq] at h
  obtain ⟨⟨x⟩⟩ := a
  obtain ⟨⟨y⟩⟩ := b
  simpa using h
theorem seq_iff {a b : ByteArray} : seq a b = true ↔ a = b := by
  unfold seq
  rw [beq_iff_eq]
  exact ⟨byt_ext, fun h => by rw [h]⟩
theorem seq_no {a b : ByteArray} : seq a b = false ↔ a ≠ b := by
  rw [← Bool.not_eq_true, seq_iff]
theorem bl_irr : ∀ x : List UInt8, Op.bytesLess x x = false
  | [] => rfl
  | a :: x => by simp [Op.bytesLess, bl_irr x]
theorem bl_trans : ∀ x y z : List UInt8, Op.bytesLess x y = true → Op.bytesLess y z = true → Op.bytesLess x z = true
  | _, _, [], _, h => by cases ‹List UInt8› <;> simp [Op.bytesLess] at h
  | [], _, _ :: _, _, _ => rfl
  | a :: x, [], _ :: _, h, _ => by simp [Op.bytesLess] at h
  | a :: x, b :: y, c :: z, h1, h2 => by
    simp only [Op.bytesLess, Bool.or_eq_true, decide_eq_true_eq, Bool.and_eq_true, beq_iff_eq, UInt8.lt_iff_toNat_lt, ← UInt8.toNat_inj] at h1 h2 ⊢
    rcases h1 with h1 | ⟨h1, h1'⟩
    · rcases h2 with h2 | ⟨h2, h2'⟩ <;> (left; omega)
    · rcases h2 with h2 | ⟨h2, h2'⟩
      · left; omega
      · right; exact ⟨by omega, bl_trans x y z h1' h2'⟩
theorem bl_tri : ∀ x y : List UInt8, Op.bytesLess x y = false → Op.bytesLess y x = false → x = y
  | [], [], _, _ => rfl
  | [], _ :: _, h, _ => by simp [Op.bytesLess] at h
  | _ :: _, [], _, h => by simp [Op.bytesLess] at h
  | a :: x, b :: y, h1, h2 => by
    simp only [Op.bytesLess, Bool.or_eq_false_iff, decide_eq_false_iff_not, Bool.and_eq_false_iff, beq_eq_false_iff_ne, UInt8.lt_iff_toNat_lt, ne_eq, ← UInt8.toNat_inj] at h1 h2
    have e : a.toNat = b.toNat := by omega
    have h1' : Op.bytesLess x y = false := by rcases h1.2 with h | h; exact absurd e h; exact h
    have h2' : Op.bytesLess y x = false := by rcases h2.2 with h | h; exact absurd e.symm h; exact h
    rw [UInt8.toNat_inj.1 e, bl_tri x y h1' h2']
theorem slt_irr (a : ByteArray) : slt a a = false := bl_irr _
theorem slt_trans {a b c : ByteArray} (h : slt a b = true) (k : slt b c = true) : slt a c = true := bl_trans _ _ _ h k
theorem slt_tri {a b : ByteArray} (h : slt a b = false) (k : slt b a = false) : a = b := byt_ext (bl_tri _ _ h k)
theorem slt_ne {a b : ByteArray} (h : slt a b = true) : a ≠ b := fun e => by subst e; rw [slt_irr] at h; cases h
theorem slt_asymm {a b : ByteArray} (h : slt a b = true) : slt b a = false := by
  cases k : slt b a with
  | false => rfl
  | true => have := slt_trans h k; rw [slt_irr] at this; cases this
/-! ### Lists in order -/
/-- All names are greater than n. -/
def Above (n : ByteArray) (l : List Attr) : Prop := ∀ a ∈ l, slt n a.name = true
def Sorted : List Attr → Prop
  | [] => True
  | a :: l => Above a.name l ∧ Sorted l
def look : List Attr → ByteArray → Option ByteArray
  | [], _ => none
  | a :: l, n => if a.name = n then some a.val else look l n
theorem look_above {l : List Attr} {n : ByteArray} (h : ∀ a ∈ l, a.name ≠ n) : look l n = none := by
  induction l with
  | nil => rfl
  | cons a l ih => rw [look, if_neg (h a (by simp))]; exact ih (fun b hb => h b (by simp [hb]))
theorem look_mem {l : List Attr} {n v : ByteArray} (h : look l n = some v) : (⟨n, v⟩ : Attr) ∈ l := by
  induction l with
  | nil => cases h
  | cons a l ih =>
    rw [look] at h
    split at h
    · rename_i hn
      cases h
      subst hn
      exact List.mem_cons_self
    · exact List.mem_cons_of_mem _ (ih h)
theorem look_of_mem {l : List Attr} (hs : Sorted l) {a : Attr} (h : a ∈ l) : look l a.name = some a.val := by
  induction l with
  | nil => cases h
  | cons b l ih =>
    rw [look]
    rcases List.mem_cons.1 h with rfl | h
    · rw [if_pos rfl]
    · rw [if_neg (slt_ne (hs.1 a h))]; exact ih hs.2 h
theorem sorted_ext : ∀ {a b : List Attr}, Sorted a → Sorted b → (∀ n, look a n = look b n) → a = b
  | [], [], _, _, _ => rfl
  | [], y :: b, _, _, h => by have := h y.name; simp [look] at this
  | x :: a, [], _, _, h => by have := h x.name; simp [look] at this
  | x :: a, y :: b, ha, hb, h => by
    have hxy : x.name = y.name := by
      refine slt_tri ?_ ?_
      · cases k : slt x.name y.name with
        | false => rfl
        | true =>
          have h1 := h x.name
          rw [look, if_pos rfl, look, if_neg (fun e => slt_ne k e.symm), look_above (fun z hz e => slt_ne (slt_trans k (hb.1 z hz)) e.symm)] at h1
          cases h1
      · cases k : slt y.name x.name with
        | false => rfl
        | true =>
          have h1 := h y.name
          rw [look, if_neg (fun e => slt_ne k e.symm), look_above (fun z hz e => slt_ne (slt_trans k (ha.1 z hz)) e.symm), look, if_pos rfl] at h1
          cases h1
    have hv : x.val = y.val := by
      have h1 := h x.name
      rw [look, if_pos rfl, look, if_pos hxy.symm] at h1
      exact Option.some.inj h1
    have e : x = y := by cases x; cases y; simp_all
    subst e
    rw [sorted_ext ha.2 hb.2 (fun n => ?_)]
    by_cases hn : x.name = n
    · subst hn
      rw [look_above (fun z hz e => slt_ne (ha.1 z hz) e.symm), look_above (fun z hz e => slt_ne (hb.1 z hz) e.symm)]
    · have h1 := h n
      rwa [look, if_neg hn, look, if_neg hn] at h1

/-! ### Two lists at once -/
def bothL : List Attr → List Attr → List (Attr × Attr)
  | [], [] => []
  | [], y :: b => (default, y) :: bothL [] b
  | x :: a, [] => (x, default) :: bothL a []
  | x :: a, y :: b =>
    if slt x.name y.name = true then (x, default) :: bothL a (y :: b)
    else if slt y.name x.name = true then (default, y) :: bothL (x :: a) b
    else (x, y) :: bothL a b
termination_by a b => a.length + b.length
theorem bothL_len : ∀ a b : List Attr, (bothL a b).length ≤ a.length + b.length := by
  intro a b
  induction a, b using bothL.induct with
  | case1 => simp [bothL]
  | case2 y b ih => simp only [bothL, List.length_cons] at ih ⊢; omega
  | case3 x a ih => simp only [bothL, List.length_cons] at ih ⊢; omega
  | case4 x a y b h ih => rw [bothL, if_pos h]; simp only [List.length_cons] at ih ⊢; omega
  | case5 x a y b h k ih => rw [bothL, if_neg h, if_pos k]; simp only [List.length_cons] at ih ⊢; omega
  | case6 x a y b h k ih => rw [bothL, if_neg h, if_neg k]; simp only [List.length_cons] at ih ⊢; omega

def Named (l : List Attr) : Prop := ∀ a ∈ l, a.name ≠ mt
/-- What a visitor may make of a pair: nothing, or an attribute of that name. -/
def Fair (g : Attr → Attr → Option Attr) : Prop := ∀ x y z, g x y = some z → z.name = if y.name = mt then x.name else y.name
def fm (g : Attr → Attr → Option Attr) (a b : List Attr) : List Attr := (bothL a b).filterMap fun p => g p.1 p.2
/-- What the visitor makes of what both lists have under a name. -/
def at2 (g : Attr → Attr → Option Attr) (n : ByteArray) : Option ByteArray → Option ByteArray → Option ByteArray
  | none, none => none
  | some v, none => (g ⟨n, v⟩ default).map (·.val)
  | none, some w => (g default ⟨n, w⟩).map (·.val)
  | some v, some w => (g ⟨n, v⟩ ⟨n, w⟩).map (·.val)

theorem fm_cons {g : Attr → Attr → Option Attr} {x y : Attr} {l : List (Attr × Attr)} : ((x, y) :: l).filterMap (fun p => g p.1 p.2) = (g x y).toList ++ l.filterMap (fun p => g p.1 p.2) := by
  rw [List.filterMap_cons]
  cases g x y <;> rfl
theorem look_opt {o : Option Attr} {l : List Attr} {k n : ByteArray} (h : ∀ z, o = some z → z.name = k) : look (o.toList ++ l) n = if k = n then (o.map (·.val)).or (look l n) else look l n := by
  cases o with
  | none => simp
  | some z =>
    have := h z rfl
    subst this
    simp [look]
theorem above_opt {o : Option Attr} {l : List Attr} {k n : ByteArray} (h : ∀ z, o = some z → z.name = k) (hn : slt n k = true) (hl : Above n l) : Above n (o.toList ++ l) := by
  intro a ha
  rcases List.mem_append.1 ha with ha | ha
  · rw [h a (by simpa using ha)]; exact hn
  · exact hl a ha
theorem sorted_opt {o : Option Attr} {l : List Attr} {k : ByteArray} (h : ∀ z, o = some z → z.name = k) (hl : Above k l) (hs : Sorted l) : Sorted (o.toList ++ l) := by
  cases o with
  | none => exact hs
  | some z => exact ⟨by rw [h z rfl]; exact hl, hs⟩

theorem look_hd {a : Attr} {l : List Attr} : look (a :: l) a.name = some a.val := by rw [look, if_pos rfl]
theorem look_tl {a : Attr} {l : List Attr} {n : ByteArray} (h : a.name ≠ n) : look (a :: l) n = look l n := by rw [look, if_neg h]
theorem fm_main {g : Attr → Attr → Option Attr} (hg : Fair g) : ∀ (a b : List Attr), Sorted a → Sorted b → Named a → Named b →
    Sorted (fm g a b) ∧ (∀ n, Above n a → Above n b → Above n (fm g a b)) ∧ ∀ n, look (fm g a b) n = at2 g n (look a n) (look b n) := by
  intro a b
  induction a, b using bothL.induct with
  | case1 => intro _ _ _ _; exact ⟨by simp [fm, bothL, Sorted], fun n _ _ => by simp [fm, bothL, Above], fun n => by simp [fm, bothL, look, at2]⟩
  | case2 y b ih =>
    intro _ hb _ nb
    obtain ⟨i1, i2, i3⟩ := ih trivial hb.2 (fun _ h => by cases h) (fun a h => nb a (by simp [h]))
    have hk : ∀ z, g default y = some z → z.name = y.name := fun z hz => by rw [hg _ _ z hz, if_neg (nb y (by simp))]
    have e : fm g [] (y :: b) = (g default y).toList ++ fm g [] b := by unfold fm; rw [bothL, fm_cons]
    rw [e]
    refine ⟨sorted_opt hk (i2 _ (fun _ h => by cases h) hb.1) i1, fun n h1 h2 => above_opt hk (h2 y (by simp)) (i2 n h1 (fun a h => h2 a (by simp [h]))), fun n => ?_⟩
    rw [look_opt hk, i3]
    simp only [look]
    by_cases h : y.name = n
    · subst h
      rw [look_above (l := b) (fun z hz e => slt_ne (hb.1 z hz) e.symm)]
      simp [at2]
    · simp only [if_neg h]
  | case3 x a ih =>
    intro ha _ na _
    obtain ⟨i1, i2, i3⟩ := ih ha.2 trivial (fun a h => na a (by simp [h])) (fun _ h => by cases h)
    have hk : ∀ z, g x default = some z → z.name = x.name := fun z hz => by rw [hg _ _ z hz]; exact if_pos rfl
    have e : fm g (x :: a) [] = (g x default).toList ++ fm g a [] := by unfold fm; rw [bothL, fm_cons]
    rw [e]
    refine ⟨sorted_opt hk (i2 _ ha.1 (fun _ h => by cases h)) i1, fun n h1 h2 => above_opt hk (h1 x (by simp)) (i2 n (fun a h => h1 a (by simp [h])) h2), fun n => ?_⟩
    rw [look_opt hk, i3]
    simp only [look]
    by_cases h : x.name = n
    · subst h
      rw [look_above (l := a) (fun z hz e => slt_ne (ha.1 z hz) e.symm)]
      simp [at2]
    · simp only [if_neg h]
  | case4 x a y b h ih =>
    intro ha hb na nb
    obtain ⟨i1, i2, i3⟩ := ih ha.2 hb (fun a h => na a (by simp [h])) nb
    have hk : ∀ z, g x default = some z → z.name = x.name := fun z hz => by rw [hg _ _ z hz]; exact if_pos rfl
    have e : fm g (x :: a) (y :: b) = (g x default).toList ++ fm g a (y :: b) := by unfold fm; rw [bothL, if_pos h, fm_cons]
    have hxb : Above x.name (y :: b) := fun z hz => by
      rcases List.mem_cons.1 hz with rfl | hz
      · exact h
      · exact slt_trans h (hb.1 z hz)
    rw [e]
    refine ⟨sorted_opt hk (i2 _ ha.1 hxb) i1, fun n h1 h2 => above_opt hk (h1 x (by simp)) (i2 n (fun a h => h1 a (by simp [h])) h2), fun n => ?_⟩
    rw [look_opt hk, i3]
    by_cases hn : x.name = n
    · subst hn
      rw [look_above (l := y :: b) (fun z hz e => slt_ne (hxb z hz) e.symm), look_above (l := a) (fun z hz e => slt_ne (ha.1 z hz) e.symm), look_hd]
      simp [at2]
    · rw [if_neg hn, look_tl hn]
  | case5 x a y b h k ih =>
    intro ha hb na nb
    obtain ⟨i1, i2, i3⟩ := ih ha hb.2 na (fun a h => nb a (by simp [h]))
    have hk : ∀ z, g default y = some z → z.name = y.name := fun z hz => by rw [hg _ _ z hz, if_neg (nb y (by simp))]
    have e : fm g (x :: a) (y :: b) = (g default y).toList ++ fm g (x :: a) b := by unfold fm; rw [bothL, if_neg h, if_pos k, fm_cons]
    have hya : Above y.name (x :: a) := fun z hz => by
      rcases List.mem_cons.1 hz with rfl | hz
      · exact k
      · exact slt_trans k (ha.1 z hz)
    rw [e]
    refine ⟨sorted_opt hk (i2 _ hya hb.1) i1, fun n h1 h2 => above_opt hk (h2 y (by simp)) (i2 n h1 (fun a h => h2 a (by simp [h]))), fun n => ?_⟩
    rw [look_opt hk, i3]
    by_cases hn : y.name = n
    · subst hn
      rw [look_above (l := x :: a) (fun z hz e => slt_ne (hya z hz) e.symm), look_above (l := b) (fun z hz e => slt_ne (hb.1 z hz) e.symm), look_hd]
      simp [at2]
    · rw [if_neg hn, look_tl (a := y) hn]
  | case6 x a y b h k ih =>
    intro ha hb na nb
    obtain ⟨i1, i2, i3⟩ := ih ha.2 hb.2 (fun a h => na a (by simp [h])) (fun a h => nb a (by simp [h]))
    have hxy : x.name = y.name := slt_tri (by simpa using h) (by simpa using k)
    have hk : ∀ z, g x y = some z → z.name = x.name := fun z hz => by rw [hg _ _ z hz, if_neg (nb y (by simp)), hxy]
    have e : fm g (x :: a) (y :: b) = (g x y).toList ++ fm g a b := by unfold fm; rw [bothL, if_neg h, if_neg k, fm_cons]
    rw [e]
    refine ⟨sorted_opt hk (i2 _ ha.1 (by rw [hxy]; exact hb.1)) i1, fun n h1 h2 => above_opt hk (h1 x (by simp)) (i2 n (fun a h => h1 a (by simp [h])) (fun a h => h2 a (by simp [h]))), fun n => ?_⟩
    rw [look_opt hk, i3]
    by_cases hn : x.name = n
    · subst hn
      have ey : (⟨x.name, y.val⟩ : Attr) = y := by rw [hxy]
      have hl : look (y :: b) x.name = some y.val := by rw [hxy]; exact look_hd
      rw [hl, look_hd, look_above (l := a) (fun z hz e => slt_ne (ha.1 z hz) e.symm), look_above (l := b) (fun z hz e => slt_ne (hb.1 z hz) (by rw [← hxy, e]))]
      simp [at2, ey]
    · rw [if_neg hn, look_tl hn, look_tl (a := y) (by rw [← hxy]; exact hn)]


/-! ### The four visitors -/
theorem dflt : (default : Attr) = ⟨mt, mt⟩ := rfl
def rawG (x y : Attr) : Option Attr := if y.name = mt then some x else if y.val = mt then none else some y
theorem fair_raw : Fair rawG := by intro x y z h; unfold rawG at h; (repeat' split at h) <;> simp_all
section
variable (NP VP : ByteArray → Prop)
/-- A value that may stand under a name: in a list (e = false) or in a change (e = true). -/
def Q (e : Bool) (n v : ByteArray) : Prop := NP n ∧ (VP v ∨ (e = true ∧ v = mt))
def V (e : Bool) (l : List Attr) : Prop := Sorted l ∧ ∀ a ∈ l, Q NP VP e a.name a.val
end
section
variable {NP VP : ByteArray → Prop} (hN : ¬ NP mt) (hV : ¬ VP mt)
include hN
theorem V.named {e : Bool} {l : List Attr} (h : V NP VP e l) : Named l := fun a ha e' => hN (by have := (h.2 a ha).1; rwa [e'] at this)
omit hN in
theorem V.look {e : Bool} {l : List Attr} (h : V NP VP e l) {n v : ByteArray} (hl : look l n = some v) : Q NP VP e n v := h.2 ⟨n, v⟩ (look_mem hl)
theorem fm_look {e1 e2 : Bool} {g : Attr → Attr → Option Attr} (hg : Fair g) {a b : List Attr} (ha : V NP VP e1 a) (hb : V NP VP e2 b) (n : ByteArray) :
    Go.Ch.look (fm g a b) n = at2 g n (Go.Ch.look a n) (Go.Ch.look b n) := (fm_main hg a b ha.1 hb.1 (ha.named hN) (hb.named hN)).2.2 n
theorem fm_V {e1 e2 e3 : Bool} {g : Attr → Attr → Option Attr} (hg : Fair g) {a b : List Attr} (ha : V NP VP e1 a) (hb : V NP VP e2 b)
    (h1 : ∀ n v z, n ≠ mt → Q NP VP e1 n v → at2 g n (some v) none = some z → Q NP VP e3 n z)
    (h2 : ∀ n v z, n ≠ mt → Q NP VP e2 n v → at2 g n none (some v) = some z → Q NP VP e3 n z)
    (h3 : ∀ n v w z, n ≠ mt → Q NP VP e1 n v → Q NP VP e2 n w → at2 g n (some v) (some w) = some z → Q NP VP e3 n z) : V NP VP e3 (fm g a b) := by
  have hm := fm_main hg a b ha.1 hb.1 (ha.named hN) (hb.named hN)
  refine ⟨hm.1, fun z hz => ?_⟩
  have hl := look_of_mem hm.1 hz
  rw [hm.2.2] at hl
  have hq : ∀ {e v}, Q NP VP e z.name v → z.name ≠ mt := fun q e => hN (e ▸ q.1)
  cases h4 : Go.Ch.look a z.name with
  | none =>
    cases h5 : Go.Ch.look b z.name with
    | none => rw [h4, h5] at hl; cases hl
    | some w => rw [h4, h5] at hl; exact h2 _ _ _ (hq (hb.look h5)) (hb.look h5) hl
  | some v =>
    cases h5 : Go.Ch.look b z.name with
    | none => rw [h4, h5] at hl; exact h1 _ _ _ (hq (ha.look h4)) (ha.look h4) hl
    | some w => rw [h4, h5] at hl; exact h3 _ _ _ _ (hq (ha.look h4)) (ha.look h4) (hb.look h5) hl
theorem q_ne {e : Bool} {n v : ByteArray} (h : Q NP VP e n v) : n ≠ mt := fun e => hN (e ▸ h.1)
theorem raw_V {l c : List Attr} (hl : V NP VP false l) (hc : V NP VP true c) : V NP VP false (fm rawG l c) := by
  refine fm_V hN fair_raw hl hc (fun n v z hn q h => ?_) (fun n v z hn q h => ?_) (fun n v w z hn q r h => ?_)
  · simp [at2, rawG, dflt] at h; subst h; exact q
  · simp [at2, rawG, dflt, hn] at h; obtain ⟨_, ⟨h1, rfl⟩, rfl⟩ := h; simp_all [Q]
  · simp [at2, rawG, dflt, hn] at h; obtain ⟨_, ⟨h1, rfl⟩, rfl⟩ := h; simp_all [Q]
include hV
omit hN in
theorem q_val {n v : ByteArray} (h : Q NP VP false n v) : v ≠ mt := fun e => by
  rcases h.2 with h | h
  · exact hV (e ▸ h)
  · cases h.1
end

end Go.Ch
end
section
set_option linter.unusedVariables false
set_option linter.unusedSimpArgs false
set_option maxRecDepth 100000
set_option maxHeartbeats 4000000
open Go Go.Proofs Go.Ab
namespace Go.Ch
theorem seq_mt {s : ByteArray} : seq s { data := #[] } = decide (s.size = 0) := by
  by_cases h : s.size = 0
  · rw [decide_eq_true h, seq_iff]
    obtain ⟨⟨l⟩⟩ := s
    cases l with
    | nil => rfl
    | cons a l => simp [ByteArray.size] at h
  · rw [decide_eq_false h, seq_no]
    intro e; subst e; exact h rfl
theorem str_pos {s : ByteArray} (h : seq s { data := #[] } = false) : (0 : Int) < (s.size : Int) := by
  rw [seq_mt, decide_eq_false_iff_not] at h; omega
def byt (s : ByteArray) (i : Nat) : Nat := ((s[i]?).getD 0).toNat
def badC (b : Nat) : Prop := (b < 97 ∨ 122 < b) ∧ (b < 48 ∨ 57 < b) ∧ b ≠ 46 ∧ b ≠ 45
instance (b : Nat) : Decidable (badC b) := by unfold badC; infer_instance
def nmS (s : ByteArray) (i : Nat) : Bool := if i < s.size then (if badC (byt s i) then false else nmS s (i + 1)) else true
termination_by s.size - i
def nameGo (s : ByteArray) : Bool := decide (1 ≤ s.size ∧ s.size ≤ 24 ∧ 97 ≤ byt s 0 ∧ byt s 0 ≤ 122) && nmS s 0
def vlS (s : ByteArray) (i : Nat) : Bool := if i < s.size then (if byt s i < 32 ∨ 126 < byt s i then false else vlS s (i + 1)) else true
termination_by s.size - i
def valGo (s : ByteArray) : Bool := decide (1 ≤ s.size ∧ s.size ≤ 200) && vlS s 0
def nmR (s : ByteArray) (i : Nat) : Bool := if i < s.size then (if (byt s i < 97 ∨ 122 < byt s i) ∧ (i = 0 ∨ (byt s i ≠ 46 ∧ byt s i ≠ 45 ∧ (byt s i < 48 ∨ 57 < byt s i))) then false else nmR s (i + 1)) else true
termination_by s.size - i
def nameRf (s : ByteArray) : Bool := nmR s 0 && decide (1 ≤ s.size ∧ s.size ≤ 24)
def valRf (s : ByteArray) : Bool := vlS s 0 && decide (1 ≤ s.size ∧ s.size ≤ 200)
theorem nmR_pos (s : ByteArray) (i : Nat) (h : 0 < i) : nmR s i = nmS s i := by
  induction i using nmS.induct (s := s) with
  | case1 i hi hb => rw [nmR, nmS, if_pos hi, if_pos hi, if_pos hb, if_pos]; unfold badC at hb; omega
  | case2 i hi hb ih => rw [nmR, nmS, if_pos hi, if_pos hi, if_neg hb, if_neg]; exact ih (by omega); unfold badC at hb; omega
  | case3 i hi => rw [nmR, nmS, if_neg hi, if_neg hi]
theorem nameRf_eq (s : ByteArray) : nameRf s = nameGo s := by
  unfold nameRf nameGo
  by_cases h : 1 ≤ s.size
  · rw [nmR, if_pos (by omega), nmR_pos s (0 + 1) (by omega)]
    by_cases h2 : 97 ≤ byt s 0 ∧ byt s 0 ≤ 122
    · have e : nmS s 0 = nmS s (0 + 1) := by rw [nmS, if_pos (by omega), if_neg (by unfold badC; omega)]
      rw [if_neg (by omega), e, Bool.and_comm]
      congr 1
      simp [h2]
    · rw [if_pos (by omega), decide_eq_false (by omega : ¬ (1 ≤ s.size ∧ s.size ≤ 24 ∧ 97 ≤ byt s 0 ∧ byt s 0 ≤ 122))]
      simp
  · rw [decide_eq_false (by omega), decide_eq_false (by omega)]; simp
theorem valRf_eq (s : ByteArray) : valRf s = valGo s := by unfold valRf valGo; rw [Bool.and_comm]
theorem byt0 (s : ByteArray) (i : Nat) : ((s[i]?).getD 0).toNat = byt s i := rfl

theorem fc_name (s : ByteArray) : FC Tryz.prog 129 [VS s] (app emp []) (VB (nameGo s)) (app emp []) := by
 refine .go Tryz.f129 ?_
 refine .bp [.r [], .r [(4, Xv 1 (!(seq s ({ data := #[] }))) X0), (5, Xv 1 (!(seq s ({ data := #[] }))) X0), (6, X (Xk' (seq s ({ data := #[] })))), (9, Xv 1 (!(seq s ({ data := #[] }) || decide ((s.size : Int) > 24))) (Xb s 0) (fun hg => by (try simp only [decide_eq_true_eq, decide_eq_false_iff_not, Int.not_lt, Int.not_le, gt_iff_lt, Bool.not_eq_true', Bool.not_eq_false', Bool.or_eq_true, Bool.or_eq_false_iff] at hg); exact ⟨(by first | omega | (simp; omega) | (simp; done) | assumption), (str_pos (by first | exact hg | exact hg.1 | exact hg.1.1))⟩)), (10, Xv 1 (!(seq s ({ data := #[] }) || decide ((s.size : Int) > 24))) X0), (11, X (Xk' (seq s ({ data := #[] }) || decide ((s.size : Int) > 24)))), (14, Xv 1 (!((seq s ({ data := #[] }) || decide ((s.size : Int) > 24)) || decide (((((s[0]?).getD 0).toNat : Nat) : Int) < 97))) (Xb s 0) (fun hg => by (try simp only [decide_eq_true_eq, decide_eq_false_iff_not, Int.not_lt, Int.not_le, gt_iff_lt, Bool.not_eq_true', Bool.not_eq_false', Bool.or_eq_true, Bool.or_eq_false_iff] at hg); exact ⟨(by first | omega | (simp; omega) | (simp; done) | assumption), (str_pos (by first | exact hg | exact hg.1 | exact hg.1.1))⟩)), (15, Xv 1 (!((seq s ({ data := #[] }) || decide ((s.size : Int) > 24)) || decide (((((s[0]?).getD 0).toNat : Nat) : Int) < 97))) X0), (16, X (Xk' ((seq s ({ data := #[] }) || decide ((s.size : Int) > 24)) || decide (((((s[0]?).getD 0).toNat : Nat) : Int) < 97))))]] (((seq s ({ data := #[] }) || decide ((s.size : Int) > 24)) || decide (((((s[0]?).getD 0).toNat : Nat) : Int) < 97)) || decide (((((s[0]?).getD 0).toNat : Nat) : Int) > 122)) (fun h1 => ?_) (fun h1 => ?_)
 ·
  have e1 : ((nameGo s) : Bool) = false := by
   simp only [byt0, seq_mt, decide_eq_true_eq] at h1; unfold nameGo; rw [decide_eq_false (by omega)]; rfl
  exact .finE [.r []] [] (fun z0 : Bool => (VB z0, [])) _ _ e1
 ·
  refine .loop (α := Nat) [.r []] 168 (fun i => ([(0, VS s), (23, VI (s.size : Int)), (24, VI (i : Int))], [])) (fun i => i ≤ s.size ∧ nmS s 0 = nmS s i) (fun i => s.size - i) (0 : Nat) ?_ ?_
  ·
   exact ⟨by omega, rfl⟩
  rintro i I4 ih4
  try dsimp only at I4
  refine .bp [.r []] (decide ((i : Int) < (s.size : Int))) (fun h4 => ?_) (fun h4 => ?_)
  ·
   refine .bp [.r [], .r [(2, X (Xb s (i : Int)))], .r [(4, Xv 1 (!(decide (((((s[i]?).getD 0).toNat : Nat) : Int) < 97))) X0), (5, X (Xk' (decide (((((s[i]?).getD 0).toNat : Nat) : Int) < 97)))), (8, Xv 1 (decide (((((s[i]?).getD 0).toNat : Nat) : Int) < 97) || decide (((((s[i]?).getD 0).toNat : Nat) : Int) > 122)) X0), (9, Xv 1 (decide (((((s[i]?).getD 0).toNat : Nat) : Int) < 97) || decide (((((s[i]?).getD 0).toNat : Nat) : Int) > 122)) X0), (11, Xv 1 ((decide (((((s[i]?).getD 0).toNat : Nat) : Int) < 97) || decide (((((s[i]?).getD 0).toNat : Nat) : Int) > 122)) && !(decide (((((s[i]?).getD 0).toNat : Nat) : Int) < 48))) X0), (12, Xko (decide (((((s[i]?).getD 0).toNat : Nat) : Int) < 97) || decide (((((s[i]?).getD 0).toNat : Nat) : Int) > 122)) (decide (((((s[i]?).getD 0).toNat : Nat) : Int) < 48))), (13, X (Xk (decide (((((s[i]?).getD 0).toNat : Nat) : Int) < 97) || decide (((((s[i]?).getD 0).toNat : Nat) : Int) > 122)))), (16, Xv 1 ((decide (((((s[i]?).getD 0).toNat : Nat) : Int) < 97) || decide (((((s[i]?).getD 0).toNat : Nat) : Int) > 122)) && (decide (((((s[i]?).getD 0).toNat : Nat) : Int) < 48) || decide (((((s[i]?).getD 0).toNat : Nat) : Int) > 57))) X0), (17, X (Xk ((decide (((((s[i]?).getD 0).toNat : Nat) : Int) < 97) || decide (((((s[i]?).getD 0).toNat : Nat) : Int) > 122)) && (decide (((((s[i]?).getD 0).toNat : Nat) : Int) < 48) || decide (((((s[i]?).getD 0).toNat : Nat) : Int) > 57))))), (20, Xv 1 (((decide (((((s[i]?).getD 0).toNat : Nat) : Int) < 97) || decide (((((s[i]?).getD 0).toNat : Nat) : Int) > 122)) && (decide (((((s[i]?).getD 0).toNat : Nat) : Int) < 48) || decide (((((s[i]?).getD 0).toNat : Nat) : Int) > 57))) && (((((s[i]?).getD 0).toNat : Nat) : Int) != 46)) X0), (21, X (Xk (((decide (((((s[i]?).getD 0).toNat : Nat) : Int) < 97) || decide (((((s[i]?).getD 0).toNat : Nat) : Int) > 122)) && (decide (((((s[i]?).getD 0).toNat : Nat) : Int) < 48) || decide (((((s[i]?).getD 0).toNat : Nat) : Int) > 57))) && (((((s[i]?).getD 0).toNat : Nat) : Int) != 46))))]] ((((decide (((((s[i]?).getD 0).toNat : Nat) : Int) < 97) || decide (((((s[i]?).getD 0).toNat : Nat) : Int) > 122)) && (decide (((((s[i]?).getD 0).toNat : Nat) : Int) < 48) || decide (((((s[i]?).getD 0).toNat : Nat) : Int) > 57))) && (((((s[i]?).getD 0).toNat : Nat) : Int) != 46)) && (((((s[i]?).getD 0).toNat : Nat) : Int) != 45)) (fun h7 => ?_) (fun h7 => ?_)
   ·
    have e2 : ((nameGo s) : Bool) = false := by
     simp only [byt0] at h7; unfold nameGo; rw [I4.2, nmS, if_pos (by omega), if_pos (by unfold badC; omega)]; simp
    exact .finE [.r []] [] (fun z0 : Bool => (VB z0, [])) _ _ e2
   ·
    refine .back [.r [(0, X (Xn ((i : Int) + 1)))]] [] (ih4 ((i + 1) : Nat) ?_ ?_)
    ·
     simp only [byt0] at h7; refine ⟨by omega, ?_⟩; rw [I4.2, nmS, if_pos (by omega), if_neg (by unfold badC; omega)]
    ·
     ((try dsimp only); omega)
  ·
   have e3 : ((nameGo s) : Bool) = true := by
    simp only [byt0, seq_mt, decide_eq_false_iff_not] at h1; unfold nameGo; rw [I4.2, nmS, if_neg (by omega), decide_eq_true (by omega)]; rfl
   exact .finE [.r []] [] (fun z0 : Bool => (VB z0, [])) _ _ e3

theorem fc_value (s : ByteArray) : FC Tryz.prog 130 [VS s] (app emp []) (VB (valGo s)) (app emp []) := by
 refine .go Tryz.f130 ?_
 refine .bp [.r [], .r [(4, Xv 1 (!(seq s ({ data := #[] }))) X0), (5, Xv 1 (!(seq s ({ data := #[] }))) X0), (6, X (Xk' (seq s ({ data := #[] }))))]] (seq s ({ data := #[] }) || decide ((s.size : Int) > 200)) (fun h1 => ?_) (fun h1 => ?_)
 ·
  have e1 : ((valGo s) : Bool) = false := by
   simp only [seq_mt, decide_eq_true_eq] at h1; unfold valGo; rw [decide_eq_false (by omega)]; rfl
  exact .finE [.r []] [] (fun z0 : Bool => (VB z0, [])) _ _ e1
 ·
  refine .loop (α := Nat) [.r []] 88 (fun i => ([(0, VS s), (12, VI (s.size : Int)), (13, VI (i : Int))], [])) (fun i => i ≤ s.size ∧ vlS s 0 = vlS s i) (fun i => s.size - i) (0 : Nat) ?_ ?_
  ·
   exact ⟨by omega, rfl⟩
  rintro i I4 ih4
  try dsimp only at I4
  refine .bp [.r []] (decide ((i : Int) < (s.size : Int))) (fun h4 => ?_) (fun h4 => ?_)
  ·
   refine .bp [.r [], .r [(2, X (Xb s (i : Int))), (7, Xv 2 (!(decide (((((s[i]?).getD 0).toNat : Nat) : Int) < 32))) (Xb s (i : Int))), (8, Xv 1 (!(decide (((((s[i]?).getD 0).toNat : Nat) : Int) < 32))) X0), (9, X (Xk' (decide (((((s[i]?).getD 0).toNat : Nat) : Int) < 32))))]] (decide (((((s[i]?).getD 0).toNat : Nat) : Int) < 32) || decide (((((s[i]?).getD 0).toNat : Nat) : Int) > 126)) (fun h6 => ?_) (fun h6 => ?_)
   ·
    have e2 : ((valGo s) : Bool) = false := by
     simp only [byt0] at h6; unfold valGo; rw [I4.2, vlS, if_pos (by omega), if_pos (by omega)]; simp
    exact .finE [.r []] [] (fun z0 : Bool => (VB z0, [])) _ _ e2
   ·
    refine .back [.r [(0, X (Xn ((i : Int) + 1)))]] [] (ih4 ((i + 1) : Nat) ?_ ?_)
    ·
     simp only [byt0] at h6; refine ⟨by omega, ?_⟩; rw [I4.2, vlS, if_pos (by omega), if_neg (by omega)]
    ·
     ((try dsimp only); omega)
  ·
   have e3 : ((valGo s) : Bool) = true := by
    simp only [seq_mt, decide_eq_false_iff_not] at h1; unfold valGo; rw [I4.2, vlS, if_neg (by omega), decide_eq_true (by omega)]; rfl
   exact .finE [.r []] [] (fun z0 : Bool => (VB z0, [])) _ _ e3

theorem fc_nameR (s : ByteArray) (hs : s.size ≤ 9223372036854775807) : FC Tryz.prog 56 [VS s] (app emp []) (VB (nameRf s)) (app emp []) := by
 refine .go Tryz.f56 ?_
 refine .loop (α := Nat) [.r [], .r []] 32 (fun i => ([(0, VS s), (6, VI (s.size : Int)), (7, VI (i : Int))], [])) (fun i => i ≤ s.size ∧ nmR s 0 = nmR s i) (fun i => s.size - i) (0 : Nat) ?_ ?_
 ·
  exact ⟨by omega, rfl⟩
 rintro i I2 ih2
 try dsimp only at I2
 refine .bp [.r []] (decide ((i : Int) < (s.size : Int))) (fun h2 => ?_) (fun h2 => ?_)
 ·
  refine .bp [.r [], .r [(2, X (Xb s (i : Int))), (7, Xv 2 (decide (((((s[i]?).getD 0).toNat : Nat) : Int) ≥ 97)) (Xb s (i : Int))), (8, Xv 1 (decide (((((s[i]?).getD 0).toNat : Nat) : Int) ≥ 97)) X0), (9, X (Xk (decide (((((s[i]?).getD 0).toNat : Nat) : Int) ≥ 97))))], .r [(4, Xv 1 (!(decide (((((s[i]?).getD 0).toNat : Nat) : Int) ≥ 97) && decide (((((s[i]?).getD 0).toNat : Nat) : Int) ≤ 122))) X0), (5, Xv 1 (!(decide (((((s[i]?).getD 0).toNat : Nat) : Int) ≥ 97) && decide (((((s[i]?).getD 0).toNat : Nat) : Int) ≤ 122))) X0), (8, Xv 2 ((!(decide (((((s[i]?).getD 0).toNat : Nat) : Int) ≥ 97) && decide (((((s[i]?).getD 0).toNat : Nat) : Int) ≤ 122))) && !((i : Int) == 0)) (Xb s (i : Int))), (9, Xv 1 ((!(decide (((((s[i]?).getD 0).toNat : Nat) : Int) ≥ 97) && decide (((((s[i]?).getD 0).toNat : Nat) : Int) ≤ 122))) && !((i : Int) == 0)) X0), (10, Xv 1 ((!(decide (((((s[i]?).getD 0).toNat : Nat) : Int) ≥ 97) && decide (((((s[i]?).getD 0).toNat : Nat) : Int) ≤ 122))) && !((i : Int) == 0)) X0), (13, Xv 2 (((!(decide (((((s[i]?).getD 0).toNat : Nat) : Int) ≥ 97) && decide (((((s[i]?).getD 0).toNat : Nat) : Int) ≤ 122))) && !((i : Int) == 0)) && (((((s[i]?).getD 0).toNat : Nat) : Int) != 46)) (Xb s (i : Int))), (14, Xv 1 (((!(decide (((((s[i]?).getD 0).toNat : Nat) : Int) ≥ 97) && decide (((((s[i]?).getD 0).toNat : Nat) : Int) ≤ 122))) && !((i : Int) == 0)) && (((((s[i]?).getD 0).toNat : Nat) : Int) != 46)) X0), (15, Xka ((!(decide (((((s[i]?).getD 0).toNat : Nat) : Int) ≥ 97) && decide (((((s[i]?).getD 0).toNat : Nat) : Int) ≤ 122))) && !((i : Int) == 0)) (((((s[i]?).getD 0).toNat : Nat) : Int) != 46)), (16, Xv 1 ((!(decide (((((s[i]?).getD 0).toNat : Nat) : Int) ≥ 97) && decide (((((s[i]?).getD 0).toNat : Nat) : Int) ≤ 122))) && !((i : Int) == 0)) X0), (19, Xv 2 (((!(decide (((((s[i]?).getD 0).toNat : Nat) : Int) ≥ 97) && decide (((((s[i]?).getD 0).toNat : Nat) : Int) ≤ 122))) && !((i : Int) == 0)) && ((((((s[i]?).getD 0).toNat : Nat) : Int) != 46) && (((((s[i]?).getD 0).toNat : Nat) : Int) != 45))) (Xb s (i : Int))), (20, Xv 1 (((!(decide (((((s[i]?).getD 0).toNat : Nat) : Int) ≥ 97) && decide (((((s[i]?).getD 0).toNat : Nat) : Int) ≤ 122))) && !((i : Int) == 0)) && ((((((s[i]?).getD 0).toNat : Nat) : Int) != 46) && (((((s[i]?).getD 0).toNat : Nat) : Int) != 45))) X0), (21, Xv 1 (((!(decide (((((s[i]?).getD 0).toNat : Nat) : Int) ≥ 97) && decide (((((s[i]?).getD 0).toNat : Nat) : Int) ≤ 122))) && !((i : Int) == 0)) && ((((((s[i]?).getD 0).toNat : Nat) : Int) != 46) && (((((s[i]?).getD 0).toNat : Nat) : Int) != 45))) X0), (24, Xv 2 ((((!(decide (((((s[i]?).getD 0).toNat : Nat) : Int) ≥ 97) && decide (((((s[i]?).getD 0).toNat : Nat) : Int) ≤ 122))) && !((i : Int) == 0)) && ((((((s[i]?).getD 0).toNat : Nat) : Int) != 46) && (((((s[i]?).getD 0).toNat : Nat) : Int) != 45))) && !(decide (((((s[i]?).getD 0).toNat : Nat) : Int) < 48))) (Xb s (i : Int))), (25, Xv 1 ((((!(decide (((((s[i]?).getD 0).toNat : Nat) : Int) ≥ 97) && decide (((((s[i]?).getD 0).toNat : Nat) : Int) ≤ 122))) && !((i : Int) == 0)) && ((((((s[i]?).getD 0).toNat : Nat) : Int) != 46) && (((((s[i]?).getD 0).toNat : Nat) : Int) != 45))) && !(decide (((((s[i]?).getD 0).toNat : Nat) : Int) < 48))) X0), (26, Xko (((!(decide (((((s[i]?).getD 0).toNat : Nat) : Int) ≥ 97) && decide (((((s[i]?).getD 0).toNat : Nat) : Int) ≤ 122))) && !((i : Int) == 0)) && ((((((s[i]?).getD 0).toNat : Nat) : Int) != 46) && (((((s[i]?).getD 0).toNat : Nat) : Int) != 45))) (decide (((((s[i]?).getD 0).toNat : Nat) : Int) < 48))), (27, Xka ((!(decide (((((s[i]?).getD 0).toNat : Nat) : Int) ≥ 97) && decide (((((s[i]?).getD 0).toNat : Nat) : Int) ≤ 122))) && !((i : Int) == 0)) ((((((s[i]?).getD 0).toNat : Nat) : Int) != 46) && (((((s[i]?).getD 0).toNat : Nat) : Int) != 45))), (28, Xko (!(decide (((((s[i]?).getD 0).toNat : Nat) : Int) ≥ 97) && decide (((((s[i]?).getD 0).toNat : Nat) : Int) ≤ 122))) ((i : Int) == 0)), (29, X (Xk (!(decide (((((s[i]?).getD 0).toNat : Nat) : Int) ≥ 97) && decide (((((s[i]?).getD 0).toNat : Nat) : Int) ≤ 122)))))]] (!(decide (((((s[i]?).getD 0).toNat : Nat) : Int) ≥ 97) && decide (((((s[i]?).getD 0).toNat : Nat) : Int) ≤ 122)) && (((i : Int) == 0) || (((((((s[i]?).getD 0).toNat : Nat) : Int) != 46) && (((((s[i]?).getD 0).toNat : Nat) : Int) != 45)) && (decide (((((s[i]?).getD 0).toNat : Nat) : Int) < 48) || decide (((((s[i]?).getD 0).toNat : Nat) : Int) > 57))))) (fun h5 => ?_) (fun h5 => ?_)
  ·
   have e1 : ((nameRf s) : Bool) = false := by
    simp only [byt0] at h5; unfold nameRf; rw [I2.2, nmR, if_pos (by omega), if_pos (by omega)]; simp
   exact .finE [.r []] [] (fun z0 : Bool => (VB z0, [])) _ _ e1
  ·
   refine .back [.r [(0, X (Xn ((i : Int) + 1)))]] [] (ih2 ((i + 1) : Nat) ?_ ?_)
   ·
    simp only [byt0] at h5; refine ⟨by omega, ?_⟩; rw [I2.2, nmR, if_pos (by omega), if_neg (by omega)]
   ·
    ((try dsimp only); omega)
 ·
  have e2 : ((nameRf s) : Bool) = (decide ((s.size : Int) ≥ 1) && decide ((s.size : Int) ≤ 24)) := by
   unfold nameRf; rw [I2.2, nmR, if_neg (by omega), Bool.eq_iff_iff]; simp; omega
  exact .finE [.r [(5, Xv 1 (decide ((s.size : Int) ≥ 1)) X0), (6, Xv 1 (decide ((s.size : Int) ≥ 1)) X0), (7, X (Xk (decide ((s.size : Int) ≥ 1))))]] [] (fun z0 : Bool => (VB z0, [])) _ _ e2

theorem fc_valueR (s : ByteArray) (hs : s.size ≤ 9223372036854775807) : FC Tryz.prog 57 [VS s] (app emp []) (VB (valRf s)) (app emp []) := by
 refine .go Tryz.f57 ?_
 refine .loop (α := Nat) [.r [], .r []] 32 (fun i => ([(0, VS s), (5, VI (s.size : Int)), (6, VI (i : Int))], [])) (fun i => i ≤ s.size ∧ vlS s 0 = vlS s i) (fun i => s.size - i) (0 : Nat) ?_ ?_
 ·
  exact ⟨by omega, rfl⟩
 rintro i I2 ih2
 try dsimp only at I2
 refine .bp [.r []] (decide ((i : Int) < (s.size : Int))) (fun h2 => ?_) (fun h2 => ?_)
 ·
  refine .bp [.r [], .r [(2, X (Xb s (i : Int))), (7, Xv 2 (!(decide (((((s[i]?).getD 0).toNat : Nat) : Int) < 32))) (Xb s (i : Int))), (8, Xv 1 (!(decide (((((s[i]?).getD 0).toNat : Nat) : Int) < 32))) X0), (9, X (Xk' (decide (((((s[i]?).getD 0).toNat : Nat) : Int) < 32))))]] (decide (((((s[i]?).getD 0).toNat : Nat) : Int) < 32) || decide (((((s[i]?).getD 0).toNat : Nat) : Int) > 126)) (fun h4 => ?_) (fun h4 => ?_)
  ·
   have e1 : ((valRf s) : Bool) = false := by
    simp only [byt0] at h4; unfold valRf; rw [I2.2, vlS, if_pos (by omega), if_pos (by omega)]; simp
   exact .finE [.r []] [] (fun z0 : Bool => (VB z0, [])) _ _ e1
  ·
   refine .back [.r [(0, X (Xn ((i : Int) + 1)))]] [] (ih2 ((i + 1) : Nat) ?_ ?_)
   ·
    simp only [byt0] at h4; refine ⟨by omega, ?_⟩; rw [I2.2, vlS, if_pos (by omega), if_neg (by omega)]
   ·
    ((try dsimp only); omega)
 ·
  have e2 : ((valRf s) : Bool) = (decide ((s.size : Int) ≥ 1) && decide ((s.size : Int) ≤ 200)) := by
   unfold valRf; rw [I2.2, vlS, if_neg (by omega), Bool.eq_iff_iff]; simp; omega
  exact .finE [.r [(5, Xv 1 (decide ((s.size : Int) ≥ 1)) X0), (6, Xv 1 (decide ((s.size : Int) ≥ 1)) X0), (7, X (Xk (decide ((s.size : Int) ≥ 1))))]] [] (fun z0 : Bool => (VB z0, [])) _ _ e2

def chkA (e : Bool) (l : List Attr) (i : Nat) : Int :=
  if i < l.length then
    if nameGo (l.getD i default).name = false then 9
    else if valGo (l.getD i default).val = false ∧ (e = false ∨ seq (l.getD i default).val { data := #[] } = false) then 23
    else if 0 < i ∧ (slt (l.getD i default).name (l.getD (i - 1) default).name = true ∨ seq (l.getD i default).name (l.getD (i - 1) default).name = true) then 5
    else chkA e l (i + 1)
  else 0
termination_by l.length - i
def Szd (l : List Attr) : Prop := ∀ a ∈ l, a.name.size ≤ 9223372036854775807 ∧ a.val.size ≤ 9223372036854775807
theorem Szd.at {l : List Attr} (h : Szd l) {i : Nat} (hi : i < l.length) : (l.getD i default).name.size ≤ 9223372036854775807 ∧ (l.getD i default).val.size ≤ 9223372036854775807 := by
  rw [show l.getD i default = l[i] by simp [List.getD, List.getElem?_eq_getElem hi]]
  exact h _ (List.getElem_mem hi)

theorem fc_chk (l : List Attr) (e : Bool) : FC Tryz.prog 93 [VL 2 attrT l, VB e] (app emp []) (VI (chkA e l 0)) (app emp []) := by
 refine .go Tryz.f93 ?_
 refine .len 0 (fun hl0 => ?_)
 refine .loop (α := Nat) [.r [], .r [(1, X (Xl attrT l))]] 32 (fun i => ([(0, VL 2 attrT l), (1, VB e), (7, VL 2 attrT l), (8, VI (l.length : Int)), (9, VI (i : Int))], [])) (fun i => i ≤ l.length ∧ chkA e l 0 = chkA e l i) (fun i => l.length - i) (0 : Nat) ?_ ?_
 ·
  exact ⟨by omega, rfl⟩
 rintro i I2 ih2
 try dsimp only at I2
 refine .bp [.r []] (decide ((i : Int) < (l.length : Int))) (fun h2 => ?_) (fun h2 => ?_)
 ·
  refine .bp [.r [(1, X (Xi attrT l (i : Int)))], .r [(2, X (Xc0 (fc_name (((l.getD i default)).name)) X0))]] (!(nameGo (((l.getD i default)).name))) (fun h4 => ?_) (fun h4 => ?_)
  ·
   have e1 : ((chkA e l 0) : Int) = 9 := by
    rw [I2.2, chkA, if_pos (by omega), if_pos h4]
   exact .finE [.r []] [] (fun z0 : Int => (VI z0, [])) _ _ e1
  ·
   refine .bp [.r [(2, X (Xc0 (fc_value (((l.getD i default)).val)) X0)), (6, Xv 1 (!(valGo (((l.getD i default)).val))) X0), (8, Xv 1 ((!(valGo (((l.getD i default)).val))) && e) X0), (9, Xv 1 ((!(valGo (((l.getD i default)).val))) && e) X0), (10, Xka (!(valGo (((l.getD i default)).val))) e), (11, Xv 1 (!(valGo (((l.getD i default)).val))) X0), (12, X (Xk (!(valGo (((l.getD i default)).val)))))]] (!(valGo (((l.getD i default)).val)) && !(e && seq (((l.getD i default)).val) ({ data := #[] }))) (fun h6 => ?_) (fun h6 => ?_)
   ·
    have e2 : ((chkA e l 0) : Int) = 23 := by
     rw [I2.2, chkA, if_pos (by omega), if_neg (by rw [h4]; decide), if_pos h6]
    exact .finE [.r []] [] (fun z0 : Int => (VI z0, [])) _ _ e2
   ·
    refine .bp [.r [(4, Xv 1 (decide ((i : Int) > 0)) X0), (7, Xv 1 (decide ((i : Int) > 0)) (Xn ((i : Int) - 1))), (8, Xv 2 (decide ((i : Int) > 0)) (Xi' attrT l ((i : Int) - 1) (i - 1))), (9, Xv 1 (decide ((i : Int) > 0)) X0), (10, Xv 1 (decide ((i : Int) > 0)) X0), (11, Xv 2 (decide ((i : Int) > 0)) X0), (12, X (Xk (decide ((i : Int) > 0))))]] (decide ((i : Int) > 0) && (slt (((l.getD i default)).name) (((l.getD (i - 1) default)).name) || seq (((l.getD i default)).name) (((l.getD (i - 1) default)).name))) (fun h8 => ?_) (fun h8 => ?_)
    ·
     have e3 : ((chkA e l 0) : Int) = 5 := by
      rw [I2.2, chkA, if_pos (by omega), if_neg (by rw [h4]; decide), if_neg (by clear ih2; rintro ⟨a, b⟩; simp_all), if_pos ⟨by omega, h8.2⟩]
     exact .finE [.r []] [] (fun z0 : Int => (VI z0, [])) _ _ e3
    ·
     refine .back [.r [(0, X (Xn ((i : Int) + 1)))]] [] (ih2 ((i + 1) : Nat) ?_ ?_)
     ·
      refine ⟨by omega, ?_⟩; rw [I2.2, chkA, if_pos (by omega), if_neg (by rw [h4]; decide), if_neg (by clear ih2; rintro ⟨a, b⟩; simp_all), if_neg (by clear ih2; rintro ⟨a, b⟩; rcases h8 with h | ⟨h, h2⟩; omega; rcases b with b | b <;> simp_all)]
     ·
      ((try dsimp only); omega)
 ·
  have e4 : ((chkA e l 0) : Int) = 0 := by
   rw [I2.2, chkA, if_neg (by omega)]
  exact .finE [.r []] [] (fun z0 : Int => (VI z0, [])) _ _ e4

theorem fc_acheck (l : List Attr) : FC Tryz.prog 50 [VL 2 attrT l] (app emp []) (VI (chkA false l 0)) (app emp []) := by
 refine .go Tryz.f50 ?_
 refine .len 0 (fun hl0 => ?_)
 exact .fin [.r [], .r [(1, X (Xc0 (fc_chk l false) X0))]] []

def errA (e : Bool) (l : List Attr) (i : Nat) : Int :=
  if i < l.length then
    if nameRf (l.getD i default).name = false then 9
    else if valRf (l.getD i default).val = false ∧ (e = false ∨ seq (l.getD i default).val { data := #[] } = false) then 23
    else if 0 < i ∧ slt (l.getD (i - 1) default).name (l.getD i default).name = false then 5
    else errA e l (i + 1)
  else 0
termination_by l.length - i
theorem slt_or (a b : ByteArray) : (slt a b = true ∨ seq a b = true) ↔ slt b a = false := by
  constructor
  · rintro (h | h)
    · exact slt_asymm h
    · rw [seq_iff] at h; subst h; exact slt_irr _
  · intro h
    cases k : slt a b with
    | true => exact .inl rfl
    | false => exact .inr (seq_iff.2 (slt_tri k h))
theorem errA_eq (e : Bool) (l : List Attr) : ∀ (n i : Nat), l.length - i = n → errA e l i = chkA e l i
  | 0, i, h => by rw [errA, chkA, if_neg (by omega), if_neg (by omega)]
  | n + 1, i, h => by
    have hi : i < l.length := by omega
    rw [errA, chkA, if_pos hi, if_pos hi, errA_eq e l n (i + 1) (by omega)]
    simp only [nameRf_eq, valRf_eq, slt_or]
def sameA (a b : List Attr) (i : Nat) : Bool :=
  if i < a.length then (if (a.getD i default).name = (b.getD i default).name ∧ (a.getD i default).val = (b.getD i default).val then sameA a b (i + 1) else false) else true
termination_by a.length - i
def sameL (a b : List Attr) : Bool := decide (a.length = b.length) && sameA a b 0
def getA (l : List Attr) (n : ByteArray) (i : Nat) : ByteArray :=
  if i < l.length then (if (l.getD i default).name = n then (l.getD i default).val else getA l n (i + 1)) else mt
termination_by l.length - i
theorem drop_at {l : List Attr} {i : Nat} (h : i < l.length) : l.drop i = l.getD i default :: l.drop (i + 1) := by
  rw [List.drop_eq_getElem_cons h]; simp [List.getD, List.getElem?_eq_getElem h]
theorem drop_end {l : List Attr} {i : Nat} (h : ¬ i < l.length) : l.drop i = [] := List.drop_eq_nil_of_le (by omega)
theorem fm_a {g : Attr → Attr → Option Attr} {a b : List Attr} {i j : Nat} (hi : i < a.length) (h : b.length ≤ j ∨ slt (a.getD i default).name (b.getD j default).name = true) :
    fm g (a.drop i) (b.drop j) = (g (a.getD i default) ⟨mt, mt⟩).toList ++ fm g (a.drop (i + 1)) (b.drop j) := by
  unfold fm
  rw [drop_at hi]
  by_cases hj : j < b.length
  · rw [drop_at hj, bothL, if_pos (by rcases h with h | h; omega; exact h), fm_cons]; rfl
  · rw [drop_end hj, bothL, fm_cons]; rfl
theorem fm_b {g : Attr → Attr → Option Attr} {a b : List Attr} {i j : Nat} (hj : j < b.length) (h0 : i < a.length → slt (a.getD i default).name (b.getD j default).name = false) (h : a.length ≤ i ∨ slt (b.getD j default).name (a.getD i default).name = true) :
    fm g (a.drop i) (b.drop j) = (g ⟨mt, mt⟩ (b.getD j default)).toList ++ fm g (a.drop i) (b.drop (j + 1)) := by
  unfold fm
  rw [drop_at hj]
  by_cases hi : i < a.length
  · rw [drop_at hi, bothL, if_neg (by rw [h0 hi]; decide), if_pos (by rcases h with h | h; omega; exact h), fm_cons]; rfl
  · rw [drop_end hi, bothL, fm_cons]; rfl
theorem fm_ab {g : Attr → Attr → Option Attr} {a b : List Attr} {i j : Nat} (hi : i < a.length) (hj : j < b.length) (h0 : slt (a.getD i default).name (b.getD j default).name = false) (h : slt (b.getD j default).name (a.getD i default).name = false) :
    fm g (a.drop i) (b.drop j) = (g (a.getD i default) (b.getD j default)).toList ++ fm g (a.drop (i + 1)) (b.drop (j + 1)) := by
  unfold fm
  rw [drop_at hi, drop_at hj, bothL, if_neg (by rw [h0]; decide), if_neg (by rw [h]; decide), fm_cons]
theorem fm_end {g : Attr → Attr → Option Attr} {a b : List Attr} {i j : Nat} (hi : a.length ≤ i) (hj : b.length ≤ j) : fm g (a.drop i) (b.drop j) = [] := by
  unfold fm
  rw [drop_end (by omega), drop_end (by omega), bothL]; rfl
theorem toList_le {o : Option Attr} : o.toList.length ≤ 1 := by cases o <;> simp
theorem fm_len (g : Attr → Attr → Option Attr) (a b : List Attr) : (fm g a b).length ≤ a.length + b.length :=
  Nat.le_trans (List.length_filterMap_le _ _) (bothL_len a b)

theorem fc_attrsError (l : List Attr) (e : Bool) (hz : Szd l) : FC Tryz.prog 20 [VL 2 attrT l, VB e] (app emp []) (VI (errA e l 0)) (app emp []) := by
 refine .go Tryz.f20 ?_
 refine .len 0 (fun hl0 => ?_)
 refine .loop (α := Nat) [.r [], .r [(1, X (Xl attrT l))]] 32 (fun i => ([(0, VL 2 attrT l), (1, VB e), (7, VI (l.length : Int)), (8, VI (i : Int))], [])) (fun i => i ≤ l.length ∧ errA e l 0 = errA e l i) (fun i => l.length - i) (0 : Nat) ?_ ?_
 ·
  exact ⟨by omega, rfl⟩
 rintro i I2 ih2
 try dsimp only at I2
 refine .bp [.r []] (decide ((i : Int) < (l.length : Int))) (fun h2 => ?_) (fun h2 => ?_)
 ·
  have hza := hz.at (i := i) (by omega)
  refine .bp [.r [], .r [(2, X (Xi attrT l (i : Int))), (5, X (Xc0 (fc_nameR (((l.getD i default)).name) (by (first | omega | with_reducible exact fun h => h | (intro hq; rw [hq]; done) | (intro hq; rw [hq]; rfl) | (simp only [List.length_map]; done) | (simp only [List.length_map]; omega) | (simp; omega) | (simp; done)))) X0))]] (!(nameRf (((l.getD i default)).name))) (fun h4 => ?_) (fun h4 => ?_)
  ·
   have e1 : ((errA e l 0) : Int) = 9 := by
    rw [I2.2, errA, if_pos (by omega), if_pos h4]
   exact .finE [.r []] [] (fun z0 : Int => (VI z0, [])) _ _ e1
  ·
   refine .bp [.r [(2, X (Xi attrT l (i : Int))), (5, X (Xc0 (fc_valueR (((l.getD i default)).val) (by (first | omega | with_reducible exact fun h => h | (intro hq; rw [hq]; done) | (intro hq; rw [hq]; rfl) | (simp only [List.length_map]; done) | (simp only [List.length_map]; omega) | (simp; omega) | (simp; done)))) X0)), (10, Xv 2 (!(valRf (((l.getD i default)).val))) (Xi attrT l (i : Int))), (11, Xv 1 (!(valRf (((l.getD i default)).val))) X0), (12, Xv 1 (!(valRf (((l.getD i default)).val))) X0), (13, Xv 1 (!(valRf (((l.getD i default)).val))) X0), (14, Xv 1 (!(valRf (((l.getD i default)).val))) X0), (16, Xv 1 ((!(valRf (((l.getD i default)).val))) && !(!(seq (((l.getD i default)).val) ({ data := #[] })))) X0), (17, Xko (!(valRf (((l.getD i default)).val))) (!(seq (((l.getD i default)).val) ({ data := #[] })))), (18, X (Xk (!(valRf (((l.getD i default)).val)))))]] (!(valRf (((l.getD i default)).val)) && (!(seq (((l.getD i default)).val) ({ data := #[] })) || !e)) (fun h6 => ?_) (fun h6 => ?_)
   ·
    have e2 : ((errA e l 0) : Int) = 23 := by
     rw [I2.2, errA, if_pos (by omega), if_neg (by rw [h4]; decide), if_pos ⟨h6.1, h6.2.symm⟩]
    exact .finE [.r []] [] (fun z0 : Int => (VI z0, [])) _ _ e2
   ·
    refine .bp [.r [(5, Xv 1 (decide ((i : Int) > 0)) (Xn ((i : Int) - 1))), (6, Xv 2 (decide ((i : Int) > 0)) (Xi' attrT l ((i : Int) - 1) (i - 1))), (7, Xv 1 (decide ((i : Int) > 0)) X0), (8, Xv 1 (decide ((i : Int) > 0)) X0), (11, Xv 2 (decide ((i : Int) > 0)) (Xi attrT l (i : Int))), (12, Xv 1 (decide ((i : Int) > 0)) X0), (13, Xv 1 (decide ((i : Int) > 0)) X0), (14, Xv 2 (decide ((i : Int) > 0)) X0), (15, X (Xk (decide ((i : Int) > 0))))]] (decide ((i : Int) > 0) && !(slt (((l.getD (i - 1) default)).name) (((l.getD i default)).name))) (fun h8 => ?_) (fun h8 => ?_)
    ·
     have e3 : ((errA e l 0) : Int) = 5 := by
      rw [I2.2, errA, if_pos (by omega), if_neg (by rw [h4]; decide), if_neg (by clear ih2; rintro ⟨a, b⟩; simp_all), if_pos ⟨by omega, h8.2⟩]
     exact .finE [.r []] [] (fun z0 : Int => (VI z0, [])) _ _ e3
    ·
     refine .back [.r [(0, X (Xn ((i : Int) + 1)))]] [] (ih2 ((i + 1) : Nat) ?_ ?_)
     ·
      refine ⟨by omega, ?_⟩; rw [I2.2, errA, if_pos (by omega), if_neg (by rw [h4]; decide), if_neg (by clear ih2; rintro ⟨a, b⟩; simp_all), if_neg (by clear ih2; rintro ⟨a, b⟩; rcases h8 with h | h; omega; rw [b] at h; cases h)]
     ·
      ((try dsimp only); omega)
 ·
  have e4 : ((errA e l 0) : Int) = 0 := by
   rw [I2.2, errA, if_neg (by omega)]
  exact .finE [.r []] [] (fun z0 : Int => (VI z0, [])) _ _ e4

theorem fc_sameAttrs (a b : List Attr) : FC Tryz.prog 23 [VL 2 attrT a, VL 2 attrT b] (app emp []) (VB (sameL a b)) (app emp []) := by
 refine .go Tryz.f23 ?_
 refine .len 0 (fun hl0 => ?_)
 refine .len 1 (fun hl1 => ?_)
 refine .bp [.r [], .r [(1, X (Xl attrT a)), (3, X (Xl attrT b))]] ((a.length : Int) != (b.length : Int)) (fun h1 => ?_) (fun h1 => ?_)
 ·
  have e1 : ((sameL a b) : Bool) = false := by
   unfold sameL; rw [decide_eq_false (by omega)]; rfl
  exact .finE [.r []] [] (fun z0 : Bool => (VB z0, [])) _ _ e1
 ·
  refine .loop (α := Nat) [.r [(1, X (Xl attrT a))]] 72 (fun i => ([(0, VL 2 attrT a), (1, VL 2 attrT b), (12, VI (a.length : Int)), (13, VI (i : Int))], [])) (fun i => i ≤ a.length ∧ sameA a b 0 = sameA a b i) (fun i => a.length - i) (0 : Nat) ?_ ?_
  ·
   exact ⟨by omega, rfl⟩
  rintro i I4 ih4
  try dsimp only at I4
  refine .bp [.r []] (decide ((i : Int) < (a.length : Int))) (fun h4 => ?_) (fun h4 => ?_)
  ·
   refine .bp [.r [], .r [(2, X (Xi attrT a (i : Int))), (6, X (Xi attrT b (i : Int)))]] (!(seq (((a.getD i default)).name) (((b.getD i default)).name) && (seq (((a.getD i default)).val) (((b.getD i default)).val) && true))) (fun h6 => ?_) (fun h6 => ?_)
   ·
    have e2 : ((sameL a b) : Bool) = false := by
     unfold sameL; rw [I4.2, sameA, if_pos (by omega), if_neg (by clear ih4; simp only [seq_no, seq_iff] at h6; rintro ⟨x, y⟩; simp_all)]; simp
    exact .finE [.r []] [] (fun z0 : Bool => (VB z0, [])) _ _ e2
   ·
    refine .back [.r [(0, X (Xn ((i : Int) + 1)))]] [] (ih4 ((i + 1) : Nat) ?_ ?_)
    ·
     refine ⟨by omega, ?_⟩; rw [I4.2, sameA, if_pos (by omega), if_pos (by clear ih4; simp only [seq_no, seq_iff] at h6; simp_all)]
    ·
     ((try dsimp only); omega)
  ·
   have e3 : ((sameL a b) : Bool) = true := by
    unfold sameL; rw [I4.2, sameA, if_neg (by omega), decide_eq_true (by omega)]; rfl
   exact .finE [.r []] [] (fun z0 : Bool => (VB z0, [])) _ _ e3

theorem fc_get (l : List Attr) (n : ByteArray) : FC Tryz.prog 97 [VL 2 attrT l, VS n] (app emp []) (VS (getA l n 0)) (app emp []) := by
 refine .go Tryz.f97 ?_
 refine .len 0 (fun hl0 => ?_)
 refine .loop (α := Nat) [.r [], .r [(1, X (Xl attrT l))]] 32 (fun i => ([(1, VS n), (7, VL 2 attrT l), (8, VI (l.length : Int)), (9, VI (i : Int))], [])) (fun i => i ≤ l.length ∧ getA l n 0 = getA l n i) (fun i => l.length - i) (0 : Nat) ?_ ?_
 ·
  exact ⟨by omega, rfl⟩
 rintro i I2 ih2
 try dsimp only at I2
 refine .bp [.r []] (decide ((i : Int) < (l.length : Int))) (fun h2 => ?_) (fun h2 => ?_)
 ·
  refine .bp [.r [(0, X (Xi attrT l (i : Int)))], .r []] (seq (((l.getD i default)).name) n) (fun h4 => ?_) (fun h4 => ?_)
  ·
   have e1 : ((getA l n 0) : ByteArray) = ((l.getD i default)).val := by
    rw [I2.2, getA, if_pos (by omega), if_pos (seq_iff.1 h4)]
   exact .finE [.r []] [] (fun z0 : ByteArray => (VS z0, [])) _ _ e1
  ·
   refine .back [.r [(0, X (Xn ((i : Int) + 1)))]] [] (ih2 ((i + 1) : Nat) ?_ ?_)
   ·
    refine ⟨by omega, ?_⟩; rw [I2.2, getA, if_pos (by omega), if_neg (seq_no.1 h4)]
   ·
    ((try dsimp only); omega)
 ·
  have e2 : ((getA l n 0) : ByteArray) = { data := #[] } := by
   rw [I2.2, getA, if_neg (by omega)]
  exact .finE [.r []] [] (fun z0 : ByteArray => (VS z0, [])) _ _ e2
end Go.Ch
end
section
set_option linter.unusedVariables false
set_option linter.unusedSimpArgs false
set_option maxRecDepth 100000
set_option maxHeartbeats 4000000
open Go Go.Proofs Go.Ab
namespace Go.Ch
theorem fc_both (f : FuncId) (g : Attr → Attr → Option Attr) (hfc : callable Tryz.prog f = true) (hf : ∀ (o : List Attr) (x y : Attr), o.length < 1099511627776 → FC Tryz.prog f [.t (attrT x), .t (attrT y), .ptr 0 0] (app emp [(0, .box [.row 1 o.length]), (1, .row 2 false (List.map attrT o))]) (.tup []) (app emp [(0, .box [.row 1 (o ++ (g x y).toList).length]), (1, .row 2 false (List.map attrT (o ++ (g x y).toList)))])) (a b o : List Attr) (hn : o.length + a.length + b.length < 1099511627776) : FC Tryz.prog 133 [VL 2 attrT a, VL 2 attrT b, .fn f [.ptr 0 0]] (app emp [(0, .box [.row 1 o.length]), (1, OR 2 attrT o)]) (.tup []) (app emp [(0, .box [.row 1 ((o ++ fm g a b).length)]), (1, OR 2 attrT (o ++ fm g a b))]) := by
 refine .go Tryz.f133 ?_
 refine .len 0 (fun hl0 => ?_)
 refine .len 1 (fun hl1 => ?_)
 refine .loop (α := Nat × Nat × (List Attr)) [.r []] 18 (fun (i, j, p) => ([(0, VL 2 attrT a), (1, VL 2 attrT b), (2, .fn f [.ptr 0 0]), (6, VI (i : Int)), (7, VI (j : Int))], [(0, .box [.row 1 p.length]), (1, OR 2 attrT p)])) (fun (i, j, p) => i ≤ a.length ∧ j ≤ b.length ∧ p.length ≤ o.length + i + j ∧ o ++ fm g a b = p ++ fm g (a.drop i) (b.drop j)) (fun (i, j, p) => (a.length - i) + (b.length - j)) (0, 0, o) ?_ ?_
 ·
  exact ⟨by omega, by omega, by omega, rfl⟩
 rintro ⟨i, j, p⟩ I1 ih1
 try dsimp only at I1
 refine .bp [.r [(2, X (Xl attrT a)), (7, Xv 1 (!(decide ((i : Int) < (a.length : Int)))) (Xl attrT b)), (8, Xv 2 (!(decide ((i : Int) < (a.length : Int)))) X0), (9, X (Xk' (decide ((i : Int) < (a.length : Int)))))]] (decide ((i : Int) < (a.length : Int)) || decide ((j : Int) < (b.length : Int))) (fun h1 => ?_) (fun h1 => ?_)
 ·
  refine .bp [.r [(2, X (Xl attrT b)), (7, Xv 1 (!((j : Int) == (b.length : Int))) (Xl attrT a)), (8, Xv 2 (!((j : Int) == (b.length : Int))) X0), (9, Xv 1 (!((j : Int) == (b.length : Int))) X0), (12, Xv 2 ((!((j : Int) == (b.length : Int))) && (decide ((i : Int) < (a.length : Int)))) (Xi attrT a (i : Int))), (13, Xv 1 ((!((j : Int) == (b.length : Int))) && (decide ((i : Int) < (a.length : Int)))) X0), (14, Xv 1 ((!((j : Int) == (b.length : Int))) && (decide ((i : Int) < (a.length : Int)))) X0), (17, Xv 2 ((!((j : Int) == (b.length : Int))) && (decide ((i : Int) < (a.length : Int)))) (Xi attrT b (j : Int))), (18, Xv 1 ((!((j : Int) == (b.length : Int))) && (decide ((i : Int) < (a.length : Int)))) X0), (19, Xv 1 ((!((j : Int) == (b.length : Int))) && (decide ((i : Int) < (a.length : Int)))) X0), (20, Xv 2 ((!((j : Int) == (b.length : Int))) && (decide ((i : Int) < (a.length : Int)))) X0), (21, Xka (!((j : Int) == (b.length : Int))) (decide ((i : Int) < (a.length : Int)))), (22, X (Xk' ((j : Int) == (b.length : Int))))]] (((j : Int) == (b.length : Int)) || (decide ((i : Int) < (a.length : Int)) && slt (((a.getD i default)).name) (((b.getD j default)).name))) (fun h4 => ?_) (fun h4 => ?_)
  ·
   refine .back [.r [(3, X (Xi attrT a (i : Int))), (6, X (Xc3 338 [(0, 0), (1, 1)] (hf p ((a.getD i default)) ({ name := { data := #[] }, val := { data := #[] } } : Attr) (by first | omega | (simp; omega))) X0 (hc := hfc)))], .r [(1, X (Xn ((i : Int) + 1)))]] [(0, 0), (1, 1)] (ih1 ((i + 1), j, (p ++ (g ((a.getD i default)) ({ name := { data := #[] }, val := { data := #[] } } : Attr)).toList)) ?_ ?_)
   ·
    have hi : i < a.length := by omega
    have hg := toList_le (o := g (a.getD i default) ⟨{ data := #[] }, { data := #[] }⟩)
    have e := fm_a (g := g) (a := a) (b := b) (j := j) hi (by rcases h4 with h | h; (left; omega); exact .inr h.2)
    refine ⟨by omega, by omega, by simp only [List.length_append]; omega, ?_⟩
    rw [I1.2.2.2, e, List.append_assoc]
   ·
    ((try dsimp only); omega)
  ·
   refine .bp [.r [(2, X (Xl attrT a)), (7, Xv 2 (!((i : Int) == (a.length : Int))) (Xi attrT b (j : Int))), (8, Xv 1 (!((i : Int) == (a.length : Int))) X0), (9, Xv 1 (!((i : Int) == (a.length : Int))) X0), (12, Xv 2 (!((i : Int) == (a.length : Int))) (Xi attrT a (i : Int))), (13, Xv 1 (!((i : Int) == (a.length : Int))) X0), (14, Xv 1 (!((i : Int) == (a.length : Int))) X0), (15, Xv 2 (!((i : Int) == (a.length : Int))) X0), (16, X (Xk' ((i : Int) == (a.length : Int))))]] (((i : Int) == (a.length : Int)) || slt (((b.getD j default)).name) (((a.getD i default)).name)) (fun h7 => ?_) (fun h7 => ?_)
   ·
    refine .back [.r [(4, X (Xi attrT b (j : Int))), (6, X (Xc3 482 [(0, 0), (1, 1)] (hf p ({ name := { data := #[] }, val := { data := #[] } } : Attr) ((b.getD j default)) (by first | omega | (simp; omega))) X0 (hc := hfc)))], .r [(1, X (Xn ((j : Int) + 1)))]] [(0, 0), (1, 1)] (ih1 (i, (j + 1), (p ++ (g ({ name := { data := #[] }, val := { data := #[] } } : Attr) ((b.getD j default))).toList)) ?_ ?_)
    ·
     have hj : j < b.length := by omega
     have hg := toList_le (o := g ⟨{ data := #[] }, { data := #[] }⟩ (b.getD j default))
     have e := fm_b (g := g) (a := a) (b := b) (i := i) hj (fun hi => by rcases h4.2 with h | h; omega; exact h) (by rcases h7 with h | h; (left; omega); exact .inr h)
     refine ⟨by omega, by omega, by simp only [List.length_append]; omega, ?_⟩
     rw [I1.2.2.2, e, List.append_assoc]
    ·
     ((try dsimp only); omega)
   ·
    refine .back [.r [(3, X (Xi attrT a (i : Int))), (7, X (Xi attrT b (j : Int))), (9, X (Xc3 506 [(0, 0), (1, 1)] (hf p ((a.getD i default)) ((b.getD j default)) (by first | omega | (simp; omega))) X0 (hc := hfc)))], .r [(1, X (Xn ((i : Int) + 1))), (3, X (Xn ((j : Int) + 1)))]] [(0, 0), (1, 1)] (ih1 ((i + 1), (j + 1), (p ++ (g ((a.getD i default)) ((b.getD j default))).toList)) ?_ ?_)
    ·
     have hi : i < a.length := by omega
     have hj : j < b.length := by omega
     have hg := toList_le (o := g (a.getD i default) (b.getD j default))
     have e := fm_ab (g := g) (a := a) (b := b) hi hj (by rcases h4.2 with h | h; omega; exact h) h7.2
     refine ⟨by omega, by omega, by simp only [List.length_append]; omega, ?_⟩
     rw [I1.2.2.2, e, List.append_assoc]
    ·
     ((try dsimp only); omega)
 ·
  have e1 : ((o ++ fm g a b).length : Nat) = p.length := by
   rw [I1.2.2.2, fm_end (by omega) (by omega), List.append_nil]
  have e2 : ((o ++ fm g a b) : List Attr) = p := by
   rw [I1.2.2.2, fm_end (by omega) (by omega), List.append_nil]
  exact .finE [] [(0, 0), (1, 1)] (fun ((z0, z1) : Nat × (List Attr)) => (.tup [], [(0, .box [.row 1 z0]), (1, OR 2 attrT z1)])) _ _ (pr e1 e2)

theorem fc_rawG (o : List Attr) (x y : Attr) (hn : o.length < 1099511627776) : FC Tryz.prog 134 [.t (attrT x), .t (attrT y), .ptr 0 0] (app emp [(0, .box [.row 1 o.length]), (1, OR 2 attrT o)]) (.tup []) (app emp [(0, .box [.row 1 ((o ++ (rawG x y).toList).length)]), (1, OR 2 attrT (o ++ (rawG x y).toList))]) := by
 refine .go Tryz.f134 ?_
 refine .bp [.r [], .r []] (seq y.name ({ data := #[] })) (fun h1 => ?_) (fun h1 => ?_)
 ·
  have e1 : ((o ++ (rawG x y).toList).length : Nat) = (o ++ [x]).length := by
   simp only [seq_iff, seq_no] at *; unfold rawG; (repeat' split) <;> simp_all
  have e2 : ((o ++ (rawG x y).toList) : List Attr) = (o ++ [x]) := by
   simp only [seq_iff, seq_no] at *; unfold rawG; (repeat' split) <;> simp_all
  exact .finE [.r [(3, X (rowC attrT [x] (Xap 2 attrT 1 o [x])))]] [(0, 0), (1, 1)] (fun ((z0, z1) : Nat × (List Attr)) => (.tup [], [(0, .box [.row 1 z0]), (1, OR 2 attrT z1)])) _ _ (pr e1 e2)
 ·
  refine .bp [.r []] (!(seq y.val ({ data := #[] }))) (fun h3 => ?_) (fun h3 => ?_)
  ·
   have e3 : ((o ++ (rawG x y).toList).length : Nat) = (o ++ [y]).length := by
    simp only [seq_iff, seq_no] at *; unfold rawG; (repeat' split) <;> simp_all
   have e4 : ((o ++ (rawG x y).toList) : List Attr) = (o ++ [y]) := by
    simp only [seq_iff, seq_no] at *; unfold rawG; (repeat' split) <;> simp_all
   exact .finE [.r [(3, X (rowC attrT [y] (Xap 2 attrT 1 o [y])))]] [(0, 0), (1, 1)] (fun ((z0, z1) : Nat × (List Attr)) => (.tup [], [(0, .box [.row 1 z0]), (1, OR 2 attrT z1)])) _ _ (pr e3 e4)
  ·
   have e5 : ((o ++ (rawG x y).toList).length : Nat) = o.length := by
    simp only [seq_iff, seq_no] at *; unfold rawG; (repeat' split) <;> simp_all
   have e6 : ((o ++ (rawG x y).toList) : List Attr) = o := by
    simp only [seq_iff, seq_no] at *; unfold rawG; (repeat' split) <;> simp_all
   exact .finE [] [(0, 0), (1, 1)] (fun ((z0, z1) : Nat × (List Attr)) => (.tup [], [(0, .box [.row 1 z0]), (1, OR 2 attrT z1)])) _ _ (pr e5 e6)

theorem fc_raw (a b : List Attr) (hn : a.length + b.length < 1099511627776) : FC Tryz.prog 98 [VL 2 attrT a, VL 2 attrT b] (app emp []) (VL 2 attrT (fm rawG a b)) (app emp []) := by
 refine .go Tryz.f98 ?_
 refine .len 0 (fun hl0 => ?_)
 refine .len 1 (fun hl1 => ?_)
 exact .fin [.r [], .r [], .le (.nB 8 0 2), .r [(3, X (Xc3 41 [(0, 8), (1, 16)] (fc_both 134 rawG (by kernel_rfl) fc_rawG a b [] (by simp; omega)) X0))], .r [], .le (.fr 4 [(((fm rawG a b).length) : Nat) = (List.map attrT (fm rawG a b)).length] ⟨lm, trivial⟩)] []
end Go.Ch
end
section
set_option linter.unusedVariables false
set_option linter.unusedSimpArgs false
set_option maxRecDepth 100000
set_option maxHeartbeats 4000000
open Go Go.Proofs Go.Ab
namespace Go.Ch
end Go.Ch
end
section
set_option linter.unusedVariables false
namespace Go.Ch
open Go Go.Ab
def intT (z : Int) : Tree := .sc (.int .i64 z)
def cmpI (x y : Int) : Int := if x < y then -1 else if x > y then 1 else 0
def orL : List Int → Int
  | [] => 0
  | x :: l => if x ≠ 0 then x else orL l
theorem orL_at {l : List Int} {i : Nat} (h : i < l.length) : orL (l.drop i) = if l.getD i default ≠ 0 then l.getD i default else orL (l.drop (i + 1)) := by
  rw [List.drop_eq_getElem_cons h, orL]
  simp [List.getD, List.getElem?_eq_getElem h]
theorem orL_two (a b : Int) : orL [a, b] = if a ≠ 0 then a else b := by
  by_cases h : a = 0
  · by_cases k : b = 0 <;> simp [orL, h, k]
  · simp [orL, h]
end Go.Ch
end
section
set_option linter.unusedVariables false
namespace Go.Ab
open Go
variable {P : Program} {w : World} {F : Fen P} {S : Store} {m : Place} {n : Nat} {l0 : List (Nat × Ob)} {s : St} {Q : Exit → St → Prop}

theorem next_step (hS : SRel F S m w) {o : Oper} {a : Act} {x : Operand} {id mid nn : Nat} {seen : List Nat} {es : List (Int × MV)} {h : Option (Int × AVal)} (ho : o.op = .next x false) (hx : VRel S m w (okB F S m w) (.hdl id) (a.eval x))
    (hid : S id = some (.miter mid nn seen)) (hmid : S mid = some (.mp es h)) (hn : es.length = nn) :
    (∃ i, i < nn ∧ i ∉ seen ∧ Up P F S m w [(id, .miter mid nn (seen ++ [i]))] (.tup [.t (.sc (.bool true)), .junk, .junk]) o a) ∨ ((∀ i, i < nn → i ∈ seen) ∧ Up P F S m w [] (.tup [.t (.sc (.bool false))]) o a) := by
  obtain ⟨bi, bm, a1, a2, _, a4⟩ := hS.objs id _ hid
  obtain ⟨b, ents, bl, hM⟩ := hS.objs mid _ hmid
  have hM : MapD S m w (okB F S m w) es h (m mid) (m.g mid) b ents bl := hM
  obtain rfl : bm = b := by have := hM.1; rw [a2] at this; cases this; rfl
  have hu : a.eval x = .pointer (some ⟨bi, 0, none⟩) := by
    generalize a.eval x = u at hx
    cases hx with
    | hdl _ o' b' _ hs' hm hu =>
      rw [hid] at hs'; cases hs'
      simp only [hdlVal, Option.some.injEq] at hu
      rw [a1] at hm; cases hm
      exact hu.symm
  have hlen : ents.length = nn := hM.2.2.1.trans hn
  have born : ∀ (i : Nat) (e : MapEntry), ents[i]? = some e → e.born = i := fun i e he => by
    have hil : i < es.length := by rw [← hM.2.2.1]; exact (List.getElem?_eq_some_iff.1 he).1
    exact (hM.2.2.2.2.2.2 i es[i] e (List.getElem?_eq_getElem hil) he).2.1
  have hold : ∀ x ∈ ents.toArray.toList, x.born < nn := fun e he => by
    obtain ⟨i, hi, rfl⟩ := List.mem_iff_getElem.1 (show e ∈ ents by simpa using he)
    rw [born i _ (List.getElem?_eq_getElem hi), ← hlen]; exact hi
  have hrun : (execOp a.eval o).run P w = ((Instr.next (.pointer (some ⟨bi, 0, none⟩)) false o.type).run P w).andThen fun v w' => .ok (.value v) w' := by
    obtain ⟨dst, op, type, pos, after, guard⟩ := o
    simp only at ho
    subst ho
    simp [execOp, hu]
  rcases run_next_at (P := P) w o.type bi bm nn nn seen.toArray ents.toArray ents.length a4 hM.2.1 hold (Nat.le_refl _) with ⟨h0, hr⟩ | ⟨e, he, w1, hw1, hr⟩
  · right
    refine ⟨fun i hi => ?_, ?_⟩
    · have hil : i < ents.length := by rw [hlen]; exact hi
      have hemp := Array.eq_empty_of_size_eq_zero h0
      unfold leftOf at hemp
      rw [Array.filter_eq_empty_iff] at hemp
      have := hemp ents[i] (by simp)
      rw [born i _ (List.getElem?_eq_getElem hil)] at this
      simpa using this
    · refine Up.value (m' := m) (w' := w) (v := .tuple #[.bool false]) (by rw [hrun, hr]; rfl) hS (FrameExt.refl F S m w) (.tup _ [.bool false] rfl (fun i v u hv hu => ?_))
      match i with
      | 0 => cases hv; cases hu; exact .t _ _ (.sc _ rfl)
      | i + 1 => cases hv
  · left
    unfold leftOf at he
    simp only [Array.toList_filter, List.mem_filter, Bool.not_eq_true', List.contains_toArray] at he
    obtain ⟨he1, he2⟩ := he
    obtain ⟨i, hi, rfl⟩ := List.mem_iff_getElem.1 he1
    have hb := born i _ (List.getElem?_eq_getElem hi)
    rw [hb] at he2 hr
    have hal : w1.heap = w.heap ∧ w1.os = w.os ∧ w1.tape = w.tape ∧ w1.output = w.output := by rcases hw1 with rfl | rfl <;> exact ⟨rfl, rfl, rfl, rfl⟩
    have hblt : bi < w.heap.size := (Array.getElem?_eq_some_iff.1 a4).1
    have key := rewrite_obj (o' := .miter mid nn (seen ++ [i])) hS hid rfl a1 (w' := ChangeMaps.setBlock w1 bi (.mapIter (some bm) nn (seen.toArray.push i) ents.length)) hal.2.1 hal.2.2.1 hal.2.2.2
      (by simp [ChangeMaps.setBlock, hal.1]) (fun c hc => by simp only [ChangeMaps.setBlock, hal.1]; rw [Array.getElem?_setIfInBounds_ne (Ne.symm hc)]) (Nat.le_refl _) trivial
      (fun hF => ⟨bi, bm, a1, a2, ⟨es, h, by rw [upd_ne (fun e => by subst e; rw [hid] at hmid; cases hmid)]; exact hmid⟩, by
        simp only [ChangeMaps.setBlock, hal.1, hlen]
        rw [Array.getElem?_setIfInBounds_self_of_lt hblt]
        simp⟩)
    refine ⟨i, by rw [← hlen]; exact hi, by simpa using he2, ?_⟩
    refine Up.value (m' := m) (v := .tuple #[.bool true, ents[i].key, ents[i].val]) (by rw [hrun, hr]; rfl) key.1 key.2 (.tup _ [.bool true, ents[i].key, ents[i].val] rfl (fun j v u hv hu => ?_))
    match j with
    | 0 => cases hv; cases hu; exact .t _ _ (.sc _ rfl)
    | 1 => cases hv; exact .junk _
    | 2 => cases hv; exact .junk _
    | j + 3 => cases hv

def nxV (v : Bool) : AVal := bif v then .tup [.t (.sc (.bool true)), .junk, .junk] else .tup [.t (.sc (.bool false))]
/-- The state behind a region that asks for the next entry: there is one, number i, or there is none. -/
def nxX (P : Program) (n : Nat) (v : Bool) (i : Nat) : Option (At × List Prop) → Option Cfg
  | some (.mid (.region _ ops false) K s, _) => match ops.toList with
    | o1 :: rest => match o1.op, o1.guard with
      | .next x false, none => match ev s.sl x with
        | .hdl id => match s.st id with
          | some (.miter mid n' seen) =>
            match runL P ops.toList [] s.nx 1 rest ⟨put s.sl o1.dst (nxV v), app s.st (bif v then [(id, .miter mid n' (seen ++ [i]))] else []), s.nx⟩ with
            | some (s', rs) => bif (ops.toList.all (dstOk n)) && (allC rs).isEmpty && Nat.blt id s.nx then some ⟨.out .normal, K, ⟨s'.sl, s'.st, s.nx + 8 * ops.toList.length⟩⟩ else none
            | none => none
          | _ => none
        | _ => none
      | _, _ => none
    | [] => none
  | _ => none
def nxI : Option (At × List Prop) → Option (Nat × List Nat × List (Int × MV) × List Prop)
  | some (.mid (.region _ ops false) _ s, C) => match ops.toList with
    | o1 :: _ => match o1.op with
      | .next x false => match ev s.sl x with
        | .hdl id => match s.st id with
          | some (.miter mid n seen) => match s.st mid with
            | some (.mp es _) => some (n, seen, es, C)
            | _ => none
          | _ => none
        | _ => none
      | _ => none
    | [] => none
  | _ => none
theorem nx_sim {rid : Nat} {ops : Array Oper} {K : List Fr} {C C' : List Prop} {nn : Nat} {seen : List Nat} {es : List (Int × MV)} (hn : es.length = nn) (hI : nxI (some (.mid (.region rid ops false) K s, C)) = some (nn, seen, es, C'))
    (h1 : ∀ i, (nxX P n true i (some (.mid (.region rid ops false) K s, C))).isSome = true) (h2 : (nxX P n false 0 (some (.mid (.region rid ops false) K s, C))).isSome = true)
    (ht : ∀ i, i < nn → i ∉ seen → ∀ s', (nxX P n true i (some (.mid (.region rid ops false) K s, C))) = some ⟨.out .normal, K, s'⟩ → Q .normal s')
    (hf : (∀ i, i < nn → i ∈ seen) → ∀ s', (nxX P n false 0 (some (.mid (.region rid ops false) K s, C))) = some ⟨.out .normal, K, s'⟩ → Q .normal s') : Sim P n l0 (.region rid ops false) s Q := by
  intro F m0 w0 m a w h0 r1 r2
  suffices hh : (Code.region rid ops.toList.toArray false).wpIn (fw F) 0 P (fun e a' w' => ∃ s' m', Rel F n s' m' a' w' ∧ FrameExt F (app emp l0) m0 w0 s'.st m' w' ∧ Q e s') a w by simpa using hh
  refine wpIn_region_list ?_
  simp only [nxI] at hI
  split at hI
  rotate_left
  · cases hI
  rename_i o1 rest hops
  split at hI
  rotate_left
  · cases hI
  rename_i x hop
  split at hI
  rotate_left
  · cases hI
  rename_i id hx
  split at hI
  rotate_left
  · cases hI
  rename_i mid n' seen' hit
  split at hI
  rotate_left
  · cases hI
  rename_i es' hh' hmid
  simp only [Option.some.injEq, Prod.mk.injEq] at hI
  obtain ⟨rfl, rfl, rfl, -⟩ := hI
  have hxv : VRel s.st m w (okB F s.st m w) (.hdl id) (a.eval x) := by
    have := ev_rel (x := x) (fun t _ => r1.slots t)
    rw [hx] at this; exact this
  have hguard : o1.guard = none := by
    have := h2
    simp only [nxX, hops, hop] at this
    cases hg : o1.guard with
    | none => rfl
    | some p => simp [hg] at this
  have hX : ∀ v i, nxX P n v i (some (.mid (.region rid ops false) K s, C)) =
      match runL P ops.toList [] s.nx 1 rest ⟨put s.sl o1.dst (nxV v), app s.st (bif v then [(id, .miter mid n' (seen' ++ [i]))] else []), s.nx⟩ with
      | some (s', rs) => bif (ops.toList.all (dstOk n)) && (allC rs).isEmpty && Nat.blt id s.nx then some ⟨.out .normal, K, ⟨s'.sl, s'.st, s.nx + 8 * ops.toList.length⟩⟩ else none
      | none => none := by
    intro v i
    simp only [nxX]
    rw [hops]
    simp only [hop, hguard, hx, hit]
  have go : ∀ (v : Bool) (i : Nat), (nxX P n v i (some (.mid (.region rid ops false) K s, C))).isSome = true →
      (∀ s', nxX P n v i (some (.mid (.region rid ops false) K s, C)) = some ⟨.out .normal, K, s'⟩ → Q .normal s') →
      Up P F s.st m w (bif v then [(id, .miter mid n' (seen' ++ [i]))] else []) (nxV v) o1 a →
      wpListIn (fw F) 0 P ops.toList.toArray (fun e a' w' => ∃ s' m', Rel F n s' m' a' w' ∧ FrameExt F (app emp l0) m0 w0 s'.st m' w' ∧ Q e s') (o1 :: rest) a w := by
    intro v i hs hq hu
    rw [hX] at hs
    have hq' : ∀ s', _ = some (⟨.out .normal, K, s'⟩ : Cfg) → Q .normal s' := fun s' h => hq s' ((hX v i).trans h)
    revert hs hq'
    split
    · rename_i s2 rs hrun
      intro hs hq'
      cases hc : ((ops.toList.all (dstOk n)) && (allC rs).isEmpty && Nat.blt id s.nx) with
      | false => rw [hc] at hs; cases hs
      | true =>
        rw [hc] at hq'
        simp only [Bool.and_eq_true] at hc
        obtain ⟨⟨c1, c2⟩, c3⟩ := hc
        have hemp : allC rs = [] := by simpa using c2
        rw [hops] at c1
        simp only [List.all_cons, Bool.and_eq_true] at c1
        have hQ := hq' _ rfl
        unfold wpListIn
        rw [if_pos (by simp [Region.wanted, hguard])]
        refine ⟨fun _ _ => trivial, ?_⟩
        rw [Oper.semAt_eq _ _ _ (fun cl e => by rw [hop] at e; cases e)]
        refine hu _ _ (fun u w' m' k1 k2 k3 => ?_)
        refine runL_wp (ds := a.defers) rest 1 _ s2 rs hrun (by rw [hemp]; trivial) c1.2 m' _ w' ?_ (by rw [put_size]; exact r1.size) (by rw [put_defers]) k1 (fun id' hid' => ?_) (fun m'' a'' w'' q1 q2 q3 q4 q5 q6 => ?_)
        · exact SlotsRel.put c1.1 r1.size (fun t => k2.val (r1.slots t)) k3
        · show app s.st _ id' = none
          have hfr := r1.fresh id' (by omega)
          cases v with
          | false => exact hfr
          | true =>
            have hlt : id < s.nx := Nat.lt_of_succ_le (Nat.le_of_ble_eq_true c3)
            show upd s.st id _ id' = none
            rw [upd_ne (by omega)]; exact hfr
        · refine ⟨⟨s2.sl, s2.st, s.nx + 8 * ops.toList.length⟩, m'', ⟨q1, q2, by rw [q3]; exact r1.defers.ext (k2.trans r1.srel q6), q4, fun id' hid' => q5 id' ?_⟩, r2.trans h0 (k2.trans r1.srel q6), hQ⟩
          simp only [hops, List.length_cons] at hid'
          omega
    · intro hs; cases hs
  rw [hops]
  have hops' : ops.toList.toArray = (o1 :: rest).toArray := by rw [hops]
  rw [← hops']
  rcases next_step r1.srel hop hxv hit hmid hn with ⟨i, hi, hni, hu⟩ | ⟨hall, hu⟩
  · exact go true i (h1 i) (ht i hi hni) hu
  · exact go false 0 h2 (hf hall) hu
def cfD (c : Option Cfg) : Cfg := c.getD default
theorem SimC.next {c : Cfg} (sc : List It) (nn : Nat) (seen : List Nat) (es : List (Int × MV)) (hn : es.length = nn)
    (ht : ∀ i, i < nn → i ∉ seen → SimC P n l0 Q (cfD (nxX P n true i (runP P n sc c)))) (hf : (∀ i, i < nn → i ∈ seen) → SimC P n l0 Q (cfD (nxX P n false 0 (runP P n sc c))))
    (h : nxI (runP P n sc c) = some (nn, seen, es, csL sc) := by kernel_rfl) (h1 : ∀ i, (nxX P n true i (runP P n sc c)).isSome = true := by intro i; kernel_rfl) (h2 : (nxX P n false 0 (runP P n sc c)).isSome = true := by kernel_rfl) : SimC P n l0 Q c := by
  generalize hr : runP P n sc c = r at *
  match r, h with
  | some (.mid (.region rid ops false) K s, C), h =>
    have hC : C = csL sc := by
      simp only [nxI] at h
      split at h
      rotate_left
      · cases h
      split at h
      rotate_left
      · cases h
      split at h
      rotate_left
      · cases h
      split at h
      rotate_left
      · cases h
      split at h
      rotate_left
      · cases h
      simp only [Option.some.injEq, Prod.mk.injEq] at h
      exact h.2.2.2
    subst hC
    refine run_sound hr (csL_all sc) (fun hm hQ => ?_)
    refine nx_sim hn h h1 h2 (fun i hi hni s' hs => ?_) (fun hall s' hs => ?_)
    · have := (ht i hi hni).run hm hQ
      rw [hs] at this
      exact this
    · have := (hf hall).run hm hQ
      rw [hs] at this
      exact this
end Go.Ab
end
section
set_option linter.unusedVariables false
namespace Go.Ab
open Go
variable {P : Program}

/-- Looked up: nothing; plain data or nothing; data; a pointer to data. -/
def Xm0 (es : List (Int × MV)) (n : Int) : Px (lookE es n = none) := ⟨⟨none, none, none, some ⟨0, [], .junk, []⟩, []⟩, [lookE es n = none], fun h => ⟨h, trivial⟩⟩
def Xmt (es : List (Int × MV)) (n : Int) (z T : Tree) : Px (lookT es n z = some T) := ⟨⟨none, none, none, some ⟨4, [], .t T, []⟩, []⟩, [lookT es n z = some T], fun h => ⟨h, trivial⟩⟩
def Xmq {α : Type} (es : List (Int × MV)) (n : Int) (k : Nat) (g : α → Tree) (xs : List α) : Px (lookQ es n k = some (xs.map g)) := ⟨⟨none, none, none, some ⟨5, [], .t (.lst k (xs.map g)), []⟩, []⟩, [lookQ es n k = some (xs.map g)], fun h => ⟨h, trivial⟩⟩
/-- A box, or a row, is taken out. -/
def Xm2 (es : List (Int × MV)) (n : Int) (Ts : List Tree) : Px (lookE es n = some (.bx Ts)) :=
  ⟨⟨none, none, none, some ⟨2, [], .junk, [(0, .box (Ts.map .t))]⟩, []⟩, [lookE es n = some (.bx Ts)], fun h => ⟨h, trivial⟩⟩
def Xm2r {α : Type} (es : List (Int × MV)) (n : Int) (id nid k : Nat) (g : α → Tree) (xs : List α) : Px (lookE es n = some (.rw k (xs.map g))) :=
  ⟨⟨some (.row nid xs.length), some [(id, .mp es (some (n, .row nid xs.length))), (nid, .row k false (xs.map g))], none, some ⟨2, [], .junk, [(0, .row k false (xs.map g))]⟩, []⟩,
    [lookE es n = some (.rw k (xs.map g)), Weak (.row nid (xs.map g).length) (.row nid xs.length), [(id, Ob.mp es (some (n, .row nid xs.length))), (nid, .row k false (xs.map g))] = [(id, Ob.mp es (some (n, .row nid (xs.map g).length))), (nid, .row k false (xs.map g))]],
    fun h => ⟨h, Weak.of_eq (by rw [List.length_map]), by rw [List.length_map], trivial⟩⟩
/-- A row is written no more. -/
def Xm3 {α β : Type} (f : β → Int × MV) (l l' : List β) (n : Int) (id k : Nat) (g : α → Tree) (xs : List α) : Px (lookE (l.map f) n = some (.rw k (xs.map g)) ∧ putE (l.map f) n (.im (.lst k (xs.map g))) = l'.map f) :=
  ⟨⟨none, some [(id, .mp (l'.map f) none)], none, some ⟨3, [], .t (.lst k (xs.map g)), []⟩, []⟩,
    [lookE (l.map f) n = some (.rw k (xs.map g)), [(id, Ob.mp (l'.map f) none)] = [(id, Ob.mp (putE (l.map f) n (.im (.lst k (xs.map g)))) none)]], fun h => ⟨h.1, by rw [h.2], trivial⟩⟩
/-- Stored: data; a row, or a box, that is the map's from here on; the entry that was taken out. -/
def Xmu {β : Type} (f : β → Int × MV) (l l' : List β) (n : Int) (id : Nat) (v : MV) : Px (putE (l.map f) n v = l'.map f) :=
  ⟨⟨none, some [(id, .mp (l'.map f) none)], none, none, []⟩, [[(id, Ob.mp (l'.map f) none)] = [(id, Ob.mp (putE (l.map f) n v) none)]], fun h => ⟨by rw [h], trivial⟩⟩
def Xmr {α β : Type} (f : β → Int × MV) (l l' : List β) (n : Int) (id r k q : Nat) (g : α → Tree) (xs : List α) : Px (q = xs.length ∧ putE (l.map f) n (.rw k (xs.map g)) = l'.map f) :=
  ⟨⟨none, some [(r, .gone), (id, .mp (l'.map f) none)], none, none, [(0, 1)]⟩, [q = (xs.map g).length, [(r, Ob.gone), (id, Ob.mp (l'.map f) none)] = [(r, Ob.gone), (id, Ob.mp (putE (l.map f) n (.rw k (xs.map g))) none)]],
    fun h => ⟨by rw [List.length_map]; exact h.1, by rw [h.2], trivial⟩⟩
def Xmrh {α β : Type} (f : β → Int × MV) (l l' : List β) (n n' : Int) (id r k q : Nat) (g : α → Tree) (xs : List α) : Px (q = xs.length ∧ n = n' ∧ putE (l.map f) n (.rw k (xs.map g)) = l'.map f) :=
  ⟨⟨none, some [(r, .gone), (id, .mp (l'.map f) none)], none, none, [(0, 1)]⟩, [q = (xs.map g).length, n = n', [(r, Ob.gone), (id, Ob.mp (l'.map f) none)] = [(r, Ob.gone), (id, Ob.mp (putE (l.map f) n (.rw k (xs.map g))) none)]],
    fun h => ⟨by rw [List.length_map]; exact h.1, h.2.1, by rw [h.2.2], trivial⟩⟩
def Xmb {β : Type} (f : β → Int × MV) (l l' : List β) (n : Int) (id r : Nat) (Ts : List Tree) : Px (putE (l.map f) n (.bx Ts) = l'.map f) :=
  ⟨⟨none, some [(r, .gone), (id, .mp (l'.map f) none)], none, none, []⟩, [[(r, Ob.gone), (id, Ob.mp (l'.map f) none)] = [(r, Ob.gone), (id, Ob.mp (putE (l.map f) n (.bx Ts)) none)]], fun h => ⟨by rw [h], trivial⟩⟩
/-- A range over a map; its entry: the key alone, data, a pointer to data, a box that is taken out. -/
def Xmg {β : Type} (f : β → Int × MV) (l : List β) (id nid : Nat) : Px True :=
  ⟨⟨none, some [(nid, .miter id l.length [])], none, none, [(0, 1)]⟩, [[(nid, Ob.miter id l.length [])] = [(nid, Ob.miter id (l.map f).length [])]], fun _ => ⟨by rw [List.length_map], trivial⟩⟩
def Xe2 {β : Type} (f : β → Int × MV) (l : List β) (mid n : Nat) (seen : List Nat) (i : Nat) (k : Int) (Ts : List Tree) : Px (l.length = n ∧ seen.getLast? = some i ∧ (l.map f)[i]? = some (k, .bx Ts)) :=
  ⟨⟨none, none, some (.sc (.int .i64 (i : Int))), some ⟨2, [mid], .tup [VI k, .junk], [(0, .box (Ts.map .t))]⟩, []⟩, [(l.map f).length = n, seen.getLast? = some ((i : Int).toNat), (l.map f)[(i : Int).toNat]? = some (k, .bx Ts)],
    fun h => ⟨by rw [List.length_map]; exact h.1, h.2.1, h.2.2, trivial⟩⟩
/-- Passed over. -/
def Xskip (e : Bool) (v : AVal) : Px (e = false) := ⟨⟨none, none, none, some ⟨9, [], v, []⟩, []⟩, [e = false], fun h => ⟨h, trivial⟩⟩
end Go.Ab
end
section
set_option linter.unusedVariables false
set_option linter.unusedSimpArgs false
namespace Go.Ch
open Go Go.Ab

structure DOp where
  clock : Int
  site : Int
  kind : Int
  itm : Int
  prt : Int
  plc : ByteArray
  nm : ByteArray
  vl : ByteArray
  deriving DecidableEq
instance : Inhabited DOp := ⟨⟨0, 0, 0, 0, 0, mt, mt, mt⟩⟩
def dopT (o : DOp) : Tree := .agg [TI o.clock, TI o.site, TI o.kind, TI o.itm, TI o.prt, TS o.plc, TS o.nm, TS o.vl]
structure DItem where
  item : Int
  parent : Int
  place : ByteArray
  attrs : List Attr
instance : Inhabited DItem := ⟨⟨0, 0, mt, []⟩⟩
def ditT (x : DItem) : Tree := .agg [TI x.item, TI x.parent, TS x.place, TL 2 attrT x.attrs]

/-! ### Places -/
def plS (s : ByteArray) (i : Nat) : Bool := if i < s.size then (if byt s i < 97 ∨ 122 < byt s i then false else plS s (i + 1)) else true
termination_by s.size - i
def placeB (s : ByteArray) : Bool := decide (1 ≤ s.size ∧ s.size ≤ 200 ∧ byt s (s.size - 1) ≠ 97) && plS s 0

/-! ### Stamps -/
def stampC (a b : DOp) : Int := orL [cmpI a.clock b.clock, cmpI a.site b.site]
/-- The stamp of a is less than that of b. -/
def ltO (a b : DOp) : Prop := a.clock < b.clock ∨ (a.clock = b.clock ∧ a.site < b.site)
instance (a b : DOp) : Decidable (ltO a b) := by unfold ltO; infer_instance
theorem stampC_lt {a b : DOp} : stampC a b < 0 ↔ ltO a b := by
  unfold stampC ltO cmpI
  rw [orL_two]
  split <;> split <;> (try split) <;> (try split) <;> omega
theorem stampC_ge {a b : DOp} : 0 ≤ stampC a b ↔ ¬ ltO a b := by rw [← stampC_lt]; omega
/-! ### The error of operations -/
def opE (o : DOp) : Int :=
  if o.kind ≠ 0 ∧ o.kind ≠ 1 then 8
  else if o.clock < 1 ∨ 1073741824 < o.clock ∨ o.site < 0 ∨ 1000 < o.site ∨ o.itm < 1 ∨ 1073741824 < o.itm then 2
  else if (o.kind = 0 ∧ (seq o.nm mt = false ∨ seq o.vl mt = false)) ∨ (o.kind = 1 ∧ (o.prt ≠ 0 ∨ seq o.plc mt = false)) then 4
  else if o.kind = 0 ∧ (o.prt < -1 ∨ 1073741824 < o.prt) then 2
  else if (o.kind = 0 ∧ placeB o.plc = false) ∨ (o.kind = 1 ∧ nameGo o.nm = false) then 9
  else if o.kind = 1 ∧ seq o.vl mt = false ∧ valGo o.vl = false then 23
  else 0
def drawE (l : List DOp) (i : Nat) : Int :=
  if i < l.length then
    if opE (l.getD i default) ≠ 0 then opE (l.getD i default)
    else if 0 < i ∧ ¬ ltO (l.getD (i - 1) default) (l.getD i default) then 5
    else drawE l (i + 1)
  else 0
termination_by l.length - i

/-! ### The union of operations -/
theorem getDO_mem {l : List DOp} {i : Nat} (h : i < l.length) : l.getD i default ∈ l := by
  rw [show l.getD i default = l[i] by simp [List.getD, List.getElem?_eq_getElem h]]
  exact List.getElem_mem h
end Go.Ch
end
