/- Going through a function's text path by path: the states are reckoned by the kernel and nowhere written out; what an operation asks is proved where its oracle stands. -/
import Derived.Test.YthpcjddcgdlilaaDoorM1
import Derived.Test.YthpcjddcgdlilaaDoorM2
import Derived.Test.YthpcjddcgdlilaaDoorM3
import Derived.KernelRfl
import Derived.Test.YthpcjddcgdlilaaDoorProg
section
set_option linter.unusedVariables false
namespace Go.Ab
open Go
variable {P : Program} {w : World} {F : Fen P} {S st : Store} {m : Place}
variable {n : Nat} {l0 : List (Nat × Ob)} {s : St} {Q : Exit → St → Prop}

/-- An oracle with what it makes the operation ask, proved. -/
structure Ox where
  o : Orc
  cs : List Prop
  h : All cs
/-- Steps that see the state in another form. -/
inductive LeI where
  | nR (t k : Nat)
  | nL (t k : Nat)
  | nB (b i k : Nat)
  | fz (id : Nat)
  | fr (t : Nat) (p : List Prop) (h : All p)
  | eq (t : Nat) (d v : AVal) (h : Weak d v)
  | er (id : Nat) (xs ys : List Tree) (h : xs = ys)
  | kp (ts : List Nat)
  | eb (b i : Nat) (v v' : AVal) (h : v = v')
  | mc (id : Nat) (xs' : List Tree) (p : List Prop) (h : All p)
  | mf (t : Nat)
  | fR (t : Nat) (p : List Prop) (h : All p)
  | mv (t i j : Nat) (h : i = j)
inductive It where
  | r (xs : List (Nat × Ox))
  | t
  | f
  | u
  | le (x : LeI)
inductive Fr where
  | seq (c : Code)
  | blk (i : Nat)
  | loop (c : Code)
inductive Ctl where
  | run (c : Code)
  | out (e : Exit)
instance : Inhabited Ctl := ⟨.run .skip⟩
structure Cfg where
  ctl : Ctl
  K : List Fr
  s : St
instance : Inhabited Cfg := ⟨⟨default, [], ⟨[], emp, 0⟩⟩⟩
inductive At where
  | br (b : Bool) (x y : Code) (K : List Fr) (s : St)
  | any (x y : Code) (K : List Fr) (s : St)
  | loop (c : Code) (K : List Fr) (s : St)
  | back (c : Code) (K : List Fr) (s : St)
  | fin (e : Exit) (s : St)
  | mid (c : Code) (K : List Fr) (s : St)

def leR (s : St) : LeI → Option (St × List Prop)
  | .nR t k => match get s.sl t with
    | .t (.sc (.slice none 0 0)) => bif Nat.blt 0 k then some (⟨(t, .row s.nx 0) :: s.sl, upd s.st s.nx (.row k false []), s.nx + 1⟩, []) else none
    | _ => none
  | .nL t k => match get s.sl t with
    | .t (.sc (.slice none 0 0)) => bif Nat.blt 0 k then some (⟨(t, .t (.lst k [])) :: s.sl, s.st, s.nx⟩, []) else none
    | _ => none
  | .nB b i k => match s.st b with
    | some (.box cs) => match cs[i]? with
      | some (.t (.sc (.slice none 0 0))) => bif Nat.blt 0 k then some (⟨s.sl, upd (upd s.st s.nx (.row k false [])) b (.box (cs.set i (.row s.nx 0))), s.nx + 1⟩, []) else none
      | _ => none
    | _ => none
  | .fz id => match s.st id with
    | some (.row k false xs) => some (⟨s.sl, upd s.st id (.row k true xs), s.nx⟩, [])
    | _ => none
  | .fr t _ _ => match snap s.st (get s.sl t) with
    | some (v', g, p) => bif g.all (fun x => Nat.blt x.1 s.nx) then some (⟨(t, v') :: s.sl, app s.st g, s.nx⟩, p) else none
    | none => none
  | .eq t _ v _ => some (⟨(t, v) :: s.sl, s.st, s.nx⟩, [Weak (get s.sl t) v])
  | .er id _ ys _ => match s.st id with
    | some (.row k fz xs) => some (⟨s.sl, upd s.st id (.row k fz ys), s.nx⟩, [xs = ys])
    | _ => none
  | .kp ts => some (⟨keepS s.sl ts, s.st, s.nx⟩, [])
  | .mc id xs' _ _ => match s.st id with
    | some (.mat false xs (some (i, r, q))) => match s.st r with
      | some (.row k _ ys) => some (⟨s.sl, upd (upd s.st r (.row k true ys)) id (.mat false xs' none), s.nx⟩, [q = ys.length, xs.set i (.lst k ys) = xs'])
      | _ => none
    | _ => none
  | .mf t => match get s.sl t with
    | .mat id => match s.st id with
      | some (.mat false xs none) => some (⟨(t, .t (.lst 1 xs)) :: s.sl, upd s.st id (.mat true xs none), s.nx⟩, [])
      | _ => none
    | _ => none
  | .fR t _ _ => match snapR s.st (get s.sl t) with
    | some (v', g, p) => bif g.all (fun x => Nat.blt x.1 s.nx) then some (⟨(t, v') :: s.sl, app s.st g, s.nx⟩, p) else none
    | none => none
  | .mv t _ _ _ => match get s.sl t with
    | .row id q => match s.st id with
      | some (.row k false xs) => some (⟨(t, .row s.nx q) :: s.sl, upd (upd s.st id .gone) s.nx (.row k false xs), s.nx + 1⟩, [q = xs.length])
      | _ => none
    | _ => none
  | .eb b i _ v' _ => match s.st b with
    | some (.box cs) => match cs[i]? with
      | some v0 => some (⟨s.sl, upd s.st b (.box (cs.set i v')), s.nx⟩, [v0 = v'])
      | none => none
    | _ => none
def leC : LeI → List Prop
  | .fr _ p _ => p
  | .eq _ d v _ => [Weak d v]
  | .er _ xs ys _ => [xs = ys]
  | .eb _ _ v v' _ => [v = v']
  | .mc _ _ p _ => p
  | .fR _ p _ => p
  | .mv _ i j _ => [i = j]
  | _ => []
def runA (P : Program) (n : Nat) (ops : List Oper) (draw : Bool) (orcs : List (Nat × Orc)) (s : St) : Option (St × List Prop) :=
  match runL P ops orcs s.nx 0 ops s with
  | some (s', rs) => bif (ops.all (dstOk n)) && (!draw || drawOk ops s.nx rs) then some (⟨s'.sl, s'.st, s.nx + 8 * ops.length⟩, allC rs) else none
  | none => none
def oxO : List (Nat × Ox) → List (Nat × Orc)
  | [] => []
  | (i, x) :: l => (i, x.o) :: oxO l
/- No '++' here: so the kernel, which holds it against the reckoned list, never compares the parts of two '++'. -/
def apC : List Prop → List Prop → List Prop
  | [], t => t
  | p :: l, t => p :: apC l t
def oxC : List (Nat × Ox) → List Prop → List Prop
  | [], t => t
  | (_, x) :: l, t => apC x.cs (oxC l t)
def csL : List It → List Prop
  | [] => []
  | .r xs :: l => oxC xs (csL l)
  | .le x :: l => apC (leC x) (csL l)
  | _ :: l => csL l

inductive OutR where
  | fin
  | back (c : Code) (K : List Fr)
  | go (ctl : Ctl) (K : List Fr)
def outS (e : Exit) : List Fr → OutR
  | [] => .fin
  | .seq c :: K => match e with
    | .normal => .go (.run c) K
    | e => .go (.out e) K
  | .blk i :: K => match e with
    | .exit j => bif Nat.beq j i then .go (.out .normal) K else .go (.out (.exit j)) K
    | e => .go (.out e) K
  | .loop c :: K => match e with
    | .normal => .back c K
    | e => .go (.out e) K
def go (P : Program) (n : Nat) : Nat → List It → Ctl → List Fr → St → List Prop → Option (At × List Prop)
  | 0, _, _, _, _, _ => none
  | fuel + 1, .le x :: sc, ctl, K, s, acc => match leR s x with
    | some (s', C) => go P n fuel sc ctl K s' (acc ++ C)
    | none => none
  | fuel + 1, sc, .run c, K, s, acc => match c with
    | .seq x y => go P n fuel sc (.run x) (.seq y :: K) s acc
    | .skip => go P n fuel sc (.out .normal) K s acc
    | .ret => go P n fuel sc (.out .ret) K s acc
    | .exit i => go P n fuel sc (.out (.exit i)) K s acc
    | .block i c => go P n fuel sc (.run c) (.blk i :: K) s acc
    | .loop c => match sc with
      | [] => some (.loop c K s, acc)
      | .u :: sc => go P n fuel sc (.run c) (.loop c :: K) s acc
      | _ => none
    | .cond c x y => match ev s.sl c with
      | .t (.sc (.bool b)) => match sc with
        | [] => some (.br b x y K s, acc)
        | .t :: sc => bif b then go P n fuel sc (.run x) K s acc else none
        | .f :: sc => bif b then none else go P n fuel sc (.run y) K s acc
        | _ => none
      | .anyB => match sc with
        | [] => some (.any x y K s, acc)
        | _ => none
      | _ => none
    | .region id ops draw => match sc with
      | [] => some (.mid (.region id ops draw) K s, acc)
      | .r xs :: sc => match runA P n ops.toList draw (oxO xs) s with
        | some (s', C) => go P n fuel sc (.out .normal) K s' (acc ++ C)
        | none => none
      | _ => none
    | _ => none
  | fuel + 1, sc, .out e, K, s, acc => match outS e K with
    | .fin => match sc with
      | [] => some (.fin e s, acc)
      | _ => none
    | .back c K => match sc with
      | [] => some (.back c K s, acc)
      | .u :: sc => go P n fuel sc (.run c) (.loop c :: K) s acc
      | _ => none
    | .go ctl K => go P n fuel sc ctl K s acc

/-! ### Soundness -/
def wrapK (P : Program) (n : Nat) (l0 : List (Nat × Ob)) : List Fr → (Exit → St → Prop) → Exit → St → Prop
  | [], Q => Q
  | .seq c :: K, Q => andThen (fun s => Sim P n l0 c s (wrapK P n l0 K Q)) (wrapK P n l0 K Q)
  | .blk i :: K, Q => inBlk i (wrapK P n l0 K Q)
  | .loop c :: K, Q => andThen (fun s => LoopSim P n l0 c s (wrapK P n l0 K Q)) (wrapK P n l0 K Q)
def LeClosed (n : Nat) (l0 : List (Nat × Ob)) (Q : Exit → St → Prop) : Prop := ∀ e s s', Le n l0 s s' → Q e s' → Q e s
def CtlG (P : Program) (n : Nat) (l0 : List (Nat × Ob)) (Q : Exit → St → Prop) : Ctl → List Fr → St → Prop
  | .run c, K, s => Sim P n l0 c s (wrapK P n l0 K Q)
  | .out e, K, s => wrapK P n l0 K Q e s
def AtG (P : Program) (n : Nat) (l0 : List (Nat × Ob)) (Q : Exit → St → Prop) : At → Prop
  | .any x y K s => Sim P n l0 x s (wrapK P n l0 K Q) ∧ Sim P n l0 y s (wrapK P n l0 K Q)
  | .br b x y K s => (b = true → Sim P n l0 x s (wrapK P n l0 K Q)) ∧ (b = false → Sim P n l0 y s (wrapK P n l0 K Q))
  | .loop c K s => LoopSim P n l0 c s (wrapK P n l0 K Q)
  | .back c K s => LoopSim P n l0 c s (wrapK P n l0 K Q)
  | .fin e s => Q e s
  | .mid c K s => Sim P n l0 c s (wrapK P n l0 K Q)

theorem wrapK_le (hQ : LeClosed n l0 Q) : ∀ (K : List Fr), LeClosed n l0 (wrapK P n l0 K Q)
  | [] => hQ
  | .seq c :: K => fun e s s' h k => by
    cases e with
    | normal => exact Sim.weaken h k
    | _ => exact wrapK_le hQ K _ s s' h k
  | .blk i :: K => fun e s s' h k => by
    cases e with
    | exit j =>
      simp only [wrapK, inBlk] at k ⊢
      split
      · rename_i hj; rw [if_pos hj] at k; exact wrapK_le hQ K _ s s' h k
      · rename_i hj; rw [if_neg hj] at k; exact wrapK_le hQ K _ s s' h k
    | _ => exact wrapK_le hQ K _ s s' h k
  | .loop c :: K => fun e s s' h k => by
    cases e with
    | normal => exact LoopSim.weaken h k
    | _ => exact wrapK_le hQ K _ s s' h k
theorem CtlG_le (hQ : LeClosed n l0 Q) {ctl : Ctl} {K : List Fr} {s s' : St} (h : Le n l0 s s') (k : CtlG P n l0 Q ctl K s') : CtlG P n l0 Q ctl K s := by
  cases ctl with
  | run c => exact Sim.weaken h k
  | out e => exact wrapK_le hQ K e s s' h k
theorem Le.row {id k : Nat} {fz : Bool} {xs ys : List Tree} (hid : s.st id = some (.row k fz xs)) (h : xs = ys) : Le n l0 s ⟨s.sl, upd s.st id (.row k fz ys), s.nx⟩ := by
  have e : upd s.st id (.row k fz ys) = s.st := by
    funext j
    unfold upd
    by_cases hj : j = id
    · subst hj; simp [hid, h]
    · rw [beq_ne hj]; rfl
  rw [e]
  exact fun P F m0 w0 m a w h0 h1 h2 => ⟨m, h1, h2⟩
theorem Le.boxE {b i : Nat} {cs : List AVal} {v0 v : AVal} (hb : s.st b = some (.box cs)) (hi : cs[i]? = some v0) (h : v0 = v) : Le n l0 s ⟨s.sl, upd s.st b (.box (cs.set i v)), s.nx⟩ := by
  subst h
  have e0 : cs.set i v0 = cs := by
    apply List.ext_getElem?
    intro j
    rw [List.getElem?_set]
    split
    · rename_i hj; subst hj
      have := (List.getElem?_eq_some_iff.1 hi).1
      rw [if_pos this, hi]
    · rfl
  have e : upd s.st b (.box (cs.set i v0)) = s.st := by
    funext j
    unfold upd
    by_cases hj : j = b
    · subst hj; simp [hb, e0]
    · rw [beq_ne hj]; rfl
  rw [e]
  exact fun P F m0 w0 m a w h0 h1 h2 => ⟨m, h1, h2⟩
theorem Le.keep (ts : List Nat) : Le n l0 s ⟨keepS s.sl ts, s.st, s.nx⟩ := by
  intro P F m0 w0 m a w h0 h1 h2
  exact ⟨m, ⟨h1.slots.keep ts, h1.size, h1.defers, h1.srel, h1.fresh⟩, h2⟩
/-- A row gets another number; the old one is gone. -/
theorem Le.mvRow {t id q k : Nat} {xs : List Tree} (hg : get s.sl t = .row id q) (hs : s.st id = some (.row k false xs)) (hq : q = xs.length) :
    Le n l0 s ⟨(t, .row s.nx q) :: s.sl, upd (upd s.st id .gone) s.nx (.row k false xs), s.nx + 1⟩ := by
  intro P F m0 w0 m a w h0 h1 h2
  have hn : s.st s.nx = none := h1.fresh s.nx (Nat.le_refl _)
  obtain ⟨k1, k2⟩ := shrink_obj h1.srel hs hn (Nat.le_refl xs.length)
  rw [List.take_length] at k1 k2
  refine ⟨_, ⟨fun t' => ?_, h1.size, h1.defers, k1, fun id' hid' => ?_⟩, h2.trans h0 k2⟩
  · simp only [get]
    by_cases e : t = t'
    · subst e
      have hv := h1.slots t
      rw [hg] at hv
      simp only [Nat.beq_refl, cond_true]
      generalize a.tmps.getD t undef = u at hv
      cases hv with
      | row _ _ k' fz' xs' L hs' hn' hu' =>
        rw [hs] at hs'; cases hs'
        have := hu' hq
        exact .row s.nx q k false xs L (upd_same _ _ _) (by omega) (fun _ => by rw [place_same]; exact this)
      | rowG _ _ L hs' => rw [hs] at hs'; cases hs'
    · rw [beq_ne e, cond_false]
      exact k2.val (h1.slots t')
  · show upd (upd s.st id .gone) s.nx _ id' = none
    simp only at hid'
    have hne : id' ≠ id := fun e => by subst e; rw [h1.fresh id' (by omega)] at hs; cases hs
    rw [upd_ne (by omega), upd_ne hne]
    exact h1.fresh id' (by omega)
theorem leR_sound {x : LeI} {s' : St} {C : List Prop} (h : leR s x = some (s', C)) (hC : All C) : Le n l0 s s' := by
  cases x with
  | nR t k =>
    simp only [leR] at h
    split at h
    · rename_i hg
      obtain ⟨hk, h⟩ := bif_some h
      cases h
      exact Le.nilRow hg (by simp) hk
    · cases h
  | nL t k =>
    simp only [leR] at h
    split at h
    · rename_i hg
      obtain ⟨hk, h⟩ := bif_some h
      cases h
      exact Le.nilLst hg hk
    · cases h
  | nB b i k =>
    simp only [leR] at h
    split at h
    · rename_i cs hb
      split at h
      · rename_i hg
        obtain ⟨hk, h⟩ := bif_some h
        cases h
        exact Le.nilBox hb hg (by simp) hk
      · cases h
    · cases h
  | fz id =>
    simp only [leR] at h
    split at h
    · rename_i hb; cases h; exact Le.fz hb
    · cases h
  | fr t p hp =>
    simp only [leR] at h
    split at h
    · rename_i v' g p hs
      obtain ⟨hk, h⟩ := bif_some h
      cases h
      exact Le.freeze rfl hs hC hk
    · cases h
  | fR t p hp =>
    simp only [leR] at h
    split at h
    · rename_i v' g p hs
      obtain ⟨hk, h⟩ := bif_some h
      cases h
      exact Le.freezeR rfl hs hC hk
    · cases h
  | eq t d v hw =>
    simp only [leR] at h
    cases h
    exact Le.slot rfl hC.1
  | er id xs ys he =>
    simp only [leR] at h
    split at h
    · rename_i hb; cases h; exact Le.row hb hC.1
    · cases h
  | kp ts =>
    simp only [leR] at h
    cases h
    exact Le.keep ts
  | mc id xs' p hp =>
    simp only [leR] at h
    split at h
    · rename_i hid
      split at h
      · rename_i hr
        cases h
        exact Le.matClose hid hr hC.1 hC.2.1
      · cases h
    · cases h
  | mf t =>
    simp only [leR] at h
    split at h
    · rename_i hg
      split at h
      · rename_i hid; cases h; exact Le.matFreeze hg hid
      · cases h
    · cases h
  | mv t i j he =>
    simp only [leR] at h
    split at h
    · rename_i hg
      split at h
      · rename_i hid; cases h; exact Le.mvRow hg hid hC.1
      · cases h
    · cases h
  | eb b i v v' he =>
    simp only [leR] at h
    split at h
    · rename_i cs hb
      split at h
      · rename_i v0 hi; cases h; exact Le.boxE hb hi hC.1
      · cases h
    · cases h

theorem get_keepS_all : ∀ (ks : List Nat) (sl : List (Nat × AVal)) (t : Nat), t ∈ ks → get (keepS sl ks) t = get sl t
  | k :: ks, sl, t, h => by
    simp only [keepS, get]
    by_cases e : k = t
    · subst e; simp
    · rw [beq_ne e]
      rcases List.mem_cons.1 h with h | h
      · exact absurd h.symm e
      · exact get_keepS_all ks sl t h
theorem get_not : ∀ (sl : List (Nat × AVal)) (t : Nat), t ∉ sl.map (·.1) → get sl t = .junk
  | [], t, h => rfl
  | (k, v) :: sl, t, h => by
    simp only [List.map_cons, List.mem_cons, not_or] at h
    simp only [get]
    rw [beq_ne (Ne.symm h.1)]
    exact get_not sl t h.2
theorem get_keepS_keys (sl : List (Nat × AVal)) (t : Nat) : get (keepS sl (sl.map (·.1))) t = get sl t := by
  by_cases h : t ∈ sl.map (·.1)
  · exact get_keepS_all _ _ _ h
  · rcases keepS_get (sl.map (·.1)) sl t with e | e
    · exact e
    · rw [e, get_not sl t h]
theorem Rel.slots_eq {sl sl' : List (Nat × AVal)} {st : Store} {nx : Nat} {a : Act} (h : Rel F n ⟨sl, st, nx⟩ m a w) (e : ∀ t, get sl' t = get sl t) : Rel F n ⟨sl', st, nx⟩ m a w :=
  ⟨fun t => by rw [e]; exact h.slots t, h.size, h.defers, h.srel, h.fresh⟩
theorem runA_sim (hm : P.follows .mixedOrders = true) {id : Nat} {ops : Array Oper} {draw : Bool} {orcs : List (Nat × Orc)} {s' : St} {C : List Prop} (h : runA P n ops.toList draw orcs s = some (s', C)) (hC : All C) (hq : Q .normal s') :
    Sim P n l0 (.region id ops draw) s Q := by
  unfold runA at h
  split at h
  rotate_left
  · cases h
  rename_i s2 rs hrun
  obtain ⟨h1, h2⟩ := bif_some h
  cases h2
  have hR : runR P n ops.toList draw orcs (s2.sl.map (·.1)) s = some (⟨keepS s2.sl (s2.sl.map (·.1)), s2.st, s.nx + 8 * ops.toList.length⟩, allC rs) := by
    unfold runR
    rw [hrun]
    simp only [h1, cond_true]
  intro F m0 w0 m a w h0 r1 r2
  cases draw with
  | false =>
    have := runR_text hR hC r1 (Q := fun e a' w' => ∃ s' m', Rel F n s' m' a' w' ∧ FrameExt F (app emp l0) m0 w0 s'.st m' w' ∧ Q e s') (fun m' a' w' q1 q2 => ⟨⟨s2.sl, s2.st, s.nx + 8 * ops.toList.length⟩, m', q1.slots_eq (fun t => (get_keepS_keys _ t).symm), r2.trans h0 q2, hq⟩) id
    simpa using this
  | true =>
    have := runR_draw hm hR hC r1 (Q := fun e a' w' => ∃ s' m', Rel F n s' m' a' w' ∧ FrameExt F (app emp l0) m0 w0 s'.st m' w' ∧ Q e s') (fun m' a' w' q1 q2 => ⟨⟨s2.sl, s2.st, s.nx + 8 * ops.toList.length⟩, m', q1.slots_eq (fun t => (get_keepS_keys _ t).symm), r2.trans h0 q2, hq⟩) id
    simpa using this

theorem All_app {a b : List Prop} : All (a ++ b) ↔ All a ∧ All b := All_append

theorem outS_fin {e : Exit} {K : List Fr} (h : outS e K = .fin) : K = [] := by
  cases K with
  | nil => rfl
  | cons f K =>
    cases f with
    | seq c => cases e <;> simp [outS] at h
    | blk i =>
      cases e with
      | exit j => simp only [outS] at h; cases hj : Nat.beq j i <;> rw [hj] at h <;> simp at h
      | _ => simp [outS] at h
    | loop c => cases e <;> simp [outS] at h
theorem outS_back {e : Exit} {K K' : List Fr} {c : Code} (h : outS e K = .back c K') (hA : LoopSim P n l0 c s (wrapK P n l0 K' Q)) : wrapK P n l0 K Q e s := by
  cases K with
  | nil => simp [outS] at h
  | cons f K =>
    cases f with
    | seq c => cases e <;> simp [outS] at h
    | blk i =>
      cases e with
      | exit j => simp only [outS] at h; cases hj : Nat.beq j i <;> rw [hj] at h <;> simp at h
      | _ => simp [outS] at h
    | loop c =>
      cases e with
      | normal => simp only [outS] at h; cases h; exact hA
      | _ => simp [outS] at h
theorem outS_go {e : Exit} {K K' : List Fr} {ctl : Ctl} (h : outS e K = .go ctl K') (hA : CtlG P n l0 Q ctl K' s) : wrapK P n l0 K Q e s := by
  cases K with
  | nil => simp [outS] at h
  | cons f K =>
    cases f with
    | seq c => cases e <;> (simp only [outS] at h; cases h; exact hA)
    | blk i =>
      cases e with
      | exit j =>
        simp only [outS] at h
        show inBlk i _ (.exit j) s
        simp only [inBlk]
        cases hj : Nat.beq j i with
        | true => rw [hj] at h; cases h; rw [if_pos (Nat.eq_of_beq_eq_true hj)]; exact hA
        | false => rw [hj] at h; cases h; rw [if_neg (fun e => by subst e; simp at hj)]; exact hA
      | _ => simp only [outS] at h; cases h; exact hA
    | loop c =>
      cases e with
      | normal => simp [outS] at h
      | _ => simp only [outS] at h; cases h; exact hA

theorem go_sound (hm : P.follows .mixedOrders = true) (hQ : LeClosed n l0 Q) : ∀ (fuel : Nat) (sc : List It) (ctl : Ctl) (K : List Fr) (s : St) (acc : List Prop) (a : At) (C : List Prop),
    go P n fuel sc ctl K s acc = some (a, C) → All C → AtG P n l0 Q a → All acc ∧ CtlG P n l0 Q ctl K s := by
  intro fuel
  induction fuel with
  | zero => intro sc ctl K s acc a C h; simp [go] at h
  | succ fuel ih =>
    intro sc ctl K s acc a C h hC hA
    unfold go at h
    split at h
    · cases h
    · -- a state step
      rename_i x sc' K' s' acc' hfu
      cases hfu
      split at h
      · rename_i s2 C2 hle
        obtain ⟨q1, q2⟩ := ih _ _ _ _ _ _ _ h hC hA
        rw [All_app] at q1
        exact ⟨q1.1, CtlG_le hQ (leR_sound hle q1.2) q2⟩
      · cases h
    · -- the text
      rename_i fuel2 c hfu _
      cases hfu
      split at h
      · obtain ⟨q1, q2⟩ := ih _ _ _ _ _ _ _ h hC hA; exact ⟨q1, Sim.seq q2⟩
      · obtain ⟨q1, q2⟩ := ih _ _ _ _ _ _ _ h hC hA; exact ⟨q1, Sim.skip q2⟩
      · obtain ⟨q1, q2⟩ := ih _ _ _ _ _ _ _ h hC hA; exact ⟨q1, Sim.ret q2⟩
      · obtain ⟨q1, q2⟩ := ih _ _ _ _ _ _ _ h hC hA; exact ⟨q1, Sim.exit q2⟩
      · obtain ⟨q1, q2⟩ := ih _ _ _ _ _ _ _ h hC hA; exact ⟨q1, Sim.block q2⟩
      · split at h
        · cases h; exact ⟨hC, Sim.loop hA⟩
        · obtain ⟨q1, q2⟩ := ih _ _ _ _ _ _ _ h hC hA; exact ⟨q1, Sim.loop (LoopSim.step q2)⟩
        · cases h
      · split at h
        · rename_i b hb
          split at h
          · cases h; exact ⟨hC, Sim.cond hb hA.1 hA.2⟩
          · cases b with
            | true => obtain ⟨q1, q2⟩ := ih _ _ _ _ _ _ _ h hC hA; exact ⟨q1, Sim.cond hb (fun _ => q2) (fun e => by cases e)⟩
            | false => cases h
          · cases b with
            | false => obtain ⟨q1, q2⟩ := ih _ _ _ _ _ _ _ h hC hA; exact ⟨q1, Sim.cond hb (fun e => by cases e) (fun _ => q2)⟩
            | true => cases h
          · cases h
        · rename_i hb
          split at h
          · cases h; exact ⟨hC, Sim.condAny hb hA.1 hA.2⟩
          · cases h
        · cases h
      · split at h
        · cases h; exact ⟨hC, hA⟩
        · split at h
          · rename_i s2 C2 hr
            obtain ⟨q1, q2⟩ := ih _ _ _ _ _ _ _ h hC hA
            rw [All_app] at q1
            exact ⟨q1.1, runA_sim hm hr q1.2 q2⟩
          · cases h
        · cases h
      · cases h
    · -- on the way out
      rename_i fuel2 e hfu _
      cases hfu
      split at h
      · rename_i ho
        split at h
        · cases h; exact ⟨hC, by rw [outS_fin ho]; exact hA⟩
        · cases h
      · rename_i c K' ho
        split at h
        · cases h; exact ⟨hC, outS_back ho hA⟩
        · obtain ⟨q1, q2⟩ := ih _ _ _ _ _ _ _ h hC hA; exact ⟨q1, outS_back ho (LoopSim.step q2)⟩
        · cases h
      · rename_i ctl K' ho
        obtain ⟨q1, q2⟩ := ih _ _ _ _ _ _ _ h hC hA
        exact ⟨q1, outS_go ho q2⟩
end Go.Ab
end
section
set_option linter.unusedVariables false
namespace Go.Ab
open Go
variable {P : Program} {n : Nat} {l0 : List (Nat × Ob)} {Q : Exit → St → Prop}

abbrev VI (x : Int) : AVal := .t (.sc (.int .i64 x))
abbrev VB (b : Bool) : AVal := .t (.sc (.bool b))
abbrev VS (s : ByteArray) : AVal := .t (.sc (.string s))
abbrev VN : AVal := .t (.sc (.slice none 0 0))
abbrev VL {α : Type} (k : Nat) (f : α → Tree) (l : List α) : AVal := .t (.lst k (l.map f))
abbrev TI (x : Int) : Tree := .sc (.int .i64 x)
abbrev TB (b : Bool) : Tree := .sc (.bool b)
abbrev TS (s : ByteArray) : Tree := .sc (.string s)
abbrev TN : Tree := .sc (.slice none 0 0)
abbrev TL {α : Type} (k : Nat) (f : α → Tree) (l : List α) : Tree := .lst k (l.map f)
abbrev OR {α : Type} (k : Nat) (f : α → Tree) (l : List α) : Ob := .row k false (l.map f)
abbrev OF {α : Type} (k : Nat) (f : α → Tree) (l : List α) : Ob := .row k true (l.map f)

/-! ### Rules -/
structure SimC (P : Program) (n : Nat) (l0 : List (Nat × Ob)) (Q : Exit → St → Prop) (c : Cfg) : Prop where
  run : P.follows .mixedOrders = true → LeClosed n l0 Q → CtlG P n l0 Q c.ctl c.K c.s
def runP (P : Program) (n : Nat) (sc : List It) (c : Cfg) : Option (At × List Prop) := go P n 100000 sc c.ctl c.K c.s []
theorem leC_all : ∀ (x : LeI), All (leC x)
  | .fr _ p h => h
  | .eq _ d v h => ⟨h, trivial⟩
  | .er _ xs ys h => ⟨h, trivial⟩
  | .nR _ _ => trivial
  | .nL _ _ => trivial
  | .nB _ _ _ => trivial
  | .fz _ => trivial
  | .kp _ => trivial
  | .eb _ _ _ _ h => ⟨h, trivial⟩
  | .mc _ _ _ h => h
  | .fR _ _ h => h
  | .mv _ _ _ h => ⟨h, trivial⟩
  | .mf _ => trivial
theorem apC_all : ∀ {l t : List Prop}, All l → All t → All (apC l t)
  | [], t, _, h => h
  | p :: l, t, hp, h => ⟨hp.1, apC_all hp.2 h⟩
theorem oxC_all : ∀ (l : List (Nat × Ox)) {t : List Prop}, All t → All (oxC l t)
  | [], t, h => h
  | (_, x) :: l, t, h => apC_all x.h (oxC_all l h)
theorem csL_all : ∀ (sc : List It), All (csL sc)
  | [] => trivial
  | .r xs :: l => oxC_all xs (csL_all l)
  | .le x :: l => apC_all (leC_all x) (csL_all l)
  | .t :: l => csL_all l
  | .f :: l => csL_all l
  | .u :: l => csL_all l
theorem run_sound {sc : List It} {c : Cfg} {a : At} {C : List Prop} (h : runP P n sc c = some (a, C)) (hC : All C) (hA : P.follows .mixedOrders = true → LeClosed n l0 Q → AtG P n l0 Q a) : SimC P n l0 Q c :=
  ⟨fun hm hQ => (go_sound hm hQ _ _ _ _ _ _ _ _ h hC (hA hm hQ)).2⟩

def brQ : Option (At × List Prop) → Option (Bool × List Prop)
  | some (.br b _ _ _ _, C) => some (b, C)
  | _ => none
def brX (v : Bool) : Option (At × List Prop) → Cfg
  | some (.br _ x y K s, _) => ⟨.run (bif v then x else y), K, s⟩
  | _ => default
theorem SimC.br {c : Cfg} (sc : List It) (b : Bool) (ht : b = true → SimC P n l0 Q (brX true (runP P n sc c))) (hf : b = false → SimC P n l0 Q (brX false (runP P n sc c)))
    (h : brQ (runP P n sc c) = some (b, csL sc) := by kernel_rfl) : SimC P n l0 Q c := by
  generalize hr : runP P n sc c = r at *
  match r, h with
  | some (.br b' x y K s, C), h =>
    simp only [brQ, Option.some.injEq, Prod.mk.injEq] at h
    obtain ⟨rfl, rfl⟩ := h
    exact run_sound hr (csL_all sc) (fun hm hQ => ⟨fun e => (ht e).run hm hQ, fun e => (hf e).run hm hQ⟩)

def anQ : Option (At × List Prop) → Option (List Prop)
  | some (.any _ _ _ _, C) => some C
  | _ => none
def anX (v : Bool) : Option (At × List Prop) → Cfg
  | some (.any x y K s, _) => ⟨.run (bif v then x else y), K, s⟩
  | _ => default
theorem SimC.any {c : Cfg} (sc : List It) (ht : SimC P n l0 Q (anX true (runP P n sc c))) (hf : SimC P n l0 Q (anX false (runP P n sc c)))
    (h : anQ (runP P n sc c) = some (csL sc) := by kernel_rfl) : SimC P n l0 Q c := by
  generalize hr : runP P n sc c = r at *
  match r, h with
  | some (.any x y K s, C), h =>
    simp only [anQ, Option.some.injEq] at h
    subst h
    exact run_sound hr (csL_all sc) (fun hm hQ => ⟨ht.run hm hQ, hf.run hm hQ⟩)

def mdQ : Option (At × List Prop) → Option (List Prop)
  | some (.mid _ _ _, C) => some C
  | _ => none
def mdX : Option (At × List Prop) → Cfg
  | some (.mid c K s, _) => ⟨.run c, K, s⟩
  | _ => default
theorem SimC.mid {c : Cfg} (sc : List It) (k : SimC P n l0 Q (mdX (runP P n sc c))) (h : mdQ (runP P n sc c) = some (csL sc) := by kernel_rfl) : SimC P n l0 Q c := by
  generalize hr : runP P n sc c = r at *
  match r, h with
  | some (.mid x K s, C), h =>
    simp only [mdQ, Option.some.injEq] at h
    subst h
    exact run_sound hr (csL_all sc) (fun hm hQ => k.run hm hQ)

def mkSt (p : List (Nat × AVal) × List (Nat × Ob)) (nx : Nat) : St := ⟨p.1, app emp p.2, nx⟩
def idT : List (Nat × Ob) → List (Nat × Nat)
  | [] => []
  | (i, _) :: l => (i, i) :: idT l
def keysT : List (Nat × AVal) → List Nat
  | [] => []
  | (i, _) :: l => i :: keysT l
def lpQ (l0 : List (Nat × Ob)) (nx : Nat) (p : List (Nat × AVal) × List (Nat × Ob)) : Option (At × List Prop) → Option ((List (Nat × AVal) × List (Nat × Ob)) × List Prop)
  | some (.loop _ _ s, C) => match renSt l0 (idT p.2) (keysT p.1) nx s with
    | some p => some (p, C)
    | none => none
  | _ => none
def lpC : Option (At × List Prop) → Code
  | some (.loop c _ _, _) => c
  | _ => default
def lpK : Option (At × List Prop) → List Fr
  | some (.loop _ K _, _) => K
  | _ => []
theorem SimC.loop {c : Cfg} {α : Type} (sc : List It) (nx : Nat) (S : α → List (Nat × AVal) × List (Nat × Ob)) (I : α → Prop) (μ : α → Nat) (a : α) (ha : I a)
    (round : ∀ a, I a → (∀ b, I b → μ b < μ a → LoopSim P n l0 (lpC (runP P n sc c)) (mkSt (S b) nx) (wrapK P n l0 (lpK (runP P n sc c)) Q)) →
      SimC P n l0 Q ⟨.run (lpC (runP P n sc c)), .loop (lpC (runP P n sc c)) :: lpK (runP P n sc c), mkSt (S a) nx⟩)
    (h : lpQ l0 nx (S a) (runP P n sc c) = some (S a, csL sc) := by kernel_rfl) : SimC P n l0 Q c := by
  generalize hr : runP P n sc c = r at *
  match r, h with
  | some (.loop x K s, C), h =>
    simp only [lpQ] at h
    split at h
    · rename_i p hp
      simp only [Option.some.injEq, Prod.mk.injEq] at h
      obtain ⟨rfl, rfl⟩ := h
      refine run_sound hr (csL_all sc) (fun hm hQ => ?_)
      have hle : Le n l0 s (mkSt (S a) nx) := Le.ren hp
      refine LoopSim.weaken hle ?_
      exact loop_ind (fun a => mkSt (S a) nx) I μ (fun a hI ih => LoopSim.step ((round a hI ih).run hm hQ)) a ha
    · cases h

def bkQ (l0 : List (Nat × Ob)) (τ : List (Nat × Nat)) (nx : Nat) (p : List (Nat × AVal) × List (Nat × Ob)) : Option (At × List Prop) → Option ((List (Nat × AVal) × List (Nat × Ob)) × List Prop)
  | some (.back _ _ s, C) => match renSt l0 τ (keysT p.1) nx s with
    | some p => some (p, C)
    | none => none
  | _ => none
def bkC : Option (At × List Prop) → Option (Code × List Fr)
  | some (.back c K _, _) => some (c, K)
  | _ => none
theorem SimC.back {c : Cfg} (sc : List It) (τ : List (Nat × Nat)) {p : List (Nat × AVal) × List (Nat × Ob)} {nx : Nat} {body : Code} {K : List Fr} (ih : LoopSim P n l0 body (mkSt p nx) (wrapK P n l0 K Q))
    (h : bkQ l0 τ nx p (runP P n sc c) = some (p, csL sc) := by kernel_rfl) (hc : bkC (runP P n sc c) = some (body, K) := by kernel_rfl) : SimC P n l0 Q c := by
  generalize hr : runP P n sc c = r at *
  match r, h, hc with
  | some (.back x K' s, C), h, hc =>
    simp only [bkC, Option.some.injEq, Prod.mk.injEq] at hc
    obtain ⟨rfl, rfl⟩ := hc
    simp only [bkQ] at h
    split at h
    · rename_i p' hp
      simp only [Option.some.injEq, Prod.mk.injEq] at h
      obtain ⟨rfl, rfl⟩ := h
      exact run_sound hr (csL_all sc) (fun hm hQ => LoopSim.weaken (Le.ren hp) ih)
    · cases h

abbrev FinX := FinM
theorem FinX_le {rv : List ResultVar} {res : AVal} {l1 : List (Nat × Ob)} : LeClosed n l0 (FinX P n l0 rv res l1) := fun _ _ _ h k => FinM.le h k
def resX (P : Program) (rv : List ResultVar) (sl : List (Nat × AVal)) (l : List (Nat × Ob)) : Option AVal := resM P rv sl (app emp l)
def rvKeys : List ResultVar → List Nat
  | [] => []
  | .tmp t :: l => t :: rvKeys l
  | .cell t _ :: l => t :: rvKeys l
def nxOf : List (Nat × Ob) → Nat
  | [] => 0
  | (i, _) :: l => bif Nat.blt i (nxOf l) then nxOf l else i + 1
def nxT : List (Nat × Nat) → Nat
  | [] => 0
  | (_, i) :: l => bif Nat.blt i (nxT l) then nxT l else i + 1
def isEnd : Exit → Bool
  | .ret => true
  | .normal => true
  | _ => false
def fnQ (P : Program) (l0 : List (Nat × Ob)) (τ : List (Nat × Nat)) (rv : List ResultVar) : Option (At × List Prop) → Option (AVal × List (Nat × Ob) × List Prop)
  | some (.fin e s, C) => bif isEnd e then match renSt l0 τ (rvKeys rv) (nxT τ) s with
    | some (sl, l) => match resX P rv sl l with
      | some r => some (r, l, C)
      | none => none
    | none => none
    else none
  | _ => none
theorem isEnd_or {e : Exit} (h : isEnd e = true) : e = .ret ∨ e = .normal := by cases e <;> simp [isEnd] at h ⊢
theorem SimC.finE {c : Cfg} {rv : List ResultVar} {res : AVal} {l1 : List (Nat × Ob)} {β : Type} (sc : List It) (τ : List (Nat × Nat)) (R : β → AVal × List (Nat × Ob)) (x y : β) (e : y = x)
    (h : fnQ P l0 τ rv (runP P n sc c) = some ((R x).1, (R x).2, csL sc) := by kernel_rfl) (hR : R y = (res, l1) := by kernel_rfl) : SimC P n l0 (FinX P n l0 rv res l1) c := by
  subst e
  rw [hR] at h
  generalize hr : runP P n sc c = r at *
  match r, h with
  | some (.fin e s, C), h =>
    simp only [fnQ] at h
    cases he : isEnd e with
    | false => rw [he] at h; cases h
    | true =>
      rw [he] at h
      simp only [cond_true] at h
      split at h
      · rename_i sl l hs
        split at h
        · rename_i r hres
          simp only [Option.some.injEq, Prod.mk.injEq] at h
          obtain ⟨rfl, rfl, rfl⟩ := h
          exact run_sound hr (csL_all sc) (fun hm hQ => FinM.here (isEnd_or he) (Le.ren hs) rfl hres)
        · cases h
      · cases h
theorem SimC.fin {c : Cfg} {rv : List ResultVar} {res : AVal} {l1 : List (Nat × Ob)} (sc : List It) (τ : List (Nat × Nat)) (h : fnQ P l0 τ rv (runP P n sc c) = some (res, l1, csL sc) := by kernel_rfl) : SimC P n l0 (FinX P n l0 rv res l1) c :=
  SimC.finE sc τ (fun z => z) (res, l1) (res, l1) rfl h rfl
/-- The results are taken up, frozen where the steps say so; what is left over is dropped. -/
def leS (s : St) : List LeI → Option (St × List Prop)
  | [] => some (s, [])
  | x :: l => match leR s x with
    | some (s', C) => match leS s' l with
      | some (s2, C2) => some (s2, apC C C2)
      | none => none
    | none => none
def leCs : List LeI → List Prop
  | [] => []
  | x :: l => apC (leC x) (leCs l)
theorem leCs_all : ∀ l : List LeI, All (leCs l)
  | [] => trivial
  | x :: l => apC_all (leC_all x) (leCs_all l)
theorem apC_inv : ∀ {l t : List Prop}, All (apC l t) → All l ∧ All t
  | [], _, h => ⟨trivial, h⟩
  | _ :: _, _, h => ⟨⟨h.1, (apC_inv h.2).1⟩, (apC_inv h.2).2⟩
theorem leS_sound : ∀ {l : List LeI} {s s' : St} {C : List Prop}, leS s l = some (s', C) → All C → Le n l0 s s'
  | [], s, s', C, h, _ => by
    simp only [leS, Option.some.injEq, Prod.mk.injEq] at h
    obtain ⟨rfl, rfl⟩ := h
    exact Le.refl _
  | x :: l, s, s', C, h, hC => by
    simp only [leS] at h
    split at h
    · rename_i s1 C1 h1
      split at h
      · rename_i s2 C2 h2
        simp only [Option.some.injEq, Prod.mk.injEq] at h
        obtain ⟨rfl, rfl⟩ := h
        obtain ⟨q1, q2⟩ := apC_inv hC
        exact Le.trans (leR_sound h1 q1) (leS_sound h2 q2)
      · cases h
    · cases h
def fvQ (P : Program) (l0 : List (Nat × Ob)) (les : List LeI) (τ : List (Nat × Nat)) (rv : List ResultVar) : Option (At × List Prop) → Option (AVal × List (Nat × Ob) × List Prop × List Prop)
  | some (.fin e s, C) => bif isEnd e then match resM P rv s.sl s.st with
    | some r0 => match leS ⟨[(0, r0)], s.st, s.nx⟩ les with
      | some (s2, D) => match renSt l0 τ [0] (nxT τ) s2 with
        | some (sl, l) => some (get sl 0, l, C, D)
        | none => none
      | none => none
    | none => none
    else none
  | _ => none
theorem SimC.finVE {c : Cfg} {rv : List ResultVar} {res : AVal} {l1 : List (Nat × Ob)} {β : Type} (sc : List It) (les : List LeI) (τ : List (Nat × Nat)) (R : β → AVal × List (Nat × Ob)) (x y : β) (e : y = x)
    (h : fvQ P l0 les τ rv (runP P n sc c) = some ((R x).1, (R x).2, csL sc, leCs les) := by kernel_rfl) (hR : R y = (res, l1) := by kernel_rfl) : SimC P n l0 (FinX P n l0 rv res l1) c := by
  subst e
  rw [hR] at h
  generalize hr : runP P n sc c = r at *
  match r, h with
  | some (.fin e s, C), h =>
    simp only [fvQ] at h
    cases he : isEnd e with
    | false => rw [he] at h; cases h
    | true =>
      rw [he] at h
      simp only [cond_true] at h
      split at h
      · rename_i r0 hr0
        split at h
        · rename_i s2 D hD
          split at h
          · rename_i sl l hs
            simp only [Option.some.injEq, Prod.mk.injEq] at h
            obtain ⟨rfl, rfl, rfl, rfl⟩ := h
            exact run_sound hr (csL_all sc) (fun hm hQ => ⟨isEnd_or he, s, r0, ⟨sl, app emp l, nxT τ⟩, Le.refl _, hr0, Le.trans (leS_sound hD (leCs_all les)) (Le.ren hs), rfl, rfl⟩)
          · cases h
        · cases h
      · cases h
theorem SimC.finV {c : Cfg} {rv : List ResultVar} {res : AVal} {l1 : List (Nat × Ob)} (sc : List It) (les : List LeI) (τ : List (Nat × Nat)) (h : fvQ P l0 les τ rv (runP P n sc c) = some (res, l1, csL sc, leCs les) := by kernel_rfl) : SimC P n l0 (FinX P n l0 rv res l1) c :=
  SimC.finVE sc les τ (fun z => z) (res, l1) (res, l1) rfl h rfl
theorem SimC.at {c : Cfg} (nx : Nat) (τ : List (Nat × Nat)) (p : List (Nat × AVal) × List (Nat × Ob)) (k : SimC P n l0 Q ⟨c.ctl, c.K, mkSt p nx⟩) (h : renSt l0 τ (keysT p.1) nx c.s = some p := by kernel_rfl) : SimC P n l0 Q c :=
  ⟨fun hm hQ => CtlG_le hQ (Le.ren h) (k.run hm hQ)⟩
theorem SimC.len {x : Code} {K : List Fr} {s : St} {α : Type} (t : Nat) {k : Nat} {f : α → Tree} {l : List α} (h : l.length ≤ 9223372036854775807 → SimC P n l0 Q ⟨.run x, K, s⟩) (hg : get s.sl t = VL k f l := by rfl) : SimC P n l0 Q ⟨.run x, K, s⟩ :=
  ⟨fun hm hQ => Sim.len (t := t) (k := k) (xs := l.map f) hg (fun hl => (h (by simpa using hl)).run hm hQ)⟩
def bodyOf (fn : Func) : Code := fn.body.getD default
theorem FC.go {f : FuncId} {args : List AVal} {res : AVal} {l1 : List (Nat × Ob)} (fn : Func) (h : SimC P fn.ntmps l0 (FinX P fn.ntmps l0 fn.results.toList res l1) ⟨.run (bodyOf fn), [], ⟨argSlots 0 args, app emp l0, nxOf l0⟩⟩)
    (hf : P.funcs[f]? = some fn := by kernel_rfl) (hn : ((args.length).ble fn.ntmps && fn.body.isSome) = true := by kernel_rfl) (hm : P.follows .mixedOrders = true := by kernel_rfl) : FC P f args (app emp l0) res (app emp l1) := by
  simp only [Bool.and_eq_true] at hn
  obtain ⟨c, hb⟩ := Option.isSome_iff_exists.1 hn.2
  have hc : bodyOf fn = c := by unfold bodyOf; rw [hb]; rfl
  have hx : ∀ l : List (Nat × Ob), l.all (fun x => Nat.blt x.1 (nxOf l)) = true := by
    have key : ∀ l : List (Nat × Ob), ∀ x ∈ l, x.1 < nxOf l := by
      intro l
      induction l with
      | nil => intro x h; simp at h
      | cons y l ih =>
        intro x hx
        obtain ⟨i, o⟩ := y
        simp only [nxOf]
        cases hh : Nat.blt i (nxOf l) with
        | true =>
          have := Nat.lt_of_succ_le (Nat.le_of_ble_eq_true hh)
          rcases List.mem_cons.1 hx with rfl | hx
          · exact this
          · exact ih x hx
        | false =>
          rcases List.mem_cons.1 hx with rfl | hx
          · exact Nat.lt_succ_self _
          · have h1 := ih x hx
            have h2 : ¬ (i < nxOf l) := fun h => by rw [show Nat.blt i (nxOf l) = true from Nat.ble_eq_true_of_le h] at hh; cases hh
            simp only [cond_false]
            omega
    intro l
    exact List.all_eq_true.2 fun x hx => Nat.ble_eq_true_of_le (key l x hx)
  have h := h.run hm FinX_le
  simp only [CtlG, wrapK, hc] at h
  exact FC.of_simM hf hb hn.1 (hx l0) h
end Go.Ab
end
section
set_option linter.unusedVariables false
namespace Go.Ab
open Go
variable {P : Program}

structure Px (p : Prop) where
  o : Orc
  cs : List Prop
  h : p → All cs
def gdC (e : Bool) : List Prop → List Prop
  | [] => []
  | p :: l => (e = true → p) :: gdC e l
theorem gdC_all {e : Bool} : ∀ {l : List Prop}, (e = true → All l) → All (gdC e l)
  | [], _ => trivial
  | p :: l, h => ⟨fun he => (h he).1, gdC_all fun he => (h he).2⟩
/-- As it stands; behind a guard; behind a guard, with a write. -/
def X {p : Prop} (x : Px p) (h : p := by first | with_reducible exact True.intro | omega | (and_intros <;> first | omega | with_reducible rfl | with_reducible assumption | with_reducible exact True.intro | (simp only [List.length_map]; omega) | (simp; omega) | (simp; done))) : Ox := ⟨x.o, x.cs, x.h h⟩
def Xg {p : Prop} (e : Bool) (x : Px p) (h : e = true → p := by first | (intro _; with_reducible exact True.intro) | (intro hg; (try simp [-List.getD_eq_getElem?_getD] at hg); first | omega | (and_intros <;> first | omega | with_reducible rfl | with_reducible assumption | with_reducible exact True.intro | (simp only [List.length_map]; omega) | (simp; omega) | (simp [hg]; done)))) : Ox := ⟨x.o, gdC e x.cs, gdC_all fun he => x.h (h he)⟩
def Xw {p : Prop} (e : Bool) (x : Px p) (h : e = true) (hp : p) : Ox := ⟨x.o, gdC e x.cs ++ [e = true], All_app.2 ⟨gdC_all fun _ => x.h hp, h, trivial⟩⟩
def oV (v : AVal) : Orc := ⟨some v, none, none, none, []⟩
def oE (x : Tree) : Orc := ⟨none, none, some x, none, []⟩

/-- A guarded value is read: its guard. -/
def Xq {p : Prop} (e : Bool) (x : Px p) : Px (e = true ∧ p) := ⟨x.o, (e = true) :: x.cs, fun h => ⟨h.1, x.h h.2⟩⟩
/-- Conditions alone. -/
def Xc (p : Prop) : Px p := ⟨Orc.no, [p], fun h => ⟨h, trivial⟩⟩
def X0 : Px True := ⟨Orc.no, [], fun _ => trivial⟩
def Xa {p q : Prop} (x : Px p) (y : Px q) : Px (p ∧ q) := ⟨y.o, x.cs ++ y.cs, fun h => All_app.2 ⟨x.h h.1, y.h h.2⟩⟩
/-- No overflow. -/
def Xn (a : Int) : Px (-9223372036854775808 ≤ a ∧ a ≤ 9223372036854775807) := ⟨oV (VI a), [Weak (VI (IntKind.i64.wrap a)) (VI a)], fun h => ⟨Weak.of_eq (nw h), trivial⟩⟩
def Xquo (a b : Int) : Px (0 ≤ a ∧ 0 < b ∧ a ≤ 9223372036854775807) := ⟨oV (VI (a / b)), [b ≠ 0, Weak (VI (IntKind.i64.wrap (a.tdiv b))) (VI (a / b))], fun h => ⟨by omega, Weak.of_eq (quo_nn h), trivial⟩⟩
def Xrem (a b : Int) : Px (0 ≤ a ∧ 0 < b) := ⟨oV (VI (a % b)), [b ≠ 0, Weak (VI (a.tmod b)) (VI (a % b))], fun h => ⟨by omega, Weak.of_eq (rem_nn h.1), trivial⟩⟩
def Xmax (a b : Int) : Px True := ⟨oV (VI (max a b)), [Weak (VI (if b > a then b else a)) (VI (max a b))], fun _ => ⟨Weak.of_eq max_if, trivial⟩⟩
def Xmin (a b : Int) : Px True := ⟨oV (VI (min a b)), [Weak (VI (if b < a then b else a)) (VI (min a b))], fun _ => ⟨Weak.of_eq min_if, trivial⟩⟩
/-- The length of a list. -/
def Xl {α : Type} (f : α → Tree) (l : List α) : Px True := ⟨oV (VI (l.length : Int)), [Weak (VI ((l.map f).length : Int)) (VI (l.length : Int))], fun _ => ⟨Weak.of_eq len_map, trivial⟩⟩
/-- An element of a list; its number written otherwise. -/
def Xi {α : Type} [Inhabited α] (f : α → Tree) (l : List α) (j : Int) : Px (0 ≤ j ∧ j < (l.length : Int)) :=
  ⟨oE (f (l.getD j.toNat default)), [0 ≤ j, (l.map f)[j.toNat]? = some (f (l.getD j.toNat default))], fun h => ⟨h.1, elt_map h.1 h.2, trivial⟩⟩
def Xi' {α : Type} [Inhabited α] (f : α → Tree) (l : List α) (j : Int) (k : Nat) : Px (j = (k : Int) ∧ k < l.length) :=
  ⟨oE (f (l.getD k default)), [0 ≤ j, (l.map f)[j.toNat]? = some (f (l.getD k default))], fun h => ⟨by omega, elt_map' h.1 h.2, trivial⟩⟩
/-- An owned row is read whole. -/
def Xr {α : Type} (f : α → Tree) (o : List α) : Px True := ⟨Orc.no, [o.length = (o.map f).length], fun _ => ⟨List.length_map _ |>.symm, trivial⟩⟩
/-- An element of a row: its place; what is there; what is written there. -/
def Xp {α : Type} (f : α → Tree) (o : List α) (j : Int) : Px (0 ≤ j ∧ j < (o.length : Int)) :=
  ⟨Orc.no, [o.length = (o.map f).length, 0 ≤ j, j < (o.length : Int)], fun h => ⟨List.length_map _ |>.symm, h.1, h.2, trivial⟩⟩
def Xp' {α : Type} (f : α → Tree) (id : Nat) (o : List α) (j : Int) (k : Nat) : Px (j = (k : Int) ∧ k < o.length) :=
  ⟨oV (.eptr id o.length k 0), [o.length = (o.map f).length, 0 ≤ j, j < (o.length : Int), Weak (.eptr id o.length j.toNat 0) (.eptr id o.length k 0)],
    fun h => ⟨List.length_map _ |>.symm, by omega, by omega, Weak.of_eq (eptr_eq (by omega)), trivial⟩⟩
def Xe {α : Type} [Inhabited α] (f : α → Tree) (o : List α) (i : Nat) : Px (i < o.length) :=
  ⟨oE (f (o.getD i default)), [o.length = (o.map f).length, (o.map f)[i]? = some (f (o.getD i default))], fun h => ⟨List.length_map _ |>.symm, elt_nat h, trivial⟩⟩
def Xs {α : Type} [Inhabited α] (k : Nat) (f : α → Tree) (id : Nat) (o : List α) (i : Nat) (x : α) (g : List (Nat × Ob) := []) : Px (i < o.length) :=
  ⟨⟨none, some (g ++ [(id, .row k false ((o.set i x).map f))]), some (f (o.getD i default)), none, []⟩,
    [o.length = (o.map f).length, (o.map f)[i]? = some (f (o.getD i default)), g ++ [(id, Ob.row k false ((o.set i x).map f))] = g ++ [(id, Ob.row k false ((o.map f).set i (f x)))]],
    fun h => ⟨List.length_map _ |>.symm, elt_nat h, by rw [row_set rfl], trivial⟩⟩
/-- Parts of a list. -/
def Xst {α : Type} (f : α → Tree) (k : Nat) (l : List α) (hi : Int) : Px (0 ≤ hi ∧ hi ≤ (l.length : Int)) :=
  ⟨oV (VL k f (l.take hi.toNat)), [0 ≤ hi, hi ≤ (((l.map f).length : Nat) : Int), Weak (.t (.lst k ((l.map f).take hi.toNat))) (VL k f (l.take hi.toNat))], fun h => ⟨h.1, by rw [List.length_map]; exact h.2, Weak.of_eq sl_take, trivial⟩⟩
def Xsd {α : Type} (f : α → Tree) (k : Nat) (l : List α) (lo : Int) : Px (0 ≤ lo ∧ lo ≤ (l.length : Int)) :=
  ⟨oV (VL k f (l.drop lo.toNat)), [0 ≤ lo, lo ≤ (((l.map f).length : Nat) : Int), Weak (.t (.lst k ((l.map f).drop lo.toNat))) (VL k f (l.drop lo.toNat))], fun h => ⟨h.1, by rw [List.length_map]; exact h.2, Weak.of_eq sl_drop, trivial⟩⟩
def Xsb {α : Type} (f : α → Tree) (k : Nat) (l : List α) (lo hi : Int) : Px (0 ≤ lo ∧ lo ≤ hi ∧ hi ≤ (l.length : Int)) :=
  ⟨oV (VL k f ((l.take hi.toNat).drop lo.toNat)), [0 ≤ lo, lo ≤ hi, hi ≤ (((l.map f).length : Nat) : Int), Weak (.t (.lst k (((l.map f).take hi.toNat).drop lo.toNat))) (VL k f ((l.take hi.toNat).drop lo.toNat))],
    fun h => ⟨h.1, h.2.1, by rw [List.length_map]; exact h.2.2, Weak.of_eq sl_both, trivial⟩⟩
/-- The same, of an owned row. -/
def rowC {p : Prop} {α : Type} (f : α → Tree) (o : List α) (x : Px p) : Px p := ⟨x.o, (o.length = (o.map f).length) :: x.cs, fun h => ⟨List.length_map _ |>.symm, x.h h⟩⟩
theorem lm {α : Type} {n : Nat} {f : α → Tree} {o : List α} (h : n = o.length := by first | with_reducible rfl | omega | (simp; done) | (simp; omega)) : n = (o.map f).length := by rw [List.length_map]; exact h
def rowX {p : Prop} {α : Type} (n : Nat) (f : α → Tree) (o : List α) (x : Px p) (h : n = o.length := by first | omega | (simp; done) | (simp; omega)) : Px p := ⟨x.o, (n = (o.map f).length) :: x.cs, fun hp => ⟨by rw [List.length_map]; exact h, x.h hp⟩⟩
/-- The row's number is said otherwise. -/
def Xen {α : Type} [Inhabited α] (n : Nat) (f : α → Tree) (o : List α) (i : Nat) : Px (n = o.length ∧ i < o.length) :=
  ⟨oE (f (o.getD i default)), [n = (o.map f).length, (o.map f)[i]? = some (f (o.getD i default))], fun h => ⟨by rw [List.length_map]; exact h.1, elt_nat h.2, trivial⟩⟩
def Xpn {α : Type} (n : Nat) (f : α → Tree) (o : List α) (j : Int) : Px (n = o.length ∧ 0 ≤ j ∧ j < (n : Int)) :=
  ⟨Orc.no, [n = (o.map f).length, 0 ≤ j, j < (n : Int)], fun h => ⟨by rw [List.length_map]; exact h.1, h.2.1, h.2.2, trivial⟩⟩
def Xsn {α : Type} [Inhabited α] (n k : Nat) (f : α → Tree) (id : Nat) (o : List α) (i : Nat) (x : α) (g : List (Nat × Ob) := []) : Px (n = o.length ∧ i < o.length) :=
  ⟨⟨none, some (g ++ [(id, .row k false ((o.set i x).map f))]), some (f (o.getD i default)), none, []⟩,
    [n = (o.map f).length, (o.map f)[i]? = some (f (o.getD i default)), g ++ [(id, Ob.row k false ((o.set i x).map f))] = g ++ [(id, Ob.row k false ((o.map f).set i (f x)))]],
    fun h => ⟨by rw [List.length_map]; exact h.1, elt_nat h.2, by rw [row_set rfl], trivial⟩⟩
def Xapn {α : Type} (n k : Nat) (f : α → Tree) (id : Nat) (o ys : List α) : Px (n = o.length ∧ o.length + ys.length ≤ 1099511627776) :=
  ⟨⟨some (.row id (o ++ ys).length), some [(id, .row k false ((o ++ ys).map f))], none, none, []⟩,
    [n = (o.map f).length, n + (ys.map f).length ≤ 1099511627776, Weak (.row id (n + (ys.map f).length)) (.row id (o ++ ys).length), [(id, Ob.row k false ((o ++ ys).map f))] = [(id, Ob.row k false (o.map f ++ ys.map f))]],
    fun h => ⟨by rw [List.length_map]; exact h.1, by rw [List.length_map]; omega, Weak.of_eq (by rw [h.1]; simp), row_append rfl, trivial⟩⟩
/-- A byte of a string. -/
def Xb (s : ByteArray) (j : Int) : Px (0 ≤ j ∧ j < (s.size : Int)) := ⟨Orc.no, [0 ≤ j, j < (s.size : Int)], fun h => ⟨h.1, h.2, trivial⟩⟩
/-- A cell of an array in a box, its number known. -/
def Xlit (id off z len : Nat) (j : Int) (i : Nat) : Px (j = (i : Int) ∧ i < len) :=
  ⟨oV (.ptr id (off + i * z)), [0 ≤ j, j < (len : Int), Weak (.ptr id (off + j.toNat * z)) (.ptr id (off + i * z))], fun h => ⟨by omega, by omega, Weak.of_eq (by rw [show j.toNat = i by omega]), trivial⟩⟩
/-- append to nil, to a row. -/
def Xan {α : Type} (f : α → Tree) (id : Nat) (ys : List α) : Px (ys.length ≤ 1099511627776) :=
  ⟨oV (.row id ys.length), [(ys.map f).length ≤ 1099511627776, Weak (.row id (ys.map f).length) (.row id ys.length)], fun h => ⟨by rw [List.length_map]; exact h, Weak.of_eq (by rw [List.length_map]), trivial⟩⟩
def Xap {α : Type} (k : Nat) (f : α → Tree) (id : Nat) (o ys : List α) : Px (o.length + ys.length ≤ 1099511627776) :=
  ⟨⟨some (.row id (o ++ ys).length), some [(id, .row k false ((o ++ ys).map f))], none, none, []⟩,
    [o.length = (o.map f).length, o.length + (ys.map f).length ≤ 1099511627776, Weak (.row id (o.length + (ys.map f).length)) (.row id (o ++ ys).length), [(id, Ob.row k false ((o ++ ys).map f))] = [(id, Ob.row k false (o.map f ++ ys.map f))]],
    fun h => ⟨List.length_map _ |>.symm, by rw [List.length_map]; exact h, Weak.of_eq (by simp), row_append rfl, trivial⟩⟩
/-- make -/
def Xmk {α : Type} (k : Nat) (f : α → Tree) (id : Nat) (n m : Int) (z : α) : Px (0 ≤ n ∧ n ≤ m ∧ m ≤ 1099511627776) :=
  ⟨⟨none, some [(id, .row k false ((List.replicate n.toNat z).map f))], none, none, []⟩, [0 ≤ n, n ≤ m, m ≤ 1099511627776, [(id, Ob.row k false ((List.replicate n.toNat z).map f))] = [(id, Ob.row k false (List.replicate n.toNat (f z)))]],
    fun h => ⟨h.1, h.2.1, h.2.2, by rw [List.map_replicate], trivial⟩⟩
def Xmz {α : Type} (k : Nat) (f : α → Tree) (id : Nat) (n m : Int) (z : α) (zs : List Tree) (hz : TWs zs (f z).cells) : Px (0 ≤ n ∧ n ≤ m ∧ m ≤ 1099511627776) :=
  ⟨⟨none, some [(id, .row k false ((List.replicate n.toNat z).map f))], some (f z), none, []⟩, [0 ≤ n, n ≤ m, m ≤ 1099511627776, TWs zs (f z).cells, [(id, Ob.row k false ((List.replicate n.toNat z).map f))] = [(id, Ob.row k false (List.replicate n.toNat (f z)))]],
    fun h => ⟨h.1, h.2.1, h.2.2, hz, by rw [List.map_replicate], trivial⟩⟩
/-- Nil cells of a struct. -/
def Xf (l : List (Nat × Nat)) : Px True := ⟨⟨none, none, none, none, l⟩, [], fun _ => trivial⟩
def Xw' (d v : AVal) : Px (Weak d v) := ⟨oV v, [Weak d v], fun h => ⟨h, trivial⟩⟩
/-- Whatever an operation asks, given whole. -/
def Xx (o : Orc) (cs : List Prop) : Px (All cs) := ⟨o, cs, id⟩

/-! ### Rows that end earlier, tails, strings gone through -/
def Xtl {α : Type} (f : α → Tree) (n : Nat) (o : List α) (l : Int) : Px (n = o.length ∧ 0 ≤ l ∧ l ≤ (n : Int)) :=
  ⟨⟨none, none, none, none, [(0, 0)]⟩, [n = (o.map f).length, 0 ≤ l, l ≤ (n : Int)], fun h => ⟨by rw [List.length_map]; exact h.1, h.2.1, h.2.2, trivial⟩⟩
def Xclr {α : Type} (f : α → Tree) (n i : Nat) (o : List α) : Px (n = o.length ∧ i ≤ n) := ⟨Orc.no, [n = (o.map f).length, i ≤ n], fun h => ⟨by rw [List.length_map]; exact h.1, h.2, trivial⟩⟩
/-- A row that ends earlier; one whose rest was cleared. -/
def Xcut {α : Type} (f : α → Tree) (k id nid n : Nat) (o : List α) (h : Int) : Px (n = o.length ∧ 0 ≤ h ∧ h ≤ (n : Int)) :=
  ⟨⟨some (.row nid (o.take h.toNat).length), some [(id, .gone), (nid, .row k false ((o.take h.toNat).map f))], none, none, [(0, 0)]⟩,
    [n = (o.map f).length, 0 ≤ h, h ≤ (n : Int), Weak (.row nid h.toNat) (.row nid (o.take h.toNat).length), [(id, Ob.gone), (nid, .row k false ((o.take h.toNat).map f))] = [(id, Ob.gone), (nid, .row k false ((o.map f).take h.toNat))]],
    fun p => ⟨by rw [List.length_map]; exact p.1, p.2.1, p.2.2, Weak.of_eq (by rw [List.length_take]; congr 1; omega), by rw [List.map_take], trivial⟩⟩
theorem cut_eq {α : Type} {f : α → Tree} {n i : Nat} {o : List α} {X : Tree} {h : Int} (e1 : h.toNat = i) (e2 : i ≤ o.length) : ((o.map f).take i ++ List.replicate (n - i) X).take h.toNat = (o.take i).map f := by
  rw [e1, List.take_append_of_le_length (by simp; omega), List.take_take, Nat.min_self, List.map_take]
def Xcut' {α : Type} (f : α → Tree) (k id nid n i : Nat) (o : List α) (X : Tree) (h : Int) : Px (n = o.length ∧ 0 ≤ h ∧ h ≤ (n : Int) ∧ h.toNat = i ∧ i ≤ n) :=
  ⟨⟨some (.row nid (o.take i).length), some [(id, .gone), (nid, .row k false ((o.take i).map f))], none, none, [(0, 0)]⟩,
    [n = ((o.map f).take i ++ List.replicate (n - i) X).length, 0 ≤ h, h ≤ (n : Int), Weak (.row nid h.toNat) (.row nid (o.take i).length), [(id, Ob.gone), (nid, .row k false ((o.take i).map f))] = [(id, Ob.gone), (nid, .row k false (((o.map f).take i ++ List.replicate (n - i) X).take h.toNat))]],
    fun p => ⟨by simp; omega, p.2.1, p.2.2.1, Weak.of_eq (by rw [List.length_take]; congr 1; omega), by rw [cut_eq p.2.2.2.1 (by omega)], trivial⟩⟩
def Xnn {α : Type} (f : α → Tree) (l : List α) : Px (l ≠ []) := ⟨⟨none, none, none, none, [(0, 0)]⟩, [(l.map f).length ≠ 0], fun h => ⟨fun e => h (List.length_eq_zero_iff.1 (by rwa [List.length_map] at e)), trivial⟩⟩
def Xnx (s : ByteArray) (p : Nat) : Px (p < s.size) := ⟨Orc.no, [p < s.size], fun h => ⟨h, trivial⟩⟩
def Xov (s : ByteArray) (p : Nat) : Px (s.size ≤ p) := ⟨⟨none, none, none, none, [(0, 0)]⟩, [s.size ≤ p], fun h => ⟨h, trivial⟩⟩

/-- Under a guard, guarded values are read (k of them, by the same guard). -/
def rpC (e : Bool) : Nat → List Prop → List Prop
  | 0, l => l
  | k + 1, l => (e = true) :: rpC e k l
theorem rpC_all {e : Bool} (he : e = true) {l : List Prop} (h : All l) : ∀ k, All (rpC e k l)
  | 0 => h
  | k + 1 => ⟨he, rpC_all he h k⟩
def Xv {p : Prop} (k : Nat) (e : Bool) (x : Px p) (h : e = true → p := by first | (intro _; with_reducible exact True.intro) | (intro hg; (try simp [-List.getD_eq_getElem?_getD] at hg); first | omega | (and_intros <;> first | omega | with_reducible rfl | with_reducible assumption | with_reducible exact True.intro | (simp only [List.length_map]; omega) | (simp; omega) | (simp [hg]; done)))) : Ox :=
  ⟨x.o, gdC e (rpC e k x.cs), gdC_all fun he => rpC_all he (x.h (h he)) k⟩
/-- pick: 'and', 'or'. -/
def Xk (g : Bool) : Px True := ⟨Orc.no, [g = true → g = true], fun _ => ⟨id, trivial⟩⟩
def Xk' (g : Bool) : Px True := ⟨Orc.no, [g = false → (!g) = true], fun _ => ⟨fun h => by simp [h], trivial⟩⟩

def Xka (e g : Bool) : Ox := ⟨Orc.no, [e = true → e = true, e = true → g = true → (e && g) = true], ⟨id, fun h k => by rw [h, k]; rfl, trivial⟩⟩
def Xko (e g : Bool) : Ox := ⟨Orc.no, [e = true → e = true, e = true → g = false → (e && !g) = true], ⟨id, fun h k => by rw [h, k]; rfl, trivial⟩⟩
/-! ### A slice of slices -/
theorem mat_at {α : Type} [Inhabited α] {f : α → Tree} {l : List α} {k : Nat} (h : k < l.length) : (matC (l.map f) none)[k]? = some (.t (f (l.getD k default))) := by
  simp [matC, List.getD, List.getElem?_eq_getElem h]
theorem mat_at' {α : Type} [Inhabited α] {f : α → Tree} {l : List α} {k i r n : Nat} (h : k < l.length) (hk : k ≠ i) : (matC (l.map f) (some (i, r, n)))[k]? = some (.t (f (l.getD k default))) := by
  simp only [matC, List.getElem?_set]
  rw [if_neg (fun e => hk e.symm)]
  simp [List.getD, List.getElem?_eq_getElem h]
def Xmm {α : Type} (f : α → Tree) (id : Nat) (n m : Int) (z : α) (zs : List Tree) (hz : TWs zs (f z).cells) : Px (0 ≤ n ∧ n = m ∧ m ≤ 1099511627776) :=
  ⟨⟨none, some [(id, .mat false ((List.replicate n.toNat z).map f) none)], some (f z), none, [(0, 0)]⟩, [0 ≤ n, n = m, m ≤ 1099511627776, TWs zs (f z).cells, [(id, Ob.mat false ((List.replicate n.toNat z).map f) none)] = [(id, Ob.mat false (List.replicate n.toNat (f z)) none)]],
    fun h => ⟨h.1, h.2.1, h.2.2, hz, by rw [List.map_replicate], trivial⟩⟩
def Xmi {α : Type} (f : α → Tree) (l : List α) (j : Int) : Px (0 ≤ j ∧ j < (l.length : Int)) := ⟨Orc.no, [0 ≤ j, j < ((l.map f).length : Int)], fun h => ⟨h.1, by rw [List.length_map]; exact h.2, trivial⟩⟩
def Xmi' {α : Type} (f : α → Tree) (id : Nat) (l : List α) (j : Int) (k : Nat) : Px (j = (k : Int) ∧ k < l.length) := ⟨oV (.mptr id k), [0 ≤ j, j < ((l.map f).length : Int), Weak (.mptr id j.toNat) (.mptr id k)], fun h => ⟨by omega, by rw [List.length_map]; omega, Weak.of_eq (by rw [show j.toNat = k by omega]), trivial⟩⟩
def Xml {α : Type} [Inhabited α] (f : α → Tree) (l : List α) (k : Nat) : Px (k < l.length) := ⟨⟨none, none, some (f (l.getD k default)), none, []⟩, [(matC (l.map f) none)[k]? = some (.t (f (l.getD k default)))], fun h => ⟨mat_at h, trivial⟩⟩
def Xml' {α : Type} [Inhabited α] (f : α → Tree) (l : List α) (k i r n : Nat) : Px (k < l.length ∧ k ≠ i) := ⟨⟨none, none, some (f (l.getD k default)), none, []⟩, [(matC (l.map f) (some (i, r, n)))[k]? = some (.t (f (l.getD k default)))], fun h => ⟨mat_at' h.1 h.2, trivial⟩⟩
def Xmh {α : Type} (f : α → Tree) (l : List α) (k i : Nat) : Px (k = i ∧ i < l.length) := ⟨Orc.no, [k = i, i < (l.map f).length], fun h => ⟨h.1, by rw [List.length_map]; exact h.2, trivial⟩⟩
def Xms {α : Type} (f : α → Tree) (l : List α) (k : Nat) : Px (k < l.length) := ⟨Orc.no, [k < (l.map f).length], fun h => ⟨by rw [List.length_map]; exact h, trivial⟩⟩
/-! ### Calls -/
theorem FC.nil {f : FuncId} {args : List AVal} {res : AVal} {st st' : Store} (i k : Nat) (h : FC P f args st res st') (hi : args[i]? = some (.t (.lst k [])) := by kernel_rfl) (hk : Nat.blt 0 k = true := by kernel_rfl) : FC P f (args.set i VN) st res st' := by
  intro F m w us hS hl hv
  refine h F m w us hS (by simpa using hl) (fun j v u hj hu => ?_)
  by_cases e : i = j
  · subst e
    rw [hi] at hj
    cases hj
    have hlt := (List.getElem?_eq_some_iff.1 hi).1
    have := hv i VN u (by simp [hlt]) hu
    exact nil_lst (Nat.lt_of_succ_le (Nat.le_of_ble_eq_true hk)) _ _ _ _ _ this
  · exact hv j v u (by rw [List.getElem?_set_ne e]; exact hj) hu
/-- A callee that makes nothing; what its arguments ask ahead. -/
def Xc0 {p : Prop} {f : FuncId} {args : List AVal} {res : AVal} (h : FC P f args emp res emp) (x : Px p) (hc : callable P f = true := by kernel_rfl) : Px p :=
  ⟨⟨none, none, none, some ⟨0, [], res, []⟩, []⟩, (callable P f = true) :: (x.cs ++ [FC P f args emp res emp]), fun hp => ⟨hc, All_app.2 ⟨x.h hp, h, trivial⟩⟩⟩
/-- Behind a guard that the callee's contract leans on. -/
def Xc0g {p : Prop} {e : Bool} {f : FuncId} {args : List AVal} {res : AVal} (h : e = true → FC P f args emp res emp) (x : Px p) (hc : callable P f = true := by kernel_rfl) : Px (e = true ∧ p) :=
  ⟨⟨none, none, none, some ⟨0, [], res, []⟩, []⟩, (callable P f = true) :: (x.cs ++ [FC P f args emp res emp]), fun hp => ⟨hc, All_app.2 ⟨x.h hp.2, h hp.1, trivial⟩⟩⟩
def freshT : Nat → List (Nat × Ob) → List (Nat × Nat) → List (Nat × Nat)
  | _, [], _ => []
  | nid, (i, _) :: l, τ => match lk τ i with
    | some _ => freshT nid l τ
    | none => (i, nid) :: freshT (nid + 1) l τ
def orL {α : Type} (o : Option (List α)) : List α := o.getD []
def orV (o : Option AVal) : AVal := o.getD .junk
def ck1 (τ : List (Nat × Nat)) (res : AVal) (l1 : List (Nat × Ob)) : Bool := nodupB (τ.map (·.1)) && nodupB (τ.map (·.2)) && (renStore τ (app emp l1) τ).isSome && (renV τ res).isSome
theorem renL_nil_inv {args : List AVal} (h : renL [] args = some args) : renL (inv []) args = some args := h
theorem FC.fresh {f : FuncId} {args : List AVal} {res : AVal} {l1 : List (Nat × Ob)} (τ : List (Nat × Nat)) (h : FC P f args emp res (app emp l1)) (ha : renL [] args = some args) (hk : ck1 τ res l1 = true) :
    FC P f args emp (orV (renV τ res)) (app emp (orL (renStore τ (app emp l1) τ))) := by
  simp only [ck1, Bool.and_eq_true] at hk
  obtain ⟨⟨⟨k1, k2⟩, k3⟩, k4⟩ := hk
  obtain ⟨l', e3⟩ := Option.isSome_iff_exists.1 k3
  obtain ⟨r', e4⟩ := Option.isSome_iff_exists.1 k4
  refine FC.ren (l0 := []) (l0' := []) h [] τ (by simp [nodupB, k1, k2]) rfl (renL_nil_inv ha) rfl ?_ ?_
  · rw [e3]; rfl
  · rw [e4]; rfl
/-- A callee that makes objects of its own. -/
def Xc1 {p : Prop} {f : FuncId} {args : List AVal} {res : AVal} {l1 : List (Nat × Ob)} (nid : Nat) (h : FC P f args emp res (app emp l1)) (x : Px p) (ha : renL [] args = some args := by kernel_rfl)
    (hk : ck1 (freshT nid l1 []) res l1 = true := by kernel_rfl) (hc : callable P f = true := by kernel_rfl) : Px p :=
  ⟨⟨none, none, none, some ⟨1, [], orV (renV (freshT nid l1 []) res), orL (renStore (freshT nid l1 []) (app emp l1) (freshT nid l1 []))⟩, []⟩,
    (callable P f = true) :: (x.cs ++ [FC P f args emp (orV (renV (freshT nid l1 []) res)) (app emp (orL (renStore (freshT nid l1 []) (app emp l1) (freshT nid l1 []))))]),
    fun hp => ⟨hc, All_app.2 ⟨x.h hp, FC.fresh _ h ha hk, trivial⟩⟩⟩
def sndL : List (Nat × Nat) → List Nat
  | [] => []
  | (_, j) :: l => j :: sndL l
def ck3 (τ0 τ : List (Nat × Nat)) (args : List AVal) (l0 : List (Nat × Ob)) (res : AVal) (l1 : List (Nat × Ob)) : Bool :=
  (nodupB (τ0.map (·.1)) && nodupB (τ0.map (·.2)) && nodupB (τ.map (·.1)) && nodupB (τ.map (·.2)) && τ0.all (fun p => match lk τ p.1 with | some j => Nat.beq j p.2 | none => false)) &&
    (orL (renStore τ0 (app emp l0) τ0)).all (fun x => hasId (τ0.map (·.2)) x.1) && (renStore τ (app emp l1) τ).isSome && (renV τ res).isSome &&
    (orL (renStore τ0 (app emp l0) τ0)).all (fun x => hasId ((orL (renStore τ (app emp l1) τ)).map (·.1)) x.1)
theorem app_over {a b : List (Nat × Ob)} (h : ∀ x ∈ a, x.1 ∈ b.map (·.1)) : app (app emp a) b = app emp b := by
  funext i
  by_cases hi : i ∈ b.map (·.1)
  · exact app_at (.inl hi)
  · rw [app_not hi, app_not hi]
    refine app_not (fun hm => ?_)
    obtain ⟨x, hx, rfl⟩ := List.mem_map.1 hm
    exact hi (h x hx)
theorem FC.obj {f : FuncId} {args : List AVal} {res : AVal} {l0 l1 : List (Nat × Ob)} (τ0 τ : List (Nat × Nat)) (h : FC P f args (app emp l0) res (app emp l1)) (hk : ck3 τ0 τ args l0 res l1 = true)
    (h0 : renStore (inv τ0) (app emp (orL (renStore τ0 (app emp l0) τ0))) (inv τ0) = some l0) (ha : renL (inv τ0) (orL (renL τ0 args)) = some args) :
    FC P f (orL (renL τ0 args)) (app emp (orL (renStore τ0 (app emp l0) τ0))) (orV (renV τ res)) (app (app emp (orL (renStore τ0 (app emp l0) τ0))) (orL (renStore τ (app emp l1) τ))) := by
  simp only [ck3, Bool.and_eq_true] at hk
  obtain ⟨⟨⟨⟨k1, k2⟩, k3⟩, k4⟩, k5⟩ := hk
  obtain ⟨l', e3⟩ := Option.isSome_iff_exists.1 k3
  obtain ⟨r', e4⟩ := Option.isSome_iff_exists.1 k4
  rw [app_over (fun x hx => hasId_iff.1 (List.all_eq_true.1 k5 x hx))]
  refine FC.ren h τ0 τ (by simp only [Bool.and_eq_true]; exact k1) h0 ha k2 ?_ ?_
  · rw [e3]; rfl
  · rw [e4]; rfl
/-- A callee that is handed objects. -/
def Xc3 {p : Prop} {f : FuncId} {args : List AVal} {res : AVal} {l0 l1 : List (Nat × Ob)} (nid : Nat) (τ0 : List (Nat × Nat)) (h : FC P f args (app emp l0) res (app emp l1)) (x : Px p)
    (hk : ck3 τ0 (τ0 ++ freshT nid l1 τ0) args l0 res l1 = true := by kernel_rfl)
    (h0 : renStore (inv τ0) (app emp (orL (renStore τ0 (app emp l0) τ0))) (inv τ0) = some l0 := by kernel_rfl) (ha : renL (inv τ0) (orL (renL τ0 args)) = some args := by kernel_rfl) (hc : callable P f = true := by kernel_rfl) : Px p :=
  ⟨⟨none, none, none, some ⟨3, sndL τ0, orV (renV (τ0 ++ freshT nid l1 τ0) res), orL (renStore (τ0 ++ freshT nid l1 τ0) (app emp l1) (τ0 ++ freshT nid l1 τ0))⟩, []⟩,
    [callable P f = true, FC P f (orL (renL τ0 args)) (app emp (orL (renStore τ0 (app emp l0) τ0))) (orV (renV (τ0 ++ freshT nid l1 τ0) res)) (app (app emp (orL (renStore τ0 (app emp l0) τ0))) (orL (renStore (τ0 ++ freshT nid l1 τ0) (app emp l1) (τ0 ++ freshT nid l1 τ0))))],
    fun hp => ⟨hc, FC.obj _ _ h hk h0 ha, trivial⟩⟩
/-- One that only reads them. -/
theorem FC.objr {f : FuncId} {args : List AVal} {res : AVal} {l0 : List (Nat × Ob)} (τ0 : List (Nat × Nat)) (h : FC P f args (app emp l0) res (app emp l0)) (hk : ck3 τ0 τ0 args l0 res l0 = true)
    (h0 : renStore (inv τ0) (app emp (orL (renStore τ0 (app emp l0) τ0))) (inv τ0) = some l0) (ha : renL (inv τ0) (orL (renL τ0 args)) = some args) :
    FC P f (orL (renL τ0 args)) (app emp (orL (renStore τ0 (app emp l0) τ0))) (orV (renV τ0 res)) (app (app emp (orL (renStore τ0 (app emp l0) τ0))) []) := by
  have := FC.obj τ0 τ0 h hk h0 ha
  simp only [ck3, Bool.and_eq_true] at hk
  rw [app_over (fun x hx => hasId_iff.1 (List.all_eq_true.1 hk.2 x hx))] at this
  exact this
def Xc4 {p : Prop} {f : FuncId} {args : List AVal} {res : AVal} {l0 : List (Nat × Ob)} (τ0 : List (Nat × Nat)) (h : FC P f args (app emp l0) res (app emp l0)) (x : Px p)
    (hk : ck3 τ0 τ0 args l0 res l0 = true := by kernel_rfl)
    (h0 : renStore (inv τ0) (app emp (orL (renStore τ0 (app emp l0) τ0))) (inv τ0) = some l0 := by kernel_rfl) (ha : renL (inv τ0) (orL (renL τ0 args)) = some args := by kernel_rfl) (hc : callable P f = true := by kernel_rfl) : Px p :=
  ⟨⟨none, none, none, some ⟨3, sndL τ0, orV (renV τ0 res), []⟩, []⟩,
    [callable P f = true, FC P f (orL (renL τ0 args)) (app emp (orL (renStore τ0 (app emp l0) τ0))) (orV (renV τ0 res)) (app (app emp (orL (renStore τ0 (app emp l0) τ0))) [])],
    fun hp => ⟨hc, FC.objr _ h hk h0 ha, trivial⟩⟩
theorem pr {α β : Type} {a b : α} {c d : β} (h : a = b) (k : c = d) : (a, c) = (b, d) := by rw [h, k]
/-- Numbers of other widths. -/
theorem wrap_u8 {z : Int} (h : 0 ≤ z ∧ z ≤ 255) : IntKind.u8.wrap z = z := by unfold IntKind.wrap; simp [IntKind.bits, IntKind.signed]; omega
def Xcv (k : IntKind) (z : Int) : Px (k.wrap z = z) := ⟨oV (.t (.sc (.int k z))), [Weak (.t (.sc (.int k (k.wrap z)))) (.t (.sc (.int k z)))], fun h => ⟨Weak.of_eq (by rw [h]), trivial⟩⟩
/-- Bytes as a string. -/
def byteT (z : Int) : Tree := .sc (.int .u8 z)
def intsB (s : ByteArray) : List Int := s.data.toList.map fun b => (b.toNat : Int)
def Xstr (n : Nat) (l : List Int) (s : ByteArray) : Px (n = l.length ∧ l = intsB s) :=
  ⟨oE (.sc (.string s)), [n = (l.map byteT).length, l.map byteT = bytesT s], fun h => ⟨by rw [List.length_map]; exact h.1, by rw [h.2]; unfold intsB bytesT; rw [List.map_map]; rfl, trivial⟩⟩
/-- Bits and shifts, as arithmetic. -/
def Xbit (k : IntKind) (y z : Int) : Px (y = z) := ⟨oV (.t (.sc (.int k z))), [Weak (.t (.sc (.int k y))) (.t (.sc (.int k z)))], fun h => ⟨Weak.of_eq (by rw [h]), trivial⟩⟩
def Xsh (k : IntKind) (b y z : Int) : Px (0 ≤ b ∧ y = z) := ⟨oV (.t (.sc (.int k z))), [0 ≤ b, Weak (.t (.sc (.int k y))) (.t (.sc (.int k z)))], fun h => ⟨h.1, Weak.of_eq (by rw [h.2]), trivial⟩⟩
end Go.Ab
end
section
set_option linter.unusedVariables false
set_option linter.unusedSimpArgs false
namespace Go.Ch
open Go Go.Ab

structure Attr where
  name : ByteArray
  val : ByteArray
abbrev mt : ByteArray := { data := #[] }
instance : Inhabited Attr := ⟨⟨mt, mt⟩⟩
def attrT (a : Attr) : Tree := .agg [.sc (.string a.name), .sc (.string a.val)]

/-! ### The order of strings -/
theorem byt_ext {a b : ByteArray} (h : a.toList = b.toList) : a = b := by
  rw [ByteArray.toList_eq, ByteArray.toList_eq] at h
  obtain ⟨⟨x⟩⟩ := a
  obtain ⟨⟨y⟩⟩ := b
  simpa using h
theorem seq_iff {a b : ByteArray} : seq a b = true ↔ a = b := by
  unfold seq
  rw [beq_iff_eq]
  exact ⟨byt_ext, fun h => by rw [h]⟩
theorem seq_no {a b : ByteArray} : seq a b = false ↔ a ≠ b := by
  rw [← Bool.not_eq_true, seq_iff]
theorem bl_irr : ∀ x : List UInt8, Op.bytesLess x x = false
  | [] => rfl
  | a :: x => by simp [Op.bytesLess, bl_irr x]
theorem bl_trans : ∀ x y z : List UInt8, Op.bytesLess x y = true → Op.bytesLess y z = true → Op.bytesLess x z = true
  | _, _, [], _, h => by cases ‹List UInt8› <;> simp [Op.bytesLess] at h
  | [], _, _ :: _, _, _ => rfl
  | a :: x, [], _ :: _, h, _ => by simp [Op.bytesLess] at h
  | a :: x, b :: y, c :: z, h1, h2 => by
    simp only [Op.bytesLess, Bool.or_eq_true, decide_eq_true_eq, Bool.and_eq_true, beq_iff_eq, UInt8.lt_iff_toNat_lt, ← UInt8.toNat_inj] at h1 h2 ⊢
    rcases h1 with h1 | ⟨h1, h1'⟩
    · rcases h2 with h2 | ⟨h2, h2'⟩ <;> (left; omega)
    · rcases h2 with h2 | ⟨h2, h2'⟩
      · left; omega
      · right; exact ⟨by omega, bl_trans x y z h1' h2'⟩
theorem bl_tri : ∀ x y : List UInt8, Op.bytesLess x y = false → Op.bytesLess y x = false → x = y
  | [], [], _, _ => rfl
  | [], _ :: _, h, _ => by simp [Op.bytesLess] at h
  | _ :: _, [], _, h => by simp [Op.bytesLess] at h
  | a :: x, b :: y, h1, h2 => by
    simp only [Op.bytesLess, Bool.or_eq_false_iff, decide_eq_false_iff_not, Bool.and_eq_false_iff, beq_eq_false_iff_ne, UInt8.lt_iff_toNat_lt, ne_eq, ← UInt8.toNat_inj] at h1 h2
    have e : a.toNat = b.toNat := by omega
    have h1' : Op.bytesLess x y = false := by rcases h1.2 with h | h; exact absurd e h; exact h
    have h2' : Op.bytesLess y x = false := by rcases h2.2 with h | h; exact absurd e.symm h; exact h
    rw [UInt8.toNat_inj.1 e, bl_tri x y h1' h2']
theorem slt_irr (a : ByteArray) : slt a a = false := bl_irr _
theorem slt_trans {a b c : ByteArray} (h : slt a b = true) (k : slt b c = true) : slt a c = true := bl_trans _ _ _ h k
theorem slt_tri {a b : ByteArray} (h : slt a b = false) (k : slt b a = false) : a = b := byt_ext (bl_tri _ _ h k)
theorem slt_asymm {a b : ByteArray} (h : slt a b = true) : slt b a = false := by
  cases k : slt b a with
  | false => rfl
  | true => have := slt_trans h k; rw [slt_irr] at this; cases this
/-! ### Lists in order -/
/-- All names are greater than n. -/
def Above (n : ByteArray) (l : List Attr) : Prop := ∀ a ∈ l, slt n a.name = true
def Sorted : List Attr → Prop
  | [] => True
  | a :: l => Above a.name l ∧ Sorted l
def look : List Attr → ByteArray → Option ByteArray
  | [], _ => none
  | a :: l, n => if a.name = n then some a.val else look l n
theorem look_mem {l : List Attr} {n v : ByteArray} (h : look l n = some v) : (⟨n, v⟩ : Attr) ∈ l := by
  induction l with
  | nil => cases h
  | cons a l ih =>
    rw [look] at h
    split at h
    · rename_i hn
      cases h
      subst hn
      exact List.mem_cons_self
    · exact List.mem_cons_of_mem _ (ih h)
/-! ### Two lists at once -/
def bothL : List Attr → List Attr → List (Attr × Attr)
  | [], [] => []
  | [], y :: b => (default, y) :: bothL [] b
  | x :: a, [] => (x, default) :: bothL a []
  | x :: a, y :: b =>
    if slt x.name y.name = true then (x, default) :: bothL a (y :: b)
    else if slt y.name x.name = true then (default, y) :: bothL (x :: a) b
    else (x, y) :: bothL a b
termination_by a b => a.length + b.length
def Named (l : List Attr) : Prop := ∀ a ∈ l, a.name ≠ mt
/-- What a visitor may make of a pair: nothing, or an attribute of that name. -/
def Fair (g : Attr → Attr → Option Attr) : Prop := ∀ x y z, g x y = some z → z.name = if y.name = mt then x.name else y.name
def fm (g : Attr → Attr → Option Attr) (a b : List Attr) : List Attr := (bothL a b).filterMap fun p => g p.1 p.2
/-- What the visitor makes of what both lists have under a name. -/
def at2 (g : Attr → Attr → Option Attr) (n : ByteArray) : Option ByteArray → Option ByteArray → Option ByteArray
  | none, none => none
  | some v, none => (g ⟨n, v⟩ default).map (·.val)
  | none, some w => (g default ⟨n, w⟩).map (·.val)
  | some v, some w => (g ⟨n, v⟩ ⟨n, w⟩).map (·.val)

/-! ### The four visitors -/
def rawG (x y : Attr) : Option Attr := if y.name = mt then some x else if y.val = mt then none else some y
def chgG (x y : Attr) : Option Attr := if y.name = mt then some ⟨x.name, mt⟩ else if x.name = y.name ∧ x.val = y.val then none else some y
def botG (x y : Attr) : Option Attr := some (if y.name = mt then x else y)
def wioG (x y : Attr) : Option Attr := if y.name = mt then some x else none
section
variable (NP VP : ByteArray → Prop)
/-- A value that may stand under a name: in a list (e = false) or in a change (e = true). -/
def Q (e : Bool) (n v : ByteArray) : Prop := NP n ∧ (VP v ∨ (e = true ∧ v = mt))
def V (e : Bool) (l : List Attr) : Prop := Sorted l ∧ ∀ a ∈ l, Q NP VP e a.name a.val
end
section
variable {NP VP : ByteArray → Prop} (hN : ¬ NP mt) (hV : ¬ VP mt)
include hN
theorem V.named {e : Bool} {l : List Attr} (h : V NP VP e l) : Named l := fun a ha e' => hN (by have := (h.2 a ha).1; rwa [e'] at this)
omit hN in
theorem V.look {e : Bool} {l : List Attr} (h : V NP VP e l) {n v : ByteArray} (hl : look l n = some v) : Q NP VP e n v := h.2 ⟨n, v⟩ (look_mem hl)
include hV
end

end Go.Ch
end
section
set_option linter.unusedVariables false
set_option linter.unusedSimpArgs false
set_option maxRecDepth 100000
set_option maxHeartbeats 4000000
open Go Go.Proofs Go.Ab
namespace Go.Ch
theorem seq_mt {s : ByteArray} : seq s { data := #[] } = decide (s.size = 0) := by
  by_cases h : s.size = 0
  · rw [decide_eq_true h, seq_iff]
    obtain ⟨⟨l⟩⟩ := s
    cases l with
    | nil => rfl
    | cons a l => simp [ByteArray.size] at h
  · rw [decide_eq_false h, seq_no]
    intro e; subst e; exact h rfl
theorem str_pos {s : ByteArray} (h : seq s { data := #[] } = false) : (0 : Int) < (s.size : Int) := by
  rw [seq_mt, decide_eq_false_iff_not] at h; omega
def byt (s : ByteArray) (i : Nat) : Nat := ((s[i]?).getD 0).toNat
def badC (b : Nat) : Prop := (b < 97 ∨ 122 < b) ∧ (b < 48 ∨ 57 < b) ∧ b ≠ 46 ∧ b ≠ 45
instance (b : Nat) : Decidable (badC b) := by unfold badC; infer_instance
def nmS (s : ByteArray) (i : Nat) : Bool := if i < s.size then (if badC (byt s i) then false else nmS s (i + 1)) else true
termination_by s.size - i
def nameGo (s : ByteArray) : Bool := decide (1 ≤ s.size ∧ s.size ≤ 24 ∧ 97 ≤ byt s 0 ∧ byt s 0 ≤ 122) && nmS s 0
def vlS (s : ByteArray) (i : Nat) : Bool := if i < s.size then (if byt s i < 32 ∨ 126 < byt s i then false else vlS s (i + 1)) else true
termination_by s.size - i
def valGo (s : ByteArray) : Bool := decide (1 ≤ s.size ∧ s.size ≤ 200) && vlS s 0
def nmR (s : ByteArray) (i : Nat) : Bool := if i < s.size then (if (byt s i < 97 ∨ 122 < byt s i) ∧ (i = 0 ∨ (byt s i ≠ 46 ∧ byt s i ≠ 45 ∧ (byt s i < 48 ∨ 57 < byt s i))) then false else nmR s (i + 1)) else true
termination_by s.size - i
def nameRf (s : ByteArray) : Bool := nmR s 0 && decide (1 ≤ s.size ∧ s.size ≤ 24)
def valRf (s : ByteArray) : Bool := vlS s 0 && decide (1 ≤ s.size ∧ s.size ≤ 200)
theorem byt0 (s : ByteArray) (i : Nat) : ((s[i]?).getD 0).toNat = byt s i := rfl

theorem fc_name (s : ByteArray) : FC Tryd.prog 108 [VS s] (app emp []) (VB (nameGo s)) (app emp []) := by
 refine .go Tryd.f108 ?_
 refine .br [.r [], .r [(4, Xv 1 (!(seq s ({ data := #[] }))) X0), (5, Xv 1 (!(seq s ({ data := #[] }))) X0), (6, X (Xk' (seq s ({ data := #[] })))), (9, Xv 1 (!(seq s ({ data := #[] }) || decide ((s.size : Int) > 24))) (Xb s 0) (fun hg => by (try simp only [decide_eq_true_eq, decide_eq_false_iff_not, Int.not_lt, Int.not_le, gt_iff_lt, Bool.not_eq_true', Bool.not_eq_false', Bool.or_eq_true, Bool.or_eq_false_iff] at hg); exact ⟨(by first | omega | (simp; omega) | (simp; done) | assumption), (str_pos (by first | exact hg | exact hg.1 | exact hg.1.1))⟩)), (10, Xv 1 (!(seq s ({ data := #[] }) || decide ((s.size : Int) > 24))) X0), (11, X (Xk' (seq s ({ data := #[] }) || decide ((s.size : Int) > 24)))), (14, Xv 1 (!((seq s ({ data := #[] }) || decide ((s.size : Int) > 24)) || decide (((((s[0]?).getD 0).toNat : Nat) : Int) < 97))) (Xb s 0) (fun hg => by (try simp only [decide_eq_true_eq, decide_eq_false_iff_not, Int.not_lt, Int.not_le, gt_iff_lt, Bool.not_eq_true', Bool.not_eq_false', Bool.or_eq_true, Bool.or_eq_false_iff] at hg); exact ⟨(by first | omega | (simp; omega) | (simp; done) | assumption), (str_pos (by first | exact hg | exact hg.1 | exact hg.1.1))⟩)), (15, Xv 1 (!((seq s ({ data := #[] }) || decide ((s.size : Int) > 24)) || decide (((((s[0]?).getD 0).toNat : Nat) : Int) < 97))) X0), (16, X (Xk' ((seq s ({ data := #[] }) || decide ((s.size : Int) > 24)) || decide (((((s[0]?).getD 0).toNat : Nat) : Int) < 97))))]] (((seq s ({ data := #[] }) || decide ((s.size : Int) > 24)) || decide (((((s[0]?).getD 0).toNat : Nat) : Int) < 97)) || decide (((((s[0]?).getD 0).toNat : Nat) : Int) > 122)) (fun h1 => ?_) (fun h1 => ?_)
 ·
  (try simp only [decide_eq_true_eq, decide_eq_false_iff_not, Int.not_lt, Int.not_le, gt_iff_lt, Bool.or_eq_true, Bool.or_eq_false_iff] at h1)
  have e1 : ((nameGo s) : Bool) = false := by
   simp only [byt0, seq_mt, decide_eq_true_eq] at h1; unfold nameGo; rw [decide_eq_false (by omega)]; rfl
  exact .finE [.r []] [] (fun z0 => (VB z0, [])) (false : Bool) ((nameGo s) : Bool) e1
 ·
  (try simp only [decide_eq_true_eq, decide_eq_false_iff_not, Int.not_lt, Int.not_le, gt_iff_lt, Bool.or_eq_true, Bool.or_eq_false_iff] at h1)
  refine .loop (α := Nat) [.r []] 168 (fun i => ([(0, VS s), (23, VI (s.size : Int)), (24, VI (i : Int))], [])) (fun i => i ≤ s.size ∧ nmS s 0 = nmS s i) (fun i => s.size - i) (0 : Nat) ?_ ?_
  ·
   exact ⟨by omega, rfl⟩
  rintro i I4 ih4
  try dsimp only at I4
  refine .br [.r []] (decide ((i : Int) < (s.size : Int))) (fun h4 => ?_) (fun h4 => ?_)
  ·
   (try simp only [decide_eq_true_eq, decide_eq_false_iff_not, Int.not_lt, Int.not_le] at h4)
   refine .br [.r [], .r [(2, X (Xb s (i : Int)))], .r [(4, Xv 1 (!(decide (((((s[i]?).getD 0).toNat : Nat) : Int) < 97))) X0), (5, X (Xk' (decide (((((s[i]?).getD 0).toNat : Nat) : Int) < 97)))), (8, Xv 1 (decide (((((s[i]?).getD 0).toNat : Nat) : Int) < 97) || decide (((((s[i]?).getD 0).toNat : Nat) : Int) > 122)) X0), (9, Xv 1 (decide (((((s[i]?).getD 0).toNat : Nat) : Int) < 97) || decide (((((s[i]?).getD 0).toNat : Nat) : Int) > 122)) X0), (11, Xv 1 ((decide (((((s[i]?).getD 0).toNat : Nat) : Int) < 97) || decide (((((s[i]?).getD 0).toNat : Nat) : Int) > 122)) && !(decide (((((s[i]?).getD 0).toNat : Nat) : Int) < 48))) X0), (12, Xko (decide (((((s[i]?).getD 0).toNat : Nat) : Int) < 97) || decide (((((s[i]?).getD 0).toNat : Nat) : Int) > 122)) (decide (((((s[i]?).getD 0).toNat : Nat) : Int) < 48))), (13, X (Xk (decide (((((s[i]?).getD 0).toNat : Nat) : Int) < 97) || decide (((((s[i]?).getD 0).toNat : Nat) : Int) > 122)))), (16, Xv 1 ((decide (((((s[i]?).getD 0).toNat : Nat) : Int) < 97) || decide (((((s[i]?).getD 0).toNat : Nat) : Int) > 122)) && (decide (((((s[i]?).getD 0).toNat : Nat) : Int) < 48) || decide (((((s[i]?).getD 0).toNat : Nat) : Int) > 57))) X0), (17, X (Xk ((decide (((((s[i]?).getD 0).toNat : Nat) : Int) < 97) || decide (((((s[i]?).getD 0).toNat : Nat) : Int) > 122)) && (decide (((((s[i]?).getD 0).toNat : Nat) : Int) < 48) || decide (((((s[i]?).getD 0).toNat : Nat) : Int) > 57))))), (20, Xv 1 (((decide (((((s[i]?).getD 0).toNat : Nat) : Int) < 97) || decide (((((s[i]?).getD 0).toNat : Nat) : Int) > 122)) && (decide (((((s[i]?).getD 0).toNat : Nat) : Int) < 48) || decide (((((s[i]?).getD 0).toNat : Nat) : Int) > 57))) && (((((s[i]?).getD 0).toNat : Nat) : Int) != 46)) X0), (21, X (Xk (((decide (((((s[i]?).getD 0).toNat : Nat) : Int) < 97) || decide (((((s[i]?).getD 0).toNat : Nat) : Int) > 122)) && (decide (((((s[i]?).getD 0).toNat : Nat) : Int) < 48) || decide (((((s[i]?).getD 0).toNat : Nat) : Int) > 57))) && (((((s[i]?).getD 0).toNat : Nat) : Int) != 46))))]] ((((decide (((((s[i]?).getD 0).toNat : Nat) : Int) < 97) || decide (((((s[i]?).getD 0).toNat : Nat) : Int) > 122)) && (decide (((((s[i]?).getD 0).toNat : Nat) : Int) < 48) || decide (((((s[i]?).getD 0).toNat : Nat) : Int) > 57))) && (((((s[i]?).getD 0).toNat : Nat) : Int) != 46)) && (((((s[i]?).getD 0).toNat : Nat) : Int) != 45)) (fun h7 => ?_) (fun h7 => ?_)
   ·
    (try simp only [decide_eq_true_eq, decide_eq_false_iff_not, Int.not_lt, Int.not_le, gt_iff_lt, Bool.and_eq_true, Bool.and_eq_false_iff, Bool.not_eq_true', Bool.not_eq_false', Bool.or_eq_true, Bool.or_eq_false_iff, bne_iff_ne, bne_eq_false_iff_eq, ne_eq] at h7)
    have e2 : ((nameGo s) : Bool) = false := by
     simp only [byt0] at h7; unfold nameGo; rw [I4.2, nmS, if_pos (by omega), if_pos (by unfold badC; omega)]; simp
    exact .finE [.r []] [] (fun z0 => (VB z0, [])) (false : Bool) ((nameGo s) : Bool) e2
   ·
    (try simp only [decide_eq_true_eq, decide_eq_false_iff_not, Int.not_lt, Int.not_le, gt_iff_lt, Bool.and_eq_true, Bool.and_eq_false_iff, Bool.not_eq_true', Bool.not_eq_false', Bool.or_eq_true, Bool.or_eq_false_iff, bne_iff_ne, bne_eq_false_iff_eq, ne_eq] at h7)
    refine .back [.r [(0, X (Xn ((i : Int) + 1)))]] [] (ih4 ((i + 1) : Nat) ?_ ?_)
    ·
     simp only [byt0] at h7; refine ⟨by omega, ?_⟩; rw [I4.2, nmS, if_pos (by omega), if_neg (by unfold badC; omega)]
    ·
     ((try dsimp only); omega)
  ·
   (try simp only [decide_eq_true_eq, decide_eq_false_iff_not, Int.not_lt, Int.not_le] at h4)
   have e3 : ((nameGo s) : Bool) = true := by
    simp only [byt0, seq_mt, decide_eq_false_iff_not] at h1; unfold nameGo; rw [I4.2, nmS, if_neg (by omega), decide_eq_true (by omega)]; rfl
   exact .finE [.r []] [] (fun z0 => (VB z0, [])) (true : Bool) ((nameGo s) : Bool) e3

theorem fc_value (s : ByteArray) : FC Tryd.prog 109 [VS s] (app emp []) (VB (valGo s)) (app emp []) := by
 refine .go Tryd.f109 ?_
 refine .br [.r [], .r [(4, Xv 1 (!(seq s ({ data := #[] }))) X0), (5, Xv 1 (!(seq s ({ data := #[] }))) X0), (6, X (Xk' (seq s ({ data := #[] }))))]] (seq s ({ data := #[] }) || decide ((s.size : Int) > 200)) (fun h1 => ?_) (fun h1 => ?_)
 ·
  (try simp only [decide_eq_true_eq, decide_eq_false_iff_not, Int.not_lt, Int.not_le, gt_iff_lt, Bool.or_eq_true, Bool.or_eq_false_iff] at h1)
  have e1 : ((valGo s) : Bool) = false := by
   simp only [seq_mt, decide_eq_true_eq] at h1; unfold valGo; rw [decide_eq_false (by omega)]; rfl
  exact .finE [.r []] [] (fun z0 => (VB z0, [])) (false : Bool) ((valGo s) : Bool) e1
 ·
  (try simp only [decide_eq_true_eq, decide_eq_false_iff_not, Int.not_lt, Int.not_le, gt_iff_lt, Bool.or_eq_true, Bool.or_eq_false_iff] at h1)
  refine .loop (α := Nat) [.r []] 88 (fun i => ([(0, VS s), (12, VI (s.size : Int)), (13, VI (i : Int))], [])) (fun i => i ≤ s.size ∧ vlS s 0 = vlS s i) (fun i => s.size - i) (0 : Nat) ?_ ?_
  ·
   exact ⟨by omega, rfl⟩
  rintro i I4 ih4
  try dsimp only at I4
  refine .br [.r []] (decide ((i : Int) < (s.size : Int))) (fun h4 => ?_) (fun h4 => ?_)
  ·
   (try simp only [decide_eq_true_eq, decide_eq_false_iff_not, Int.not_lt, Int.not_le] at h4)
   refine .br [.r [], .r [(2, X (Xb s (i : Int))), (7, Xv 2 (!(decide (((((s[i]?).getD 0).toNat : Nat) : Int) < 32))) (Xb s (i : Int))), (8, Xv 1 (!(decide (((((s[i]?).getD 0).toNat : Nat) : Int) < 32))) X0), (9, X (Xk' (decide (((((s[i]?).getD 0).toNat : Nat) : Int) < 32))))]] (decide (((((s[i]?).getD 0).toNat : Nat) : Int) < 32) || decide (((((s[i]?).getD 0).toNat : Nat) : Int) > 126)) (fun h6 => ?_) (fun h6 => ?_)
   ·
    (try simp only [decide_eq_true_eq, decide_eq_false_iff_not, Int.not_lt, Int.not_le, gt_iff_lt, Bool.or_eq_true, Bool.or_eq_false_iff] at h6)
    have e2 : ((valGo s) : Bool) = false := by
     simp only [byt0] at h6; unfold valGo; rw [I4.2, vlS, if_pos (by omega), if_pos (by omega)]; simp
    exact .finE [.r []] [] (fun z0 => (VB z0, [])) (false : Bool) ((valGo s) : Bool) e2
   ·
    (try simp only [decide_eq_true_eq, decide_eq_false_iff_not, Int.not_lt, Int.not_le, gt_iff_lt, Bool.or_eq_true, Bool.or_eq_false_iff] at h6)
    refine .back [.r [(0, X (Xn ((i : Int) + 1)))]] [] (ih4 ((i + 1) : Nat) ?_ ?_)
    ·
     simp only [byt0] at h6; refine ⟨by omega, ?_⟩; rw [I4.2, vlS, if_pos (by omega), if_neg (by omega)]
    ·
     ((try dsimp only); omega)
  ·
   (try simp only [decide_eq_true_eq, decide_eq_false_iff_not, Int.not_lt, Int.not_le] at h4)
   have e3 : ((valGo s) : Bool) = true := by
    simp only [seq_mt, decide_eq_false_iff_not] at h1; unfold valGo; rw [I4.2, vlS, if_neg (by omega), decide_eq_true (by omega)]; rfl
   exact .finE [.r []] [] (fun z0 => (VB z0, [])) (true : Bool) ((valGo s) : Bool) e3

def chkA (e : Bool) (l : List Attr) (i : Nat) : Int :=
  if i < l.length then
    if nameGo (l.getD i default).name = false then 9
    else if valGo (l.getD i default).val = false ∧ (e = false ∨ seq (l.getD i default).val { data := #[] } = false) then 23
    else if 0 < i ∧ (slt (l.getD i default).name (l.getD (i - 1) default).name = true ∨ seq (l.getD i default).name (l.getD (i - 1) default).name = true) then 5
    else chkA e l (i + 1)
  else 0
termination_by l.length - i
def Szd (l : List Attr) : Prop := ∀ a ∈ l, a.name.size ≤ 9223372036854775807 ∧ a.val.size ≤ 9223372036854775807
theorem Szd.at {l : List Attr} (h : Szd l) {i : Nat} (hi : i < l.length) : (l.getD i default).name.size ≤ 9223372036854775807 ∧ (l.getD i default).val.size ≤ 9223372036854775807 := by
  rw [show l.getD i default = l[i] by simp [List.getD, List.getElem?_eq_getElem hi]]
  exact h _ (List.getElem_mem hi)

theorem fc_chk (l : List Attr) (e : Bool) : FC Tryd.prog 100 [VL 2 attrT l, VB e] (app emp []) (VI (chkA e l 0)) (app emp []) := by
 refine .go Tryd.f100 ?_
 refine .len 0 (fun hl0 => ?_)
 refine .loop (α := Nat) [.r [], .r [(1, X (Xl attrT l))]] 32 (fun i => ([(0, VL 2 attrT l), (1, VB e), (7, VL 2 attrT l), (8, VI (l.length : Int)), (9, VI (i : Int))], [])) (fun i => i ≤ l.length ∧ chkA e l 0 = chkA e l i) (fun i => l.length - i) (0 : Nat) ?_ ?_
 ·
  exact ⟨by omega, rfl⟩
 rintro i I2 ih2
 try dsimp only at I2
 refine .br [.r []] (decide ((i : Int) < (l.length : Int))) (fun h2 => ?_) (fun h2 => ?_)
 ·
  (try simp only [decide_eq_true_eq, decide_eq_false_iff_not, Int.not_lt, Int.not_le] at h2)
  refine .br [.r [(1, X (Xi attrT l (i : Int)))], .r [(2, X (Xc0 (fc_name (((l.getD i default)).name)) X0))]] (!(nameGo (((l.getD i default)).name))) (fun h4 => ?_) (fun h4 => ?_)
  ·
   (try simp only [Bool.not_eq_true', Bool.not_eq_false'] at h4)
   have e1 : ((chkA e l 0) : Int) = 9 := by
    rw [I2.2, chkA, if_pos (by omega), if_pos h4]
   exact .finE [.r []] [] (fun z0 => (VI z0, [])) (9 : Int) ((chkA e l 0) : Int) e1
  ·
   (try simp only [Bool.not_eq_true', Bool.not_eq_false'] at h4)
   refine .br [.r [(2, X (Xc0 (fc_value (((l.getD i default)).val)) X0)), (6, Xv 1 (!(valGo (((l.getD i default)).val))) X0), (8, Xv 1 ((!(valGo (((l.getD i default)).val))) && e) X0), (9, Xv 1 ((!(valGo (((l.getD i default)).val))) && e) X0), (10, Xka (!(valGo (((l.getD i default)).val))) e), (11, Xv 1 (!(valGo (((l.getD i default)).val))) X0), (12, X (Xk (!(valGo (((l.getD i default)).val)))))]] (!(valGo (((l.getD i default)).val)) && !(e && seq (((l.getD i default)).val) ({ data := #[] }))) (fun h6 => ?_) (fun h6 => ?_)
   ·
    (try simp only [Bool.not_eq_true', Bool.not_eq_false', Bool.and_eq_true, Bool.and_eq_false_iff] at h6)
    have e2 : ((chkA e l 0) : Int) = 23 := by
     rw [I2.2, chkA, if_pos (by omega), if_neg (by rw [h4]; decide), if_pos h6]
    exact .finE [.r []] [] (fun z0 => (VI z0, [])) (23 : Int) ((chkA e l 0) : Int) e2
   ·
    (try simp only [Bool.not_eq_true', Bool.not_eq_false', Bool.and_eq_true, Bool.and_eq_false_iff] at h6)
    refine .br [.r [(4, Xv 1 (decide ((i : Int) > 0)) X0), (7, Xv 1 (decide ((i : Int) > 0)) (Xn ((i : Int) - 1))), (8, Xv 2 (decide ((i : Int) > 0)) (Xi' attrT l ((i : Int) - 1) (i - 1))), (9, Xv 1 (decide ((i : Int) > 0)) X0), (10, Xv 1 (decide ((i : Int) > 0)) X0), (11, Xv 2 (decide ((i : Int) > 0)) X0), (12, X (Xk (decide ((i : Int) > 0))))]] (decide ((i : Int) > 0) && (slt (((l.getD i default)).name) (((l.getD (i - 1) default)).name) || seq (((l.getD i default)).name) (((l.getD (i - 1) default)).name))) (fun h8 => ?_) (fun h8 => ?_)
    ·
     (try simp only [decide_eq_true_eq, decide_eq_false_iff_not, Int.not_lt, Int.not_le, gt_iff_lt, Bool.and_eq_true, Bool.and_eq_false_iff, Bool.not_eq_true', Bool.not_eq_false', Bool.or_eq_true, Bool.or_eq_false_iff] at h8)
     have e3 : ((chkA e l 0) : Int) = 5 := by
      rw [I2.2, chkA, if_pos (by omega), if_neg (by rw [h4]; decide), if_neg (by clear ih2; rintro ⟨a, b⟩; simp_all), if_pos ⟨by omega, h8.2⟩]
     exact .finE [.r []] [] (fun z0 => (VI z0, [])) (5 : Int) ((chkA e l 0) : Int) e3
    ·
     (try simp only [decide_eq_true_eq, decide_eq_false_iff_not, Int.not_lt, Int.not_le, gt_iff_lt, Bool.and_eq_true, Bool.and_eq_false_iff, Bool.not_eq_true', Bool.not_eq_false', Bool.or_eq_true, Bool.or_eq_false_iff] at h8)
     refine .back [.r [(0, X (Xn ((i : Int) + 1)))]] [] (ih2 ((i + 1) : Nat) ?_ ?_)
     ·
      refine ⟨by omega, ?_⟩; rw [I2.2, chkA, if_pos (by omega), if_neg (by rw [h4]; decide), if_neg (by clear ih2; rintro ⟨a, b⟩; simp_all), if_neg (by clear ih2; rintro ⟨a, b⟩; rcases h8 with h | ⟨h, h2⟩; omega; rcases b with b | b <;> simp_all)]
     ·
      ((try dsimp only); omega)
 ·
  (try simp only [decide_eq_true_eq, decide_eq_false_iff_not, Int.not_lt, Int.not_le] at h2)
  have e4 : ((chkA e l 0) : Int) = 0 := by
   rw [I2.2, chkA, if_neg (by omega)]
  exact .finE [.r []] [] (fun z0 => (VI z0, [])) (0 : Int) ((chkA e l 0) : Int) e4

theorem fc_acheck (l : List Attr) : FC Tryd.prog 80 [VL 2 attrT l] (app emp []) (VI (chkA false l 0)) (app emp []) := by
 refine .go Tryd.f80 ?_
 refine .len 0 (fun hl0 => ?_)
 exact .fin [.r [], .r [(1, X (Xc0 (fc_chk l false) X0))]] []

def errA (e : Bool) (l : List Attr) (i : Nat) : Int :=
  if i < l.length then
    if nameRf (l.getD i default).name = false then 9
    else if valRf (l.getD i default).val = false ∧ (e = false ∨ seq (l.getD i default).val { data := #[] } = false) then 23
    else if 0 < i ∧ slt (l.getD (i - 1) default).name (l.getD i default).name = false then 5
    else errA e l (i + 1)
  else 0
termination_by l.length - i
theorem slt_or (a b : ByteArray) : (slt a b = true ∨ seq a b = true) ↔ slt b a = false := by
  constructor
  · rintro (h | h)
    · exact slt_asymm h
    · rw [seq_iff] at h; subst h; exact slt_irr _
  · intro h
    cases k : slt a b with
    | true => exact .inl rfl
    | false => exact .inr (seq_iff.2 (slt_tri k h))
def sameA (a b : List Attr) (i : Nat) : Bool :=
  if i < a.length then (if (a.getD i default).name = (b.getD i default).name ∧ (a.getD i default).val = (b.getD i default).val then sameA a b (i + 1) else false) else true
termination_by a.length - i
def sameL (a b : List Attr) : Bool := decide (a.length = b.length) && sameA a b 0
def getA (l : List Attr) (n : ByteArray) (i : Nat) : ByteArray :=
  if i < l.length then (if (l.getD i default).name = n then (l.getD i default).val else getA l n (i + 1)) else mt
termination_by l.length - i
theorem fc_sameAttrs (a b : List Attr) : FC Tryd.prog 57 [VL 2 attrT a, VL 2 attrT b] (app emp []) (VB (sameL a b)) (app emp []) := by
 refine .go Tryd.f57 ?_
 refine .len 0 (fun hl0 => ?_)
 refine .len 1 (fun hl1 => ?_)
 refine .br [.r [], .r [(1, X (Xl attrT a)), (3, X (Xl attrT b))]] ((a.length : Int) != (b.length : Int)) (fun h1 => ?_) (fun h1 => ?_)
 ·
  (try simp only [bne_iff_ne, bne_eq_false_iff_eq, ne_eq] at h1)
  have e1 : ((sameL a b) : Bool) = false := by
   unfold sameL; rw [decide_eq_false (by omega)]; rfl
  exact .finE [.r []] [] (fun z0 => (VB z0, [])) (false : Bool) ((sameL a b) : Bool) e1
 ·
  (try simp only [bne_iff_ne, bne_eq_false_iff_eq, ne_eq] at h1)
  refine .loop (α := Nat) [.r [(1, X (Xl attrT a))]] 72 (fun i => ([(0, VL 2 attrT a), (1, VL 2 attrT b), (12, VI (a.length : Int)), (13, VI (i : Int))], [])) (fun i => i ≤ a.length ∧ sameA a b 0 = sameA a b i) (fun i => a.length - i) (0 : Nat) ?_ ?_
  ·
   exact ⟨by omega, rfl⟩
  rintro i I4 ih4
  try dsimp only at I4
  refine .br [.r []] (decide ((i : Int) < (a.length : Int))) (fun h4 => ?_) (fun h4 => ?_)
  ·
   (try simp only [decide_eq_true_eq, decide_eq_false_iff_not, Int.not_lt, Int.not_le] at h4)
   refine .br [.r [], .r [(2, X (Xi attrT a (i : Int))), (6, X (Xi attrT b (i : Int)))]] (!(seq (((a.getD i default)).name) (((b.getD i default)).name) && (seq (((a.getD i default)).val) (((b.getD i default)).val) && true))) (fun h6 => ?_) (fun h6 => ?_)
   ·
    (try simp only [Bool.not_eq_true', Bool.not_eq_false', Bool.and_eq_true, Bool.and_eq_false_iff] at h6)
    have e2 : ((sameL a b) : Bool) = false := by
     unfold sameL; rw [I4.2, sameA, if_pos (by omega), if_neg (by clear ih4; simp only [seq_no, seq_iff] at h6; rintro ⟨x, y⟩; simp_all)]; simp
    exact .finE [.r []] [] (fun z0 => (VB z0, [])) (false : Bool) ((sameL a b) : Bool) e2
   ·
    (try simp only [Bool.not_eq_true', Bool.not_eq_false', Bool.and_eq_true, Bool.and_eq_false_iff] at h6)
    refine .back [.r [(0, X (Xn ((i : Int) + 1)))]] [] (ih4 ((i + 1) : Nat) ?_ ?_)
    ·
     refine ⟨by omega, ?_⟩; rw [I4.2, sameA, if_pos (by omega), if_pos (by clear ih4; simp only [seq_no, seq_iff] at h6; simp_all)]
    ·
     ((try dsimp only); omega)
  ·
   (try simp only [decide_eq_true_eq, decide_eq_false_iff_not, Int.not_lt, Int.not_le] at h4)
   have e3 : ((sameL a b) : Bool) = true := by
    unfold sameL; rw [I4.2, sameA, if_neg (by omega), decide_eq_true (by omega)]; rfl
   exact .finE [.r []] [] (fun z0 => (VB z0, [])) (true : Bool) ((sameL a b) : Bool) e3
end Go.Ch
end
section
set_option linter.unusedVariables false
set_option linter.unusedSimpArgs false
set_option maxRecDepth 100000
set_option maxHeartbeats 4000000
open Go Go.Proofs Go.Ab
namespace Go.Ch
end Go.Ch
end
section
set_option linter.unusedVariables false
set_option linter.unusedSimpArgs false
set_option maxRecDepth 100000
set_option maxHeartbeats 4000000
open Go Go.Proofs Go.Ab
namespace Go.Ch
def applyL (l c : List Attr) : List Attr := if chkA false l 0 = 0 ∧ chkA true c 0 = 0 then fm rawG l c else []
def applyE (l c : List Attr) : Int := if chkA false l 0 = 0 then chkA true c 0 else chkA false l 0
def undoL (l c : List Attr) : List Attr := if applyE l c = 0 then fm chgG (applyL l c) l else []
def betL (a b : List Attr) : List Attr := if chkA false a 0 = 0 ∧ chkA false b 0 = 0 then fm chgG a b else []
def betE (a b : List Attr) : Int := if chkA false a 0 = 0 then chkA false b 0 else chkA false a 0
def joinL (a b : List Attr) : List Attr := if chkA true a 0 = 0 ∧ chkA true b 0 = 0 then fm botG a b else []
def joinE (a b : List Attr) : Int := if chkA true a 0 = 0 then chkA true b 0 else chkA true a 0
def pairL (a b : List Attr) : List Attr := if chkA true a 0 = 0 ∧ chkA true b 0 = 0 then fm wioG a b else []
def pairR (a b : List Attr) : List Attr := if chkA true a 0 = 0 ∧ chkA true b 0 = 0 then b else []
end Go.Ch
end
section
set_option linter.unusedVariables false
set_option linter.unusedSimpArgs false
namespace Go.Ch
open Go Go.Ab

def NPg (s : ByteArray) : Prop := nameGo s = true
def VPg (s : ByteArray) : Prop := valGo s = true
theorem np_mt : ¬ NPg mt := by
  unfold NPg nameGo
  rw [decide_eq_false (by intro h; have := h.1; simp [ByteArray.size] at this)]
  decide
theorem vp_mt : ¬ VPg mt := by
  unfold VPg valGo
  rw [decide_eq_false (by intro h; have := h.1; simp [ByteArray.size] at this)]
  decide
abbrev VG := V NPg VPg
theorem getD_cons_succ' {a : Attr} {l : List Attr} {k : Nat} : (a :: l).getD (k + 1) default = l.getD k default := by simp [List.getD]
theorem getD_zero' {a : Attr} {l : List Attr} : (a :: l).getD 0 default = a := rfl
theorem sorted_of_adj : ∀ {l : List Attr}, (∀ k, k + 1 < l.length → slt (l.getD k default).name (l.getD (k + 1) default).name = true) → Sorted l
  | [], _ => trivial
  | [a], _ => ⟨fun b hb => (by cases hb), trivial⟩
  | a :: b :: l, h => by
    have ih := sorted_of_adj (l := b :: l) (fun k hk => by have := h (k + 1) (by simp at hk ⊢; omega); simpa using this)
    have h0 := h 0 (by simp)
    simp only [getD_zero', getD_cons_succ'] at h0
    refine ⟨fun c hc => ?_, ih⟩
    rcases List.mem_cons.1 hc with rfl | hc
    · exact h0
    · exact slt_trans h0 (ih.1 c hc)
theorem adj_of_sorted : ∀ {l : List Attr}, Sorted l → ∀ k, k + 1 < l.length → slt (l.getD k default).name (l.getD (k + 1) default).name = true
  | [], _, k, hk => by simp at hk
  | a :: l, h, 0, hk => by
    cases l with
    | nil => simp at hk
    | cons b l => exact h.1 b (by simp)
  | a :: l, h, k + 1, hk => by
    have := adj_of_sorted h.2 k (by simp at hk; omega)
    rw [getD_cons_succ', getD_cons_succ']; exact this
theorem getD_mem {l : List Attr} {k : Nat} (h : k < l.length) : l.getD k default ∈ l := by
  rw [show l.getD k default = l[k] by simp [List.getD, List.getElem?_eq_getElem h]]
  exact List.getElem_mem h
theorem mem_getD {l : List Attr} {a : Attr} (h : a ∈ l) : ∃ k, k < l.length ∧ l.getD k default = a := by
  obtain ⟨k, hk, e⟩ := List.mem_iff_getElem.1 h
  exact ⟨k, hk, by rw [← e]; simp [List.getD, List.getElem?_eq_getElem hk]⟩

theorem chkA_all (e : Bool) (l : List Attr) : ∀ (n i : Nat), l.length - i = n → (chkA e l i = 0 ↔ ∀ k, i ≤ k → k < l.length → Q NPg VPg e (l.getD k default).name (l.getD k default).val ∧ (0 < k → slt (l.getD (k - 1) default).name (l.getD k default).name = true))
  | 0, i, h => by
    rw [chkA, if_neg (by omega)]
    exact ⟨fun _ k h1 h2 => by omega, fun _ => rfl⟩
  | n + 1, i, h => by
    have hi : i < l.length := by omega
    have ih := chkA_all e l n (i + 1) (by omega)
    rw [chkA, if_pos hi]
    have step : (∀ k, i ≤ k → k < l.length → Q NPg VPg e (l.getD k default).name (l.getD k default).val ∧ (0 < k → slt (l.getD (k - 1) default).name (l.getD k default).name = true)) ↔
        (Q NPg VPg e (l.getD i default).name (l.getD i default).val ∧ (0 < i → slt (l.getD (i - 1) default).name (l.getD i default).name = true)) ∧ chkA e l (i + 1) = 0 := by
      rw [ih]
      constructor
      · exact fun h => ⟨h i (Nat.le_refl _) hi, fun k h1 h2 => h k (by omega) h2⟩
      · rintro ⟨h1, h2⟩ k h3 h4
        by_cases e : k = i
        · subst e; exact h1
        · exact h2 k (by omega) h4
    rw [step]
    generalize (l.getD i default) = x
    generalize (l.getD (i - 1) default) = y
    unfold Q NPg VPg
    have hm : seq x.val { data := #[] } = true ↔ x.val = mt := seq_iff
    have hm2 : seq x.val { data := #[] } = false ↔ x.val ≠ mt := seq_no
    simp only [slt_or, hm2]
    cases h1 : nameGo x.name with
    | false => simp
    | true =>
      rw [if_neg (by decide)]
      cases h2 : valGo x.val with
      | false =>
        by_cases h3 : e = false ∨ x.val ≠ mt
        · rw [if_pos ⟨rfl, h3⟩]
          constructor
          · intro h; cases h
          · rintro ⟨⟨⟨_, h | ⟨h, h'⟩⟩, _⟩, _⟩
            · cases h
            · rcases h3 with h3 | h3
              · rw [h3] at h; cases h
              · exact absurd h' h3
        · rw [if_neg (fun h => h3 h.2)]
          have he : e = true := by cases e with | true => rfl | false => exact absurd (.inl rfl) h3
          have hx : x.val = mt := Classical.byContradiction fun h => h3 (.inr h)
          by_cases h4 : 0 < i ∧ slt y.name x.name = false
          · rw [if_pos h4]
            constructor
            · intro h; cases h
            · rintro ⟨⟨_, h⟩, _⟩; rw [h h4.1] at h4; cases h4.2
          · rw [if_neg h4]
            refine ⟨fun h => ⟨⟨⟨rfl, .inr ⟨he, hx⟩⟩, fun h0 => ?_⟩, h⟩, fun h => h.2⟩
            cases h5 : slt y.name x.name with
            | true => rfl
            | false => exact absurd ⟨h0, h5⟩ h4
      | true =>
        rw [if_neg (fun h => by cases h.1)]
        by_cases h4 : 0 < i ∧ slt y.name x.name = false
        · rw [if_pos h4]
          constructor
          · intro h; cases h
          · rintro ⟨⟨_, h⟩, _⟩; rw [h h4.1] at h4; cases h4.2
        · rw [if_neg h4]
          refine ⟨fun h => ⟨⟨⟨rfl, .inl rfl⟩, fun h0 => ?_⟩, h⟩, fun h => h.2⟩
          cases h5 : slt y.name x.name with
          | true => rfl
          | false => exact absurd ⟨h0, h5⟩ h4
theorem chk_iff {e : Bool} {l : List Attr} : chkA e l 0 = 0 ↔ VG e l := by
  rw [chkA_all e l l.length 0 (by omega)]
  constructor
  · intro h
    refine ⟨sorted_of_adj (fun k hk => (h (k + 1) (by omega) hk).2 (by omega)), fun a ha => ?_⟩
    obtain ⟨k, hk, rfl⟩ := mem_getD ha
    exact (h k (by omega) hk).1
  · intro h k _ hk
    refine ⟨h.2 _ (getD_mem hk), fun h0 => ?_⟩
    have := adj_of_sorted h.1 (k - 1) (by omega)
    rw [show k - 1 + 1 = k by omega] at this
    exact this
theorem sameA_self (a : List Attr) : ∀ (n i : Nat), a.length - i = n → sameA a a i = true
  | 0, i, h => by rw [sameA, if_neg (by omega)]
  | n + 1, i, h => by
    have hi : i < a.length := by omega
    rw [sameA, if_pos hi, if_pos ⟨rfl, rfl⟩, sameA_self a n (i + 1) (by omega)]
theorem sameL_self (a : List Attr) : sameL a a = true := by unfold sameL; rw [sameA_self a _ 0 rfl]; simp
theorem apply_ok {l c : List Attr} (hl : VG false l) (hc : VG true c) : applyL l c = fm rawG l c ∧ applyE l c = 0 := by
  unfold applyL applyE
  rw [if_pos ⟨chk_iff.2 hl, chk_iff.2 hc⟩, if_pos (chk_iff.2 hl)]
  exact ⟨rfl, chk_iff.2 hc⟩
/-- The probe: one attribute goes, another one comes. -/
theorem probe : applyL [⟨{ data := #[97] }, { data := #[49] }⟩] [⟨{ data := #[97] }, { data := #[] }⟩, ⟨{ data := #[99] }, { data := #[51] }⟩] = [⟨{ data := #[99] }, { data := #[51] }⟩] ∧
    applyE [⟨{ data := #[97] }, { data := #[49] }⟩] [⟨{ data := #[97] }, { data := #[] }⟩, ⟨{ data := #[99] }, { data := #[51] }⟩] = 0 := by
  have one : ∀ b : UInt8, 97 ≤ b.toNat → b.toNat ≤ 122 → NPg { data := #[b] } := by
    intro b h1 h2
    have e : byt { data := #[b] } 0 = b.toNat := rfl
    have z : ({ data := #[b] } : ByteArray).size = 1 := rfl
    unfold NPg nameGo
    rw [nmS, nmS, e, z, decide_eq_true (by omega), if_pos (by omega), if_neg (by unfold badC; omega), if_neg (by omega)]
    rfl
  have dig : ∀ b : UInt8, 32 ≤ b.toNat → b.toNat ≤ 126 → VPg { data := #[b] } := by
    intro b h1 h2
    have e : byt { data := #[b] } 0 = b.toNat := rfl
    have z : ({ data := #[b] } : ByteArray).size = 1 := rfl
    unfold VPg valGo
    rw [vlS, vlS, e, z, decide_eq_true (by omega), if_pos (by omega), if_neg (by omega), if_neg (by omega)]
    rfl
  have n1 : NPg { data := #[97] } := one 97 (by decide) (by decide)
  have n2 : NPg { data := #[99] } := one 99 (by decide) (by decide)
  have v1 : VPg { data := #[49] } := dig 49 (by decide) (by decide)
  have v2 : VPg { data := #[51] } := dig 51 (by decide) (by decide)
  have s1 : slt { data := #[97] } { data := #[99] } = true := by unfold slt; rw [ByteArray.toList_eq, ByteArray.toList_eq]; decide
  have hl : VG false [⟨{ data := #[97] }, { data := #[49] }⟩] := ⟨⟨fun a h => (by cases h), trivial⟩, fun a h => by rw [List.mem_singleton] at h; subst h; exact ⟨n1, .inl v1⟩⟩
  have hc : VG true [⟨{ data := #[97] }, { data := #[] }⟩, ⟨{ data := #[99] }, { data := #[51] }⟩] := by
    refine ⟨⟨fun a h => ?_, fun a h => (by cases h), trivial⟩, fun a h => ?_⟩
    · rw [List.mem_singleton] at h; subst h; exact s1
    · simp only [List.mem_cons, List.not_mem_nil, or_false] at h
      rcases h with rfl | rfl
      · exact ⟨n1, .inr ⟨rfl, rfl⟩⟩
      · exact ⟨n2, .inl v2⟩
  obtain ⟨a1, a2⟩ := apply_ok hl hc
  refine ⟨a1.trans ?_, a2⟩
  have ne : ({ data := #[97] } : ByteArray) ≠ mt := fun e => np_mt (e ▸ n1)
  have ne2 : ({ data := #[99] } : ByteArray) ≠ mt := fun e => np_mt (e ▸ n2)
  have ne3 : ({ data := #[51] } : ByteArray) ≠ mt := fun e => vp_mt (e ▸ v2)
  unfold fm
  rw [bothL, if_neg (by rw [slt_irr]; decide), if_neg (by rw [slt_irr]; decide), bothL, bothL]
  simp [rawG, ne, ne2, ne3]
end Go.Ch
end
section
set_option linter.unusedVariables false
set_option linter.unusedSimpArgs false
namespace Go.Ch
open Go Go.Ab

structure Elem where
  char : Int
  ref : Int
  attrs : List Attr
instance : Inhabited Elem := ⟨⟨0, 0, []⟩⟩
def elemT (e : Elem) : Tree := .agg [.sc (.int .i64 e.char), .sc (.int .i64 e.ref), .lst 2 (e.attrs.map attrT)]
def CharP (c : Int) : Prop := c = 9 ∨ c = 10 ∨ (32 ≤ c ∧ c < 127) ∨ (160 ≤ c ∧ c < 55296) ∨ (57343 < c ∧ c ≤ 1114111)
instance (c : Int) : Decidable (CharP c) := by unfold CharP; infer_instance
def elemE (x : Elem) : Int :=
  if x.char = 0 ↔ x.ref = 0 then 4
  else if (x.ref = 0 ∧ ¬ CharP x.char) ∨ (x.ref ≠ 0 ∧ (x.ref < 1 ∨ 1073741824 < x.ref)) then 2
  else chkA false x.attrs 0
def partE (l : List Elem) (i : Nat) : Int := if i < l.length then (if elemE (l.getD i default) = 0 then partE l (i + 1) else elemE (l.getD i default)) else 0
termination_by l.length - i
def SzE (l : List Elem) : Prop := ∀ x ∈ l, Szd x.attrs
def sameE (x y : Elem) : Bool := (x.char == y.char && x.ref == y.ref) && sameL x.attrs y.attrs
def sameFi (a b : List Elem) (i : Nat) : Bool := if i < a.length then (if sameE (a.getD i default) (b.getD i default) = true then sameFi a b (i + 1) else false) else true
termination_by a.length - i
def sameF (a b : List Elem) : Bool := decide (a.length = b.length) && sameFi a b 0
theorem sameA_all (a b : List Attr) : ∀ (n i : Nat), a.length - i = n → sameA a b i = true → ∀ k, i ≤ k → k < a.length → a.getD k default = b.getD k default
  | 0, i, h, _ => fun k h1 h2 => by omega
  | n + 1, i, h, hs => by
    have hi : i < a.length := by omega
    rw [sameA, if_pos hi] at hs
    split at hs
    · rename_i he
      intro k h1 h2
      by_cases e : k = i
      · subst e
        generalize a.getD k default = x at *
        generalize b.getD k default = y at *
        cases x; cases y; simp_all
      · exact sameA_all a b n (i + 1) (by omega) hs k (by omega) h2
    · cases hs
theorem sameL_eq {a b : List Attr} : sameL a b = true ↔ a = b := by
  constructor
  · intro h
    unfold sameL at h
    simp only [Bool.and_eq_true, decide_eq_true_eq] at h
    refine List.ext_getElem h.1 (fun k h1 h2 => ?_)
    have := sameA_all a b _ 0 rfl h.2 k (by omega) h1
    simpa [List.getD, List.getElem?_eq_getElem h1, List.getElem?_eq_getElem h2] using this
  · intro h; subst h; exact sameL_self _
end Go.Ch
end
section
set_option linter.unusedVariables false
set_option linter.unusedSimpArgs false
namespace Go.Ch
open Go Go.Ab

inductive U where
  | K
  | A
  | C
/-- Adds and cuts at one gap may be exchanged. -/
inductive Sw : List U → List U → Prop
  | refl (u : List U) : Sw u u
  | cons (x : U) {u v : List U} (h : Sw u v) : Sw (x :: u) (x :: v)
  | swap (u : List U) : Sw (.A :: .C :: u) (.C :: .A :: u)
  | symm {u v : List U} (h : Sw u v) : Sw v u
  | trans {u v w : List U} (h : Sw u v) (k : Sw v w) : Sw u w
theorem Sw.of_eq {u v : List U} (h : u = v) : Sw u v := h ▸ .refl u
theorem Sw.left (w : List U) {u v : List U} (h : Sw u v) : Sw (w ++ u) (w ++ v) := by
  induction w with
  | nil => exact h
  | cons x w ih => exact .cons x ih
theorem Sw.right (w : List U) {u v : List U} (h : Sw u v) : Sw (u ++ w) (v ++ w) := by
  induction h with
  | refl u => exact .refl _
  | cons x _ ih => exact .cons x ih
  | swap u => exact .swap _
  | symm _ ih => exact .symm ih
  | trans _ _ a b => exact .trans a b
abbrev rep (n : Nat) (x : U) : List U := List.replicate n x
theorem rep_succ (n : Nat) (x : U) : rep (n + 1) x = x :: rep n x := rfl
theorem sw_C_As (a : Nat) (u : List U) : Sw (.C :: (rep a .A ++ u)) (rep a .A ++ .C :: u) := by
  induction a with
  | zero => exact .refl _
  | succ a ih => exact .trans (.symm (.swap _)) (.cons _ ih)
theorem sw_Cs_As (c a : Nat) (u : List U) : Sw (rep c .C ++ (rep a .A ++ u)) (rep a .A ++ (rep c .C ++ u)) := by
  induction c with
  | zero => exact .refl _
  | succ c ih => exact .trans (.cons _ ih) (sw_C_As a _)

def bumpA : List (Nat × Nat) → List (Nat × Nat)
  | [] => []
  | (a, c) :: r => (a + 1, c) :: r
def bumpC : List (Nat × Nat) → List (Nat × Nat)
  | [] => []
  | (a, c) :: r => (a, c + 1) :: r
def beta : List U → List (Nat × Nat)
  | [] => [(0, 0)]
  | .K :: u => (0, 0) :: beta u
  | .A :: u => bumpA (beta u)
  | .C :: u => bumpC (beta u)
theorem beta_ne (u : List U) : ∃ a c r, beta u = (a, c) :: r := by
  induction u with
  | nil => exact ⟨0, 0, [], rfl⟩
  | cons x u ih =>
    obtain ⟨a, c, r, h⟩ := ih
    cases x <;> simp [beta, bumpA, bumpC, h]
theorem beta_sw {u v : List U} (h : Sw u v) : beta u = beta v := by
  induction h with
  | refl u => rfl
  | cons x _ ih => cases x <;> simp [beta, ih]
  | swap u => obtain ⟨a, c, r, h⟩ := beta_ne u; simp [beta, h, bumpA, bumpC]
  | symm _ ih => exact ih.symm
  | trans _ _ a b => exact a.trans b
def unb : List (Nat × Nat) → List U
  | [] => []
  | [(a, c)] => rep a .A ++ rep c .C
  | (a, c) :: s :: r => rep a .A ++ (rep c .C ++ .K :: unb (s :: r))
/-! ### Joining -/
def joinU : List U → List U → List U
  | .C :: p, q => .C :: joinU p q
  | [], q => q
  | .K :: p, [] => .K :: joinU p []
  | .A :: p, [] => .A :: joinU p []
  | .K :: p, .A :: q => .A :: joinU (.K :: p) q
  | .A :: p, .A :: q => .A :: joinU (.A :: p) q
  | .K :: p, .K :: q => .K :: joinU p q
  | .K :: p, .C :: q => .C :: joinU p q
  | .A :: p, .K :: q => .A :: joinU p q
  | .A :: p, .C :: q => joinU p q
termination_by p q => p.length + q.length
theorem joinU_A (p q : List U) : Sw (joinU p (.A :: q)) (.A :: joinU p q) := by
  induction p with
  | nil => simp only [joinU]; exact .refl _
  | cons x p ih =>
    cases x with
    | C => simp only [joinU]; exact .trans (.cons _ ih) (.symm (.swap _))
    | K => simp only [joinU]; exact .refl _
    | A => simp only [joinU]; exact .refl _
theorem joinU_right {q q' : List U} (h : Sw q q') : ∀ p, Sw (joinU p q) (joinU p q') := by
  induction h with
  | refl u => exact fun q => .refl _
  | @cons x u v _ ih =>
    intro p
    induction p with
    | nil => have := ih []; simp only [joinU] at this ⊢; exact .cons _ this
    | cons y p ihp =>
      cases y with
      | C => simp only [joinU]; exact .cons _ ihp
      | K =>
        cases x with
        | A => simp only [joinU]; exact .cons _ (ih _)
        | K => simp only [joinU]; exact .cons _ (ih _)
        | C => simp only [joinU]; exact .cons _ (ih _)
      | A =>
        cases x with
        | A => simp only [joinU]; exact .cons _ (ih _)
        | K => simp only [joinU]; exact .cons _ (ih _)
        | C => simp only [joinU]; exact ih _
  | swap u =>
    intro p
    induction p with
    | nil => simp only [joinU]; exact .swap _
    | cons y p ihp =>
      cases y with
      | C => simp only [joinU]; exact .cons _ ihp
      | K => simp only [joinU]; exact .trans (.swap _) (.cons _ (.symm (joinU_A _ _)))
      | A => simp only [joinU]; exact .symm (joinU_A _ _)
  | symm _ ih => exact fun q => .symm (ih q)
  | trans _ _ a b => exact fun q => .trans (a q) (b q)
def oldU : List U → Nat
  | [] => 0
  | .A :: u => oldU u
  | .K :: u => oldU u + 1
  | .C :: u => oldU u + 1
def newU : List U → Nat
  | [] => 0
  | .C :: u => newU u
  | .K :: u => newU u + 1
  | .A :: u => newU u + 1
theorem sw_old {u v : List U} (h : Sw u v) : oldU u = oldU v ∧ newU u = newU v := by
  induction h with
  | refl u => exact ⟨rfl, rfl⟩
  | cons x _ ih => cases x <;> simp [oldU, newU, ih.1, ih.2]
  | swap u => exact ⟨rfl, rfl⟩
  | symm _ ih => exact ⟨ih.1.symm, ih.2.symm⟩
  | trans _ _ a b => exact ⟨a.1.trans b.1, a.2.trans b.2⟩
/-! ### Rebasing -/
def pairU : List U → List U → List U × List U
  | .A :: p, q => (.A :: (pairU p q).1, .K :: (pairU p q).2)
  | p, .A :: q => (.K :: (pairU p q).1, .A :: (pairU p q).2)
  | .K :: p, .K :: q => (.K :: (pairU p q).1, .K :: (pairU p q).2)
  | .K :: p, .C :: q => ((pairU p q).1, .C :: (pairU p q).2)
  | .C :: p, .K :: q => (.C :: (pairU p q).1, (pairU p q).2)
  | .C :: p, .C :: q => pairU p q
  | _, _ => ([], [])
termination_by p q => p.length + q.length
theorem pairU_meets (n : Nat) : ∀ (p q : List U), p.length + q.length ≤ n → oldU p = oldU q →
    Sw (joinU p (pairU p q).2) (joinU q (pairU p q).1) ∧ oldU (pairU p q).2 = newU p ∧ oldU (pairU p q).1 = newU q ∧ newU (pairU p q).1 = newU (pairU p q).2 := by
  induction n with
  | zero =>
    intro p q hn _
    have h1 : p = [] := List.length_eq_zero_iff.1 (by omega)
    have h2 : q = [] := List.length_eq_zero_iff.1 (by omega)
    subst h1; subst h2
    simp [pairU, joinU, oldU, newU]
    exact .refl _
  | succ n ih =>
    intro p q hn h
    match p, q with
    | .A :: p, q =>
      obtain ⟨i1, i2, i3, i4⟩ := ih p q (by simp at hn; omega) (by simpa [oldU] using h)
      simp only [pairU, joinU, oldU, newU]
      exact ⟨.trans (.cons _ i1) (.symm (joinU_A _ _)), by omega, by omega, by omega⟩
    | [], .A :: q =>
      obtain ⟨i1, i2, i3, i4⟩ := ih [] q (by simp at hn; simp; omega) (by simpa [oldU] using h)
      simp only [pairU, joinU, oldU, newU] at i1 i2 i3 i4 ⊢
      exact ⟨.cons _ i1, by omega, by omega, by omega⟩
    | .K :: p, .A :: q =>
      obtain ⟨i1, i2, i3, i4⟩ := ih (.K :: p) q (by simp at hn ⊢; omega) (by simpa [oldU] using h)
      simp only [pairU, oldU, newU] at i1 i2 i3 i4 ⊢
      refine ⟨.trans (joinU_A _ _) ?_, by omega, by omega, by omega⟩
      simp only [joinU]
      exact .cons _ i1
    | .C :: p, .A :: q =>
      obtain ⟨i1, i2, i3, i4⟩ := ih (.C :: p) q (by simp at hn ⊢; omega) (by simpa [oldU] using h)
      simp only [pairU, oldU, newU] at i1 i2 i3 i4 ⊢
      refine ⟨.trans (joinU_A _ _) ?_, by omega, by omega, by omega⟩
      simp only [joinU] at i1 ⊢
      exact .cons _ i1
    | .K :: p, .K :: q =>
      obtain ⟨i1, i2, i3, i4⟩ := ih p q (by simp at hn; omega) (by simpa [oldU] using h)
      simp only [pairU, joinU, oldU, newU]
      exact ⟨.cons _ i1, by omega, by omega, by omega⟩
    | .K :: p, .C :: q =>
      obtain ⟨i1, i2, i3, i4⟩ := ih p q (by simp at hn; omega) (by simpa [oldU] using h)
      simp only [pairU, joinU, oldU, newU]
      exact ⟨.cons _ i1, by omega, by omega, by omega⟩
    | .C :: p, .K :: q =>
      obtain ⟨i1, i2, i3, i4⟩ := ih p q (by simp at hn; omega) (by simpa [oldU] using h)
      simp only [pairU, joinU, oldU, newU]
      exact ⟨.cons _ i1, by omega, by omega, by omega⟩
    | .C :: p, .C :: q =>
      obtain ⟨i1, i2, i3, i4⟩ := ih p q (by simp at hn; omega) (by simpa [oldU] using h)
      simp only [pairU, joinU, oldU, newU]
      exact ⟨.cons _ i1, by omega, by omega, by omega⟩
    | [], [] => simp [pairU, joinU, oldU, newU]; exact .refl _
    | [], .K :: q => simp [oldU] at h
    | [], .C :: q => simp [oldU] at h
    | .K :: p, [] => simp [oldU] at h
    | .C :: p, [] => simp [oldU] at h
end Go.Ch
end
section
set_option linter.unusedVariables false
set_option linter.unusedSimpArgs false
namespace Go.Ch
open Go Go.Ab

structure AxStep where
  kind : Int
  n : Int
instance : Inhabited AxStep := ⟨⟨0, 0⟩⟩
def stepT (s : AxStep) : Tree := .agg [.sc (.int .i64 s.kind), .sc (.int .i64 s.n)]
def uOf (k : Int) : U := if k = 1 then .A else if k = 2 then .C else .K
def ex : List AxStep → List U
  | [] => []
  | s :: l => rep s.n.toNat (uOf s.kind) ++ ex l
theorem ex_app (a b : List AxStep) : ex (a ++ b) = ex a ++ ex b := by
  induction a with
  | nil => rfl
  | cons s a ih => simp [ex, ih]
def Ok1 (s : AxStep) : Prop := 0 ≤ s.kind ∧ s.kind ≤ 2 ∧ 1 ≤ s.n
def Nx (s t : AxStep) : Prop := s.kind ≠ t.kind ∧ ¬ (s.kind = 2 ∧ t.kind = 1)
theorem ok1_mk {k n : Int} (h : 0 ≤ k ∧ k ≤ 2) (hn : 1 ≤ n) : Ok1 ⟨k, n⟩ := ⟨h.1, h.2, hn⟩
theorem nx_mk {s : AxStep} {k n : Int} (h : s.kind ≠ k) (h2 : ¬ (s.kind = 2 ∧ k = 1)) : Nx s ⟨k, n⟩ := ⟨h, h2⟩
def Form : List AxStep → Prop
  | [] => True
  | [s] => Ok1 s
  | s :: t :: l => Ok1 s ∧ Nx s t ∧ Form (t :: l)
theorem Form.head {s : AxStep} {l : List AxStep} (h : Form (s :: l)) : Ok1 s := by
  cases l with
  | nil => exact h
  | cons t l => exact h.1
theorem Form.tail {s : AxStep} {l : List AxStep} (h : Form (s :: l)) : Form l := by
  cases l with
  | nil => trivial
  | cons t l => exact h.2.2
theorem Form.all : ∀ {l : List AxStep}, Form l → ∀ s ∈ l, Ok1 s
  | [], _, s, h => by cases h
  | t :: l, h, s, hs => by
    rcases List.mem_cons.1 hs with rfl | hs
    · exact h.head
    · exact h.tail.all s hs
theorem form_snoc : ∀ {l : List AxStep} {s : AxStep}, Form l → Ok1 s → (∀ t, l.getLast? = some t → Nx t s) → Form (l ++ [s])
  | [], s, _, h, _ => h
  | [t], s, h1, h2, h3 => ⟨h1, h3 t rfl, h2⟩
  | t :: t' :: l, s, h1, h2, h3 => ⟨h1.1, h1.2.1, form_snoc (l := t' :: l) h1.2.2 h2 (fun x hx => h3 x (by simpa using hx))⟩
theorem form_last : ∀ {l : List AxStep} {s s' : AxStep}, Form (l ++ [s]) → s'.kind = s.kind → 1 ≤ s'.n → Form (l ++ [s'])
  | [], s, s', h, e, hn => ⟨by rw [e]; exact h.1, by rw [e]; exact h.2.1, hn⟩
  | [t], s, s', h, e, hn => ⟨h.1, by unfold Nx; rw [e]; exact h.2.1, by have := h.2.2; exact ⟨by rw [e]; exact this.1, by rw [e]; exact this.2.1, hn⟩⟩
  | t :: t' :: l, s, s', h, e, hn => ⟨h.1, h.2.1, form_last (l := t' :: l) h.2.2 e hn⟩

theorem rep_add (m n : Nat) (x : U) : rep (m + n) x = rep m x ++ rep n x := List.replicate_append_replicate.symm
/-! ### One form for each effect -/
def opt1 (k : Int) (n : Nat) : List AxStep := if n = 0 then [] else [⟨k, n⟩]
def rend (k : Nat) : List (Nat × Nat) → List AxStep
  | [] => opt1 0 k
  | (a, c) :: r => if a = 0 ∧ c = 0 then (if r = [] then opt1 0 k else rend (k + 1) r) else opt1 0 k ++ opt1 1 a ++ opt1 2 c ++ (if r = [] then [] else rend 1 r)
theorem beta_Ks (n : Nat) (u : List U) : beta (rep n .K ++ u) = List.replicate n (0, 0) ++ beta u := by
  induction n with
  | zero => rfl
  | succ n ih => rw [rep_succ, List.cons_append, beta, ih]; rfl
theorem beta_As (n : Nat) {u : List U} {a c : Nat} {r : List (Nat × Nat)} (h : beta u = (a, c) :: r) : beta (rep n .A ++ u) = (a + n, c) :: r := by
  induction n with
  | zero => exact h
  | succ n ih => rw [rep_succ, List.cons_append, beta, ih]; rfl
theorem beta_Cs (n : Nat) {u : List U} {a c : Nat} {r : List (Nat × Nat)} (h : beta u = (a, c) :: r) : beta (rep n .C ++ u) = (a, c + n) :: r := by
  induction n with
  | zero => exact h
  | succ n ih => rw [rep_succ, List.cons_append, beta, ih]; rfl
theorem rend_Ks (n k : Nat) (l : List (Nat × Nat)) (hl : l ≠ []) : rend k (List.replicate n (0, 0) ++ l) = rend (k + n) l := by
  induction n generalizing k with
  | zero => rfl
  | succ n ih =>
    have hne : List.replicate n (0, 0) ++ l ≠ [] := by simp [hl]
    rw [List.replicate_succ, List.cons_append, rend, if_pos ⟨rfl, rfl⟩, if_neg hne, ih]
    congr 1; omega
theorem uOf0 : uOf 0 = .K := rfl
theorem uOf1 : uOf 1 = .A := rfl
theorem uOf2 : uOf 2 = .C := rfl
theorem kinds {s : AxStep} (h : Ok1 s) : s.kind = 0 ∨ s.kind = 1 ∨ s.kind = 2 := by have := h.1; have := h.2.1; omega
theorem beta_head {l : List AxStep} (h : Form l) {a c : Nat} {r : List (Nat × Nat)} (e : beta (ex l) = (a, c) :: r) :
    (∀ s l', l = s :: l' → s.kind = 0 → a = 0 ∧ c = 0) ∧ (∀ s l', l = s :: l' → s.kind ≠ 1 → a = 0) ∧ (∀ s l', l = s :: l' → s.kind ≠ 0 → a ≠ 0 ∨ c ≠ 0) ∧ (l = [] → a = 0 ∧ c = 0 ∧ r = []) := by
  cases l with
  | nil => simp [ex, beta] at e; refine ⟨fun s l' h => (by cases h), fun s l' h => (by cases h), fun s l' h => (by cases h), fun _ => ⟨e.1.1.symm, e.1.2.symm, e.2⟩⟩
  | cons s l =>
    have ok := h.head
    obtain ⟨m, hm⟩ : ∃ m, s.n.toNat = m + 1 := ⟨s.n.toNat - 1, by have := ok.2.2; omega⟩
    obtain ⟨a', c', r', e'⟩ := beta_ne (ex l)
    simp only [ex] at e
    refine ⟨fun t l' h' hk => ?_, fun t l' h' hk => ?_, fun t l' h' hk => ?_, fun h' => by cases h'⟩
    · cases h'
      rw [hk, uOf0, hm, rep_succ, List.cons_append, beta] at e
      simp only [List.cons.injEq, Prod.mk.injEq] at e
      exact ⟨e.1.1.symm, e.1.2.symm⟩
    · cases h'
      rcases kinds ok with k0 | k1 | k2
      · rw [k0, uOf0, hm, rep_succ, List.cons_append, beta] at e
        simp only [List.cons.injEq, Prod.mk.injEq] at e
        exact e.1.1.symm
      · exact absurd k1 hk
      · rw [k2, uOf2, beta_Cs _ e'] at e
        simp only [List.cons.injEq, Prod.mk.injEq] at e
        rw [← e.1.1]
        cases l with
        | nil => simp [ex, beta] at e'; exact e'.1.1.symm
        | cons t l =>
          have nx := h.2.1
          have kt := kinds h.2.2.head
          have k0 : t.kind = 0 := by
            rcases kt with q | q | q
            · exact q
            · exact absurd ⟨k2, q⟩ nx.2
            · exact absurd (k2.trans q.symm) nx.1
          have okt := h.2.2.head
          obtain ⟨m', hm'⟩ : ∃ m', t.n.toNat = m' + 1 := ⟨t.n.toNat - 1, by have := okt.2.2; omega⟩
          simp only [ex] at e'
          rw [k0, uOf0, hm', rep_succ, List.cons_append, beta] at e'
          simp only [List.cons.injEq, Prod.mk.injEq] at e'
          exact e'.1.1.symm
    · cases h'
      rcases kinds ok with k0 | k1 | k2
      · exact absurd k0 hk
      · rw [k1, uOf1, beta_As _ e'] at e
        simp only [List.cons.injEq, Prod.mk.injEq] at e
        left; omega
      · rw [k2, uOf2, beta_Cs _ e'] at e
        simp only [List.cons.injEq, Prod.mk.injEq] at e
        right; omega
theorem rend_ex : ∀ {l : List AxStep}, Form l → rend 0 (beta (ex l)) = l ∧ ∀ k, 0 < k → (∀ s l', l = s :: l' → s.kind ≠ 0) → rend k (beta (ex l)) = ⟨0, k⟩ :: l
  | [], _ => ⟨rfl, fun k hk _ => by simp only [ex, beta, rend]; rw [if_pos ⟨trivial, trivial⟩, if_pos trivial, opt1, if_neg (by omega)]⟩
  | s :: l, h => by
    obtain ⟨i1, i2⟩ := rend_ex h.tail
    have ok := h.head
    have hn : (s.n.toNat : Int) = s.n := Int.toNat_of_nonneg (by have := ok.2.2; omega)
    have hn0 : s.n.toNat ≠ 0 := by have := ok.2.2; omega
    obtain ⟨a, c, r, e⟩ := beta_ne (ex l)
    obtain ⟨q1, q2, q3, q4⟩ := beta_head h.tail e
    obtain ⟨kd, n⟩ := s
    simp only [ex] at hn hn0 ⊢
    have main : kd ≠ 0 → ∀ k, rend k (beta (rep n.toNat (uOf kd) ++ ex l)) = opt1 0 k ++ ⟨kd, n⟩ :: l := by
      intro hk k
      rcases kinds ok with k0 | k1 | k2
      · exact absurd k0 hk
      · simp only at k1
        have ha : a = 0 := by
          cases l with
          | nil => exact (q4 rfl).1
          | cons t l => exact q2 t l rfl (fun ht => h.2.1.1 (by rw [ht, k1]))
        subst ha
        rw [k1, uOf1, beta_As _ e, rend, if_neg (by omega)]
        rw [e, rend] at i1
        rw [← i1]
        have e1 : opt1 1 (0 + n.toNat) = [⟨1, n⟩] := by rw [opt1, if_neg (by omega), Nat.zero_add, hn]
        rw [e1]
        by_cases hc : c = 0
        · subst hc
          cases r <;> simp [opt1]
        · simp [opt1, hc]
      · simp only at k2
        have hac : a = 0 ∧ c = 0 := by
          cases l with
          | nil => exact ⟨(q4 rfl).1, (q4 rfl).2.1⟩
          | cons t l =>
            refine q1 t l rfl ?_
            have nx := h.2.1
            rcases kinds h.2.2.head with q | q | q
            · exact q
            · exact absurd ⟨k2, q⟩ nx.2
            · exact absurd (k2.trans q.symm) nx.1
        obtain ⟨rfl, rfl⟩ := hac
        rw [k2, uOf2, beta_Cs _ e, rend, if_neg (by omega)]
        rw [e, rend, if_pos ⟨rfl, rfl⟩] at i1
        rw [← i1]
        have e1 : opt1 2 (0 + n.toNat) = [⟨2, n⟩] := by rw [opt1, if_neg (by omega), Nat.zero_add, hn]
        rw [e1]
        cases r with
        | nil => simp [opt1]
        | cons x r => simp [opt1]
    refine ⟨?_, fun k hk hs => ?_⟩
    · by_cases k0 : kd = 0
      · subst k0
        rw [uOf0, beta_Ks, rend_Ks _ _ _ (by rw [e]; simp)]
        have := i2 (0 + n.toNat) (by omega) (fun t l' ht => by subst ht; exact fun hk => h.2.1.1 hk.symm)
        rw [this, Nat.zero_add, hn]
      · rw [main k0]; rfl
    · rw [main (hs _ _ rfl), opt1, if_neg (by omega)]; rfl
/-- Two lists in the form of a change that do the same are equal. -/
theorem form_unique {a b : List AxStep} (ha : Form a) (hb : Form b) (h : Sw (ex a) (ex b)) : a = b := by
  rw [← (rend_ex ha).1, ← (rend_ex hb).1, beta_sw h]

/-! ### The writer -/
structure Wr where
  out : List AxStep
  add : Int
  cut : Int
def flushW (w : Wr) : List AxStep := w.out ++ (if 0 < w.add then [⟨1, w.add⟩] else []) ++ (if 0 < w.cut then [⟨2, w.cut⟩] else [])
def keepW (l : List AxStep) (n : Int) : List AxStep :=
  if 0 < l.length ∧ (l.getD (l.length - 1) default).kind = 0 then l.set (l.length - 1) ⟨(l.getD (l.length - 1) default).kind, (l.getD (l.length - 1) default).n + n⟩ else l ++ [⟨0, n⟩]
def putW (w : Wr) (k n : Int) : Wr :=
  if n = 0 then w else if k = 1 then ⟨w.out, w.add + n, w.cut⟩ else if k = 2 then ⟨w.out, w.add, w.cut + n⟩ else ⟨keepW (flushW w) n, 0, 0⟩
def exW (w : Wr) : List U := ex w.out ++ (rep w.add.toNat .A ++ rep w.cut.toNat .C)
structure GoodW (w : Wr) : Prop where
  form : Form w.out
  last : ∀ t, w.out.getLast? = some t → t.kind = 0
  add : 0 ≤ w.add
  cut : 0 ≤ w.cut
theorem flushW_ex {w : Wr} (h : GoodW w) : ex (flushW w) = exW w := by
  have h1 := h.add
  have h2 := h.cut
  unfold flushW exW
  rw [ex_app, ex_app, List.append_assoc]
  congr 2
  · split
    · simp [ex, uOf]
    · rw [show w.add.toNat = 0 by omega]; rfl
  · split
    · simp [ex, uOf]
    · rw [show w.cut.toNat = 0 by omega]; rfl
theorem flushW_form {w : Wr} (h : GoodW w) : Form (flushW w) := by
  have h1 := h.add
  have h2 := h.cut
  unfold flushW
  by_cases ha : 0 < w.add
  · rw [if_pos ha]
    have f1 : Form (w.out ++ [⟨1, w.add⟩]) := form_snoc h.form (ok1_mk (by omega) (by omega)) (fun t ht => by
      have := h.last t ht
      exact nx_mk (by omega) (by omega))
    by_cases hc : 0 < w.cut
    · rw [if_pos hc]
      refine form_snoc f1 (ok1_mk (by omega) (by omega)) (fun t ht => ?_)
      rw [List.getLast?_concat] at ht
      cases ht
      exact nx_mk (by show (1 : Int) ≠ 2; decide) (by show ¬ ((1 : Int) = 2 ∧ (2 : Int) = 1); decide)
    · rw [if_neg hc, List.append_nil]; exact f1
  · rw [if_neg ha, List.append_nil]
    by_cases hc : 0 < w.cut
    · rw [if_pos hc]
      refine form_snoc h.form (ok1_mk (by omega) (by omega)) (fun t ht => ?_)
      have := h.last t ht
      exact nx_mk (by omega) (by omega)
    · rw [if_neg hc, List.append_nil]; exact h.form
theorem last_getD {l : List AxStep} (h : 0 < l.length) : l = l.take (l.length - 1) ++ [l.getD (l.length - 1) default] := by
  conv => lhs; rw [← List.take_append_drop (l.length - 1) l]
  congr 1
  rw [List.drop_eq_getElem_cons (by omega), List.drop_eq_nil_of_le (by omega)]
  simp [List.getD, List.getElem?_eq_getElem (show l.length - 1 < l.length by omega)]
theorem set_last {l : List AxStep} (h : 0 < l.length) (s : AxStep) : l.set (l.length - 1) s = l.take (l.length - 1) ++ [s] := by
  rw [List.set_eq_take_append_cons_drop, if_pos (by omega), List.drop_eq_nil_of_le (by omega)]
theorem getLast_getD {l : List AxStep} (h : 0 < l.length) : l.getLast? = some (l.getD (l.length - 1) default) := by
  conv => lhs; rw [last_getD h]
  rw [List.getLast?_concat]
theorem keepW_ok {l : List AxStep} {n : Int} (hf : Form l) (hn : 1 ≤ n) : Form (keepW l n) ∧ (∀ t, (keepW l n).getLast? = some t → t.kind = 0) ∧ ex (keepW l n) = ex l ++ rep n.toNat .K := by
  unfold keepW
  split
  · rename_i hc
    obtain ⟨h0, hk⟩ := hc
    generalize hx : l.getD (l.length - 1) default = x at hk ⊢
    have hl := last_getD h0
    rw [hx] at hl
    rw [set_last h0]
    have hox : Ok1 x := hf.all x (by rw [hl]; simp)
    refine ⟨form_last (s := x) (by rw [← hl]; exact hf) rfl (by have := hox.2.2; simp only; omega), fun t ht => ?_, ?_⟩
    · rw [List.getLast?_concat] at ht; cases ht; exact hk
    · conv => rhs; rw [hl]
      rw [ex_app, ex_app, List.append_assoc]
      congr 1
      simp only [ex, List.append_nil]
      rw [hk, uOf0, show (x.n + n).toNat = x.n.toNat + n.toNat by have := hox.2.2; omega]
      exact List.replicate_append_replicate.symm
  · rename_i hc
    refine ⟨form_snoc hf (ok1_mk (by decide) hn) (fun t ht => ?_), fun t ht => ?_, by rw [ex_app]; simp [ex, uOf]⟩
    · have h0 : 0 < l.length := by
        rcases l with _ | ⟨y, l⟩
        · cases ht
        · simp
      rw [getLast_getD h0] at ht
      cases ht
      exact nx_mk (fun hh => hc ⟨h0, hh⟩) (by omega)
    · rw [List.getLast?_concat] at ht; cases ht; rfl
theorem putW_ok {w : Wr} {k n : Int} (h : GoodW w) (hk : 0 ≤ k ∧ k ≤ 2) (hn : 0 ≤ n) : GoodW (putW w k n) ∧ Sw (exW (putW w k n)) (exW w ++ rep n.toNat (uOf k)) ∧ (exW (putW w k n)).length = (exW w).length + n.toNat := by
  have h1 := h.add
  have h2 := h.cut
  unfold putW
  by_cases n0 : n = 0
  · subst n0
    rw [if_pos rfl]
    exact ⟨h, by simp; exact .refl _, by simp⟩
  · rw [if_neg n0]
    by_cases k1 : k = 1
    · subst k1
      rw [if_pos rfl]
      refine ⟨⟨h.form, h.last, by simp only; omega, h2⟩, ?_, ?_⟩
      · unfold exW
        simp only
        rw [show (w.add + n).toNat = w.add.toNat + n.toNat by omega, rep_add, uOf1]
        simp only [List.append_assoc]
        refine .left _ (.left _ ?_)
        have := sw_Cs_As w.cut.toNat n.toNat []
        simp only [List.append_nil] at this
        exact .symm this
      · unfold exW
        simp only [List.length_append, List.length_replicate]
        omega
    · rw [if_neg k1]
      by_cases k2 : k = 2
      · subst k2
        rw [if_pos rfl]
        refine ⟨⟨h.form, h.last, h1, by simp only; omega⟩, ?_, ?_⟩
        · unfold exW
          simp only
          rw [show (w.cut + n).toNat = w.cut.toNat + n.toNat by omega, rep_add, uOf2]
          simp only [List.append_assoc]
          exact .refl _
        · unfold exW
          simp only [List.length_append, List.length_replicate]
          omega
      · rw [if_neg k2]
        have k0 : k = 0 := by omega
        subst k0
        obtain ⟨q1, q2, q3⟩ := keepW_ok (flushW_form h) (n := n) (by omega)
        rw [flushW_ex h] at q3
        have e : exW ⟨keepW (flushW w) n, 0, 0⟩ = exW w ++ rep n.toNat .K := by
          rw [← q3]; simp [exW]
        refine ⟨⟨q1, q2, Int.le_refl _, Int.le_refl _⟩, ?_, ?_⟩
        · rw [e]; exact .refl _
        · rw [e]; simp
/-- Puts one unit after the other. -/
def kOf : U → Int
  | .K => 0
  | .A => 1
  | .C => 2
theorem uOf_kOf (u : U) : uOf (kOf u) = u := by cases u <;> rfl
theorem kOf_ok (u : U) : 0 ≤ kOf u ∧ kOf u ≤ 2 := by cases u <;> decide
def foldW (w : Wr) : List U → Wr
  | [] => w
  | u :: us => foldW (putW w (kOf u) 1) us
theorem foldW_app (w : Wr) (a b : List U) : foldW w (a ++ b) = foldW (foldW w a) b := by
  induction a generalizing w with
  | nil => rfl
  | cons u a ih => exact ih _
theorem foldW_ok {w : Wr} (h : GoodW w) (us : List U) : GoodW (foldW w us) ∧ Sw (exW (foldW w us)) (exW w ++ us) := by
  induction us generalizing w with
  | nil => simp [foldW]; exact ⟨h, .refl _⟩
  | cons u us ih =>
    obtain ⟨a, b, _⟩ := putW_ok (n := 1) h (kOf_ok u) (by decide)
    obtain ⟨c, d⟩ := ih a
    refine ⟨c, .trans d ?_⟩
    rw [uOf_kOf] at b
    have := Sw.right us b
    simpa using this
theorem flushW_nil (l : List AxStep) : flushW ⟨l, 0, 0⟩ = l := by simp [flushW]
theorem keepW_keepW {l : List AxStep} {m n : Int} : keepW (keepW l m) n = keepW l (m + n) := by
  unfold keepW
  by_cases hc : 0 < l.length ∧ (l.getD (l.length - 1) default).kind = 0
  · rw [if_pos hc, if_pos hc]
    have hl : (l.set (l.length - 1) ⟨(l.getD (l.length - 1) default).kind, (l.getD (l.length - 1) default).n + m⟩).length = l.length := by simp
    have hg : (l.set (l.length - 1) ⟨(l.getD (l.length - 1) default).kind, (l.getD (l.length - 1) default).n + m⟩).getD (l.length - 1) default = ⟨(l.getD (l.length - 1) default).kind, (l.getD (l.length - 1) default).n + m⟩ := by
      have h0 : l.length - 1 < l.length := by omega
      simp [List.getD, h0]
    rw [hl, hg, if_pos ⟨hc.1, hc.2⟩, List.set_set]
    simp only
    congr 2; omega
  · rw [if_neg hc, if_neg hc]
    have hl : (l ++ [(⟨0, m⟩ : AxStep)]).length = l.length + 1 := by simp
    have hg : (l ++ [(⟨0, m⟩ : AxStep)]).getD (l.length + 1 - 1) default = ⟨0, m⟩ := by simp
    rw [hl, hg, if_pos ⟨by omega, rfl⟩]
    simp [List.set_append_right]
theorem putW_A (w : Wr) (n : Int) : putW w 1 n = ⟨w.out, w.add + n, w.cut⟩ := by
  unfold putW
  by_cases h : n = 0
  · rw [if_pos h, h, Int.add_zero]
  · rw [if_neg h]; rfl
theorem putW_C (w : Wr) (n : Int) : putW w 2 n = ⟨w.out, w.add, w.cut + n⟩ := by
  unfold putW
  by_cases h : n = 0
  · rw [if_pos h, h, Int.add_zero]
  · rw [if_neg h]; rfl
theorem putW_K (w : Wr) {n : Int} (h : n ≠ 0) : putW w 0 n = ⟨keepW (flushW w) n, 0, 0⟩ := by
  unfold putW
  rw [if_neg h]; rfl
/-- Many units of one kind at once. -/
theorem putW_rep (w : Wr) (x : U) (m : Nat) : foldW w (rep m x) = putW w (kOf x) m := by
  have one : ∀ m : Nat, putW (putW w (kOf x) (m : Int)) (kOf x) 1 = putW w (kOf x) ((m + 1 : Nat) : Int) := by
    intro m
    cases x with
    | A => simp only [kOf, putW_A, Wr.mk.injEq, true_and, and_true]; omega
    | C => simp only [kOf, putW_C, Wr.mk.injEq, true_and, and_true]; omega
    | K =>
      by_cases h0 : m = 0
      · subst h0; simp [putW]
      · simp only [kOf]
        rw [putW_K w (by omega : (m : Int) ≠ 0), putW_K _ (by decide : (1 : Int) ≠ 0), putW_K w (by omega : ((m + 1 : Nat) : Int) ≠ 0), flushW_nil, keepW_keepW]
        congr 2
  induction m with
  | zero => simp [foldW, putW]
  | succ m ih =>
    rw [show rep (m + 1) x = rep m x ++ [x] from List.replicate_succ', foldW_app, ih]
    exact one m
def doneW (us : List U) : List AxStep := flushW (foldW ⟨[], 0, 0⟩ us)
theorem good0 : GoodW ⟨[], 0, 0⟩ := ⟨trivial, fun t ht => (by cases ht), Int.le_refl _, Int.le_refl _⟩
theorem doneW_ok (us : List U) : Form (doneW us) ∧ Sw (ex (doneW us)) us := by
  obtain ⟨a, b⟩ := foldW_ok good0 us
  exact ⟨flushW_form a, by unfold doneW; rw [flushW_ex a]; exact .trans b (by simp [exW, ex]; exact .refl _)⟩
end Go.Ch
end
section
set_option linter.unusedVariables false
set_option linter.unusedSimpArgs false
namespace Go.Ch
open Go Go.Ab

/-! ### The check -/
def chkX (l : List AxStep) (i : Nat) (b a : Int) : Int :=
  if i < l.length then
    if (l.getD i default).kind < 0 ∨ 2 < (l.getD i default).kind then 8
    else if (l.getD i default).n < 1 ∨ 2147483647 < (l.getD i default).n then 2
    else if 0 < i ∧ ((l.getD (i - 1) default).kind = (l.getD i default).kind ∨ ((l.getD (i - 1) default).kind = 2 ∧ (l.getD i default).kind = 1)) then 5
    else chkX l (i + 1) (if (l.getD i default).kind ≠ 1 then min (b + (l.getD i default).n) 2147483648 else b) (if (l.getD i default).kind ≠ 2 then min (a + (l.getD i default).n) 2147483648 else a)
  else if 2147483647 < b ∨ 2147483647 < a then 3 else 0
termination_by l.length - i
def checkX (l : List AxStep) : Int := chkX l 0 0 0
def FormAt (l : List AxStep) (i : Nat) : Prop := ∀ k, i ≤ k → k < l.length → Ok1 (l.getD k default) ∧ (0 < k → Nx (l.getD (k - 1) default) (l.getD k default))
theorem drop_ats {l : List AxStep} {i : Nat} (h : i < l.length) : l.drop i = l.getD i default :: l.drop (i + 1) := by
  rw [List.drop_eq_getElem_cons h]; simp [List.getD, List.getElem?_eq_getElem h]
theorem drop_ends {l : List AxStep} {i : Nat} (h : ¬ i < l.length) : l.drop i = [] := List.drop_eq_nil_of_le (by omega)
theorem old_K (n : Nat) (u : List U) : oldU (rep n .K ++ u) = n + oldU u := by
  induction n with
  | zero => simp
  | succ n ih => rw [rep_succ, List.cons_append, oldU, ih]; omega
theorem old_A (n : Nat) (u : List U) : oldU (rep n .A ++ u) = oldU u := by
  induction n with
  | zero => simp
  | succ n ih => rw [rep_succ, List.cons_append, oldU, ih]
theorem old_C (n : Nat) (u : List U) : oldU (rep n .C ++ u) = n + oldU u := by
  induction n with
  | zero => simp
  | succ n ih => rw [rep_succ, List.cons_append, oldU, ih]; omega
theorem new_K (n : Nat) (u : List U) : newU (rep n .K ++ u) = n + newU u := by
  induction n with
  | zero => simp
  | succ n ih => rw [rep_succ, List.cons_append, newU, ih]; omega
theorem new_A (n : Nat) (u : List U) : newU (rep n .A ++ u) = n + newU u := by
  induction n with
  | zero => simp
  | succ n ih => rw [rep_succ, List.cons_append, newU, ih]; omega
theorem new_C (n : Nat) (u : List U) : newU (rep n .C ++ u) = newU u := by
  induction n with
  | zero => simp
  | succ n ih => rw [rep_succ, List.cons_append, newU, ih]
theorem old_rep (n : Nat) (k : Int) (u : List U) : (oldU (rep n (uOf k) ++ u) : Int) = (if k = 1 then (0 : Int) else (n : Int)) + oldU u := by
  unfold uOf
  by_cases h1 : k = 1
  · rw [if_pos h1, if_pos h1, old_A]; omega
  · rw [if_neg h1, if_neg h1]
    by_cases h2 : k = 2
    · rw [if_pos h2, old_C]; omega
    · rw [if_neg h2, old_K]; omega
theorem new_rep (n : Nat) (k : Int) (u : List U) : (newU (rep n (uOf k) ++ u) : Int) = (if k = 2 then (0 : Int) else (n : Int)) + newU u := by
  unfold uOf
  by_cases h1 : k = 1
  · rw [if_pos h1, new_A, if_neg (by omega)]; omega
  · rw [if_neg h1]
    by_cases h2 : k = 2
    · rw [if_pos h2, if_pos h2, new_C]; omega
    · rw [if_neg h2, if_neg h2, new_K]; omega
theorem chkX_all (l : List AxStep) : ∀ (m i : Nat) (b a : Int), l.length - i = m → 0 ≤ b → 0 ≤ a → b ≤ 2147483648 → a ≤ 2147483648 →
    (chkX l i b a = 0 ↔ FormAt l i ∧ b + oldU (ex (l.drop i)) ≤ 2147483647 ∧ a + newU (ex (l.drop i)) ≤ 2147483647)
  | 0, i, b, a, h, hb, ha, hb2, ha2 => by
    rw [chkX, if_neg (by omega), drop_ends (by omega)]
    simp only [ex, oldU, newU]
    split
    · constructor
      · intro h; omega
      · rintro ⟨_, h1, h2⟩; omega
    · exact ⟨fun _ => ⟨fun k h1 h2 => by omega, by omega, by omega⟩, fun _ => rfl⟩
  | m + 1, i, b, a, h, hb, ha, hb2, ha2 => by
    have hi : i < l.length := by omega
    rw [chkX, if_pos hi]
    have step : FormAt l i ↔ (Ok1 (l.getD i default) ∧ (0 < i → Nx (l.getD (i - 1) default) (l.getD i default))) ∧ FormAt l (i + 1) := by
      constructor
      · exact fun h => ⟨h i (Nat.le_refl _) hi, fun k h1 h2 => h k (by omega) h2⟩
      · rintro ⟨h1, h2⟩ k h3 h4
        by_cases e : k = i
        · subst e; exact h1
        · exact h2 k (by omega) h4
    rw [step, drop_ats hi]
    simp only [ex]
    rw [old_rep, new_rep]
    have ih := fun b' a' => chkX_all l m (i + 1) b' a' (by omega)
    generalize l.getD i default = x at *
    generalize l.getD (i - 1) default = y at *
    unfold Ok1 Nx
    by_cases c1 : x.kind < 0 ∨ 2 < x.kind
    · rw [if_pos c1]; constructor
      · intro h; omega
      · rintro ⟨⟨⟨h, _⟩, _⟩, _⟩; omega
    rw [if_neg c1]
    have n0 : (oldU (ex (l.drop (i + 1))) : Int) ≥ 0 := Int.natCast_nonneg _
    have n1 : (newU (ex (l.drop (i + 1))) : Int) ≥ 0 := Int.natCast_nonneg _
    by_cases c2 : x.n < 1 ∨ 2147483647 < x.n
    · rw [if_pos c2]; constructor
      · intro h; omega
      · rintro ⟨⟨⟨h, _⟩, _⟩, h1, h2⟩
        exfalso
        by_cases k1 : x.kind = 1
        · rw [if_neg (by omega)] at h2; omega
        · rw [if_neg k1] at h1; omega
    rw [if_neg c2]
    have hn : (x.n.toNat : Int) = x.n := Int.toNat_of_nonneg (by omega)
    rw [hn]
    by_cases c3 : 0 < i ∧ (y.kind = x.kind ∨ (y.kind = 2 ∧ x.kind = 1))
    · rw [if_pos c3]; constructor
      · intro h; omega
      · rintro ⟨⟨⟨_, h⟩, _⟩, _⟩
        have := h c3.1
        rcases c3.2 with q | q
        · exact absurd q this.1
        · exact absurd q this.2
    rw [if_neg c3, ih _ _ (by split <;> omega) (by split <;> omega) (by split <;> omega) (by split <;> omega)]
    constructor
    · rintro ⟨f, h1, h2⟩
      refine ⟨⟨⟨⟨by omega, by omega, by omega⟩, fun h0 => ⟨fun e => c3 ⟨h0, .inl e⟩, fun e => c3 ⟨h0, .inr e⟩⟩⟩, f⟩, ?_, ?_⟩
      · by_cases k1 : x.kind = 1
        · rw [if_pos k1]; rw [if_neg (by omega)] at h1; omega
        · rw [if_neg k1]; rw [if_pos k1] at h1; omega
      · by_cases k1 : x.kind = 2
        · rw [if_pos k1]; rw [if_neg (by omega)] at h2; omega
        · rw [if_neg k1]; rw [if_pos k1] at h2; omega
    · rintro ⟨⟨_, f⟩, h1, h2⟩
      refine ⟨f, ?_, ?_⟩
      · by_cases k1 : x.kind = 1
        · rw [if_pos k1] at h1; rw [if_neg (by omega)]; omega
        · rw [if_neg k1] at h1; rw [if_pos k1]; omega
      · by_cases k1 : x.kind = 2
        · rw [if_pos k1] at h2; rw [if_neg (by omega)]; omega
        · rw [if_neg k1] at h2; rw [if_pos k1]; omega
theorem form_of_at : ∀ {l : List AxStep}, FormAt l 0 → Form l
  | [], _ => trivial
  | [s], h => (h 0 (Nat.le_refl _) (by simp)).1
  | s :: t :: l, h => by
    have h0 := h 0 (Nat.le_refl _) (by simp)
    have h1 := h 1 (by omega) (by simp)
    refine ⟨h0.1, h1.2 (by omega), form_of_at (l := t :: l) (fun k _ hk => ?_)⟩
    have := h (k + 1) (by omega) (by simp at hk ⊢; omega)
    refine ⟨by simpa using this.1, fun hk0 => ?_⟩
    obtain ⟨m, rfl⟩ : ∃ m, k = m + 1 := ⟨k - 1, by omega⟩
    simpa using this.2 (by omega)
theorem at_of_form : ∀ {l : List AxStep}, Form l → FormAt l 0
  | [], _ => fun k _ hk => by simp at hk
  | s :: l, h => by
    have ih := at_of_form h.tail
    intro k _ hk
    cases k with
    | zero => exact ⟨h.head, fun h => absurd h (by decide)⟩
    | succ k =>
      have := ih k (by omega) (by simpa using hk)
      refine ⟨by simpa using this.1, fun _ => ?_⟩
      cases k with
      | zero =>
        cases l with
        | nil => simp at hk
        | cons t l => exact h.2.1
      | succ k => simpa using this.2 (by omega)
def Valid (l : List AxStep) : Prop := Form l ∧ oldU (ex l) ≤ 2147483647 ∧ newU (ex l) ≤ 2147483647
theorem check_iff {l : List AxStep} : checkX l = 0 ↔ Valid l := by
  unfold checkX Valid
  rw [chkX_all l _ 0 0 0 rfl (by decide) (by decide) (by decide) (by decide), List.drop_zero]
  constructor
  · rintro ⟨a, b, c⟩; exact ⟨form_of_at a, by omega, by omega⟩
  · rintro ⟨a, b, c⟩; exact ⟨at_of_form a, by omega, by omega⟩
theorem ex_len (l : List AxStep) : (ex l).length ≤ oldU (ex l) + newU (ex l) := by
  generalize ex l = u
  induction u with
  | nil => simp
  | cons x u ih => cases x <;> simp only [oldU, newU, List.length_cons] <;> omega
theorem ex_len' {l : List AxStep} (h : Form l) : l.length ≤ (ex l).length := by
  induction l with
  | nil => simp
  | cons s l ih =>
    have := ih h.tail
    have := h.head.2.2
    simp only [ex, List.length_cons, List.length_append, List.length_replicate]
    omega
theorem n_le {l : List AxStep} {s : AxStep} (h : s ∈ l) : s.n ≤ ((ex l).length : Int) := by
  induction l with
  | nil => cases h
  | cons t l ih =>
    simp only [ex, List.length_append, List.length_replicate]
    rcases List.mem_cons.1 h with rfl | h
    · omega
    · have := ih h; omega

/-! ### Readers -/
def ru (l : List AxStep) (u : Int) : List U := (ex l).drop u.toNat
structure GoodR (l : List AxStep) (u : Int) : Prop where
  form : Form l
  pos : 0 ≤ u
  nil : l.length = 0 → u = 0
  lt : 0 < l.length → u < (l.getD 0 default).n
theorem good_r {l : List AxStep} (h : Form l) : GoodR l 0 := ⟨h, Int.le_refl _, fun _ => rfl, fun h0 => by
  have := (at_of_form h) 0 (Nat.le_refl _) h0
  have := this.1.2.2
  omega⟩
theorem ru0 (l : List AxStep) : ru l 0 = ex l := rfl
theorem ru_nil {l : List AxStep} {u : Int} (h : l.length = 0) : ru l u = [] := by
  have : l = [] := List.length_eq_zero_iff.1 h
  subst this; simp [ru, ex]
theorem ru_cons {l : List AxStep} {u : Int} (h : GoodR l u) (h0 : 0 < l.length) :
    ru l u = rep ((l.getD 0 default).n - u).toNat (uOf (l.getD 0 default).kind) ++ ex (l.drop 1) := by
  have h1 := h.lt h0
  have h2 := h.pos
  cases l with
  | nil => simp at h0
  | cons s l =>
    simp only [List.getD_cons_zero] at h1 ⊢
    unfold ru
    rw [ex, List.drop_append_of_le_length (by simp; omega), List.drop_replicate]
    congr 2
    omega
theorem GoodR.ok {l : List AxStep} {u : Int} (h : GoodR l u) (h0 : 0 < l.length) : Ok1 (l.getD 0 default) := ((at_of_form h.form) 0 (Nat.le_refl _) h0).1
theorem GoodR.take {l : List AxStep} {u n : Int} (h : GoodR l u) (h0 : 0 < l.length) (hn : 0 ≤ n) (hl : n ≤ (l.getD 0 default).n - u) :
    (u + n = (l.getD 0 default).n → GoodR (l.drop 1) 0 ∧ rep n.toNat (uOf (l.getD 0 default).kind) ++ ru (l.drop 1) 0 = ru l u) ∧
    (u + n ≠ (l.getD 0 default).n → GoodR l (u + n) ∧ rep n.toNat (uOf (l.getD 0 default).kind) ++ ru l (u + n) = ru l u) := by
  have h1 := h.lt h0
  have h2 := h.pos
  constructor
  · intro e
    refine ⟨good_r ?_, ?_⟩
    · cases l with
      | nil => trivial
      | cons s l => exact h.form.tail
    · rw [ru_cons h h0, ru0]
      congr 2
      omega
  · intro e
    have g : GoodR l (u + n) := ⟨h.form, by omega, fun hh => by omega, fun _ => by omega⟩
    refine ⟨g, ?_⟩
    rw [ru_cons h h0, ru_cons g h0, ← List.append_assoc, ← rep_add]
    congr 2
    omega
/-! ### Run by run -/
theorem jc_C (n : Nat) (p q : List U) : joinU (rep n .C ++ p) q = rep n .C ++ joinU p q := by
  induction n with
  | zero => rfl
  | succ n ih => rw [rep_succ, List.cons_append, joinU, ih]; rfl
/-- Nothing, or not a cut first. -/
def NoC : List U → Prop
  | .C :: _ => False
  | _ => True
theorem jc_A (n : Nat) {p : List U} (hp : NoC p) (q : List U) : joinU p (rep n .A ++ q) = rep n .A ++ joinU p q := by
  induction n with
  | zero => rfl
  | succ n ih =>
    rw [rep_succ, List.cons_append, List.cons_append, ← ih]
    cases p with
    | nil => simp only [joinU]
    | cons x p => cases x with
      | C => exact hp.elim
      | K => simp only [joinU]
      | A => simp only [joinU]
theorem jc_K (n : Nat) (k : Int) (hk : k ≠ 1) (p q : List U) : joinU (rep n .K ++ p) (rep n (uOf k) ++ q) = rep n (uOf k) ++ joinU p q := by
  induction n with
  | zero => rfl
  | succ n ih =>
    rw [rep_succ, rep_succ, List.cons_append, List.cons_append, List.cons_append, ← ih]
    unfold uOf
    rw [if_neg hk]
    split <;> simp only [joinU]
theorem jc_AK (n : Nat) (p q : List U) : joinU (rep n .A ++ p) (rep n .K ++ q) = rep n .A ++ joinU p q := by
  induction n with
  | zero => rfl
  | succ n ih => rw [rep_succ, rep_succ, List.cons_append, List.cons_append, List.cons_append, ← ih]; simp only [joinU]
theorem jc_AC (n : Nat) (p q : List U) : joinU (rep n .A ++ p) (rep n .C ++ q) = joinU p q := by
  induction n with
  | zero => rfl
  | succ n ih => rw [rep_succ, rep_succ, List.cons_append, List.cons_append, joinU, ih]
theorem noC_ru {l : List AxStep} {u : Int} (h : GoodR l u) (hk : 0 < l.length → (l.getD 0 default).kind ≠ 2) : NoC (ru l u) := by
  by_cases h0 : 0 < l.length
  · have h1 := h.lt h0
    obtain ⟨m, hm⟩ : ∃ m, ((l.getD 0 default).n - u).toNat = m + 1 := ⟨((l.getD 0 default).n - u).toNat - 1, by omega⟩
    rw [ru_cons h h0, hm, rep_succ, List.cons_append]
    unfold uOf
    split
    · trivial
    · rw [if_neg (hk h0)]; trivial
  · rw [ru_nil (by omega)]; trivial
theorem pc_A (n : Nat) (p q : List U) : pairU (rep n .A ++ p) q = (rep n .A ++ (pairU p q).1, rep n .K ++ (pairU p q).2) := by
  induction n with
  | zero => rfl
  | succ n ih => rw [rep_succ, List.cons_append, pairU, ih]; rfl
def NoA : List U → Prop
  | .A :: _ => False
  | _ => True
theorem pc_B (n : Nat) {p : List U} (hp : NoA p) (q : List U) : pairU p (rep n .A ++ q) = (rep n .K ++ (pairU p q).1, rep n .A ++ (pairU p q).2) := by
  induction n with
  | zero => rfl
  | succ n ih =>
    rw [rep_succ, List.cons_append]
    cases p with
    | nil => simp only [pairU]; rw [ih]; rfl
    | cons x p => cases x with
      | A => exact hp.elim
      | K => simp only [pairU]; rw [ih]; rfl
      | C => simp only [pairU]; rw [ih]; rfl
theorem pc_XX (n : Nat) (s t : Int) (hs : s ≠ 1) (ht : t ≠ 1) (p q : List U) : pairU (rep n (uOf s) ++ p) (rep n (uOf t) ++ q) =
    ((if t = 2 then [] else rep n (uOf s)) ++ (pairU p q).1, (if s = 2 then [] else rep n (uOf t)) ++ (pairU p q).2) := by
  induction n with
  | zero => simp
  | succ n ih =>
    rw [rep_succ, rep_succ, List.cons_append, List.cons_append]
    unfold uOf at *
    rw [if_neg hs, if_neg ht] at *
    by_cases h2 : s = 2 <;> by_cases h3 : t = 2 <;> simp only [h2, h3, if_true, if_false, pairU, rep_succ, List.cons_append, List.nil_append] at ih ⊢ <;> simp [ih]
theorem noA_ru {l : List AxStep} {u : Int} (h : GoodR l u) (hk : 0 < l.length → (l.getD 0 default).kind ≠ 1) : NoA (ru l u) := by
  by_cases h0 : 0 < l.length
  · have h1 := h.lt h0
    obtain ⟨m, hm⟩ : ∃ m, ((l.getD 0 default).n - u).toNat = m + 1 := ⟨((l.getD 0 default).n - u).toNat - 1, by omega⟩
    rw [ru_cons h h0, hm, rep_succ, List.cons_append]
    unfold uOf
    rw [if_neg (hk h0)]
    split <;> trivial
  · rw [ru_nil (by omega)]; trivial
theorem putI {w : Wr} {k n : Int} (hk : 0 ≤ k ∧ k ≤ 2) (hn : 0 ≤ n) : foldW w (rep n.toNat (uOf k)) = putW w k n := by
  rw [putW_rep, Int.toNat_of_nonneg hn]
  congr 1
  unfold uOf
  split
  · rename_i h; rw [h]; rfl
  · split
    · rename_i h; rw [h]; rfl
    · show (0 : Int) = k; omega
end Go.Ch
end
