/- What the printed proofs use: regions with a tidy state, ends, lemmas on conditions, tactics. -/
import Derived.Test.YtbdbibmbfmlobaaAbMore
import Derived.KernelRfl
set_option linter.unusedVariables false
namespace Go.Ab
variable {P : Program} {w : World} {F : Nat → Prop} {S st : Store} {m : Place}
variable {n : Nat} {l0 : List (Nat × Ob)} {s : St} {Q : Exit → St → Prop}

def runN (P : Program) (n : Nat) (l0 : List (Nat × Ob)) (ops : List Oper) (draw : Bool) (orcs : List (Nat × Orc)) (keys : List Nat) (τ : List (Nat × Nat)) (nx : Nat) (s : St) : Option (List (Nat × AVal) × List (Nat × Ob) × List Prop) :=
  match runR P n ops draw orcs keys s with
  | some (s', C) => match renSt l0 τ keys nx s' with
    | some (sl, l) => some (sl, l, C)
    | none => none
  | none => none
theorem runN_some {ops : List Oper} {draw : Bool} {orcs : List (Nat × Orc)} {keys : List Nat} {τ : List (Nat × Nat)} {nx : Nat} {sl : List (Nat × AVal)} {l : List (Nat × Ob)} {C : List Prop} (h : runN P n l0 ops draw orcs keys τ nx s = some (sl, l, C)) :
    ∃ s', runR P n ops draw orcs keys s = some (s', C) ∧ renSt l0 τ keys nx s' = some (sl, l) := by
  unfold runN at h
  split at h
  · rename_i s' C' h1
    split at h
    · rename_i sl' l' h2
      simp only [Option.some.injEq, Prod.mk.injEq] at h
      obtain ⟨rfl, rfl, rfl⟩ := h
      exact ⟨s', h1, h2⟩
    · cases h
  · cases h
theorem Sim.reg {id : Nat} {ops : List Oper} {orcs : List (Nat × Orc)} {keys : List Nat} {τ : List (Nat × Nat)} {nx : Nat} {sl : List (Nat × AVal)} {l : List (Nat × Ob)} {C : List Prop} (h : runN P n l0 ops false orcs keys τ nx s = some (sl, l, C)) (hC : All C) (hq : Q .normal ⟨sl, app emp l, nx⟩) :
    Sim P n l0 (.region id ops.toArray false) s Q := by
  obtain ⟨s', h1, h2⟩ := runN_some h
  intro F m0 w0 m a w g0 g1 g2
  refine wp_mono (Sim.region (Q := fun e s'' => e = .normal ∧ s'' = s') h1 hC ⟨rfl, rfl⟩ F m0 w0 m a w g0 g1 g2) ?_
  rintro e a' w' ⟨s'', m', q1, q2, rfl, rfl⟩
  obtain ⟨m2, r1, r2⟩ := Le.ren h2 F m0 w0 m' a' w' g0 q1 q2
  exact ⟨_, m2, r1, r2, hq⟩
theorem Sim.regD {id : Nat} {ops : List Oper} {orcs : List (Nat × Orc)} {keys : List Nat} {τ : List (Nat × Nat)} {nx : Nat} {sl : List (Nat × AVal)} {l : List (Nat × Ob)} {C : List Prop} (hm : P.follows .mixedOrders = true) (h : runN P n l0 ops true orcs keys τ nx s = some (sl, l, C)) (hC : All C) (hq : Q .normal ⟨sl, app emp l, nx⟩) :
    Sim P n l0 (.region id ops.toArray true) s Q := by
  obtain ⟨s', h1, h2⟩ := runN_some h
  intro F m0 w0 m a w g0 g1 g2
  refine wp_mono (Sim.region_draw (Q := fun e s'' => e = .normal ∧ s'' = s') hm h1 hC ⟨rfl, rfl⟩ F m0 w0 m a w g0 g1 g2) ?_
  rintro e a' w' ⟨s'', m', q1, q2, rfl, rfl⟩
  obtain ⟨m2, r1, r2⟩ := Le.ren h2 F m0 w0 m' a' w' g0 q1 q2
  exact ⟨_, m2, r1, r2, hq⟩

theorem Fin.mk2 {rs : List ResultVar} {res res' : AVal} {l l1 : List (Nat × Ob)} {e : Exit} {τ : List (Nat × Nat)} {keys : List Nat} {nx : Nat} {sl : List (Nat × AVal)} (he : e = .ret ∨ e = .normal) (h : renSt l0 τ keys nx s = some (sl, l)) (hl : l = l1) (hr : resV rs sl = some res') (hres : res' = res) :
    Fin n l0 rs res l1 e s := by subst hl; subst hres; exact Fin.mk he h hr

theorem Fin.le {rs : List ResultVar} {res : AVal} {l1 : List (Nat × Ob)} {e : Exit} {s' : St} (h : Le n l0 s s') (k : Fin n l0 rs res l1 e s') : Fin n l0 rs res l1 e s := by
  obtain ⟨k1, s2, k2, k3, k4⟩ := k
  exact ⟨k1, s2, h.trans k2, k3, k4⟩
theorem Le.andThen {s' : St} (h : Le n l0 s s') {c : Code} (k : Sim P n l0 c s' Q) : Sim P n l0 c s Q := Sim.weaken h k

/-! ### Values in another form: whatever the first one stands for, the second one stands for. -/
theorem Le.slot {t : Nat} {v v' : AVal} (hg : get s.sl t = v) (hv : ∀ st m w ok u, VRel st m w ok v u → VRel st m w ok v' u) : Le n l0 s ⟨(t, v') :: s.sl, s.st, s.nx⟩ := by
  intro F m0 w0 m a w h0 h1 h2
  refine ⟨m, ⟨fun t' => ?_, h1.size, h1.defers, h1.srel, h1.fresh⟩, h2⟩
  simp only [get]
  by_cases e : t = t'
  · subst e
    have := h1.slots t
    rw [hg] at this
    simp only [Nat.beq_refl, cond_true]
    exact hv _ _ _ _ _ this
  · rw [beq_ne e, cond_false]; exact h1.slots t'
theorem nil_lst {k : Nat} (hk : 0 < k) : ∀ (st : Store) (m : Place) (w : World) (ok : Nat → Prop) (u : Value), VRel st m w ok (.t (.sc (.slice none 0 0))) u → VRel st m w ok (.t (.lst k [])) u := by
  intro st m w ok u h
  have := VRel.sc_inv h
  subst this
  exact .t _ _ (.lst k [] none 0 [] hk (fun x hx => by simp at hx) (Nat.le_refl _) (by simp [maxLen]) (fun h => absurd rfl h) (by simp) (fun j T u hT => by simp [flat] at hT))
theorem Le.nilLst {t k : Nat} (hg : get s.sl t = .t (.sc (.slice none 0 0))) (hk : Nat.blt 0 k = true) : Le n l0 s ⟨(t, .t (.lst k [])) :: s.sl, s.st, s.nx⟩ :=
  Le.slot hg (nil_lst (blt_pos hk))
/-- An owned slice becomes immutable. -/
theorem Le.freeze {t : Nat} {v v' : AVal} {g : List (Nat × Ob)} {p : List Prop} (hg : get s.sl t = v) (hs : snap s.st v = some (v', g, p)) (hp : All p) (hn : g.all (fun x => Nat.blt x.1 s.nx) = true) : Le n l0 s ⟨(t, v') :: s.sl, app s.st g, s.nx⟩ := by
  intro F m0 w0 m a w h0 h1 h2
  have hv := h1.slots t
  rw [hg] at hv
  have hk := snap_sound (fun _ _ h => h) h1.srel hs hp hv
  obtain ⟨r1, r2, r3, r4⟩ := freezeAll g s.st h1.srel hk.1
  refine ⟨m, ⟨fun t' => ?_, h1.size, h1.defers, r1, fun id hid => ?_⟩, h2.trans h0 r2⟩
  · simp only [get]
    by_cases e : t = t'
    · subst e
      simp only [Nat.beq_refl, cond_true]
      exact hk.2 g hk.1 (fun x hx => hx)
    · rw [beq_ne e, cond_false]
      exact r2.val (h1.slots t')
  · show app s.st g id = none
    have hid' : s.nx ≤ id := hid
    have hm : id ∉ g.map (·.1) := fun hm => by
      obtain ⟨x, hx, rfl⟩ := List.mem_map.1 hm
      have h1 := List.all_eq_true.1 hn x hx
      have : x.1 < s.nx := Nat.lt_of_succ_le (Nat.le_of_ble_eq_true h1)
      omega
    rw [r4 id hm]
    exact h1.fresh id hid

theorem FC.at {f : FuncId} {args : List AVal} {res : AVal} {st0 st1 S0 S1 : Store} (h : FC P f args st0 res st1) (e0 : ∀ i, S0 i = st0 i) (e1 : ∀ i, S1 i = st1 i) : FC P f args S0 res S1 := by
  rw [funext e0, funext e1]; exact h

/-! ### Conditions -/
theorem len_map {α : Type} {f : α → Tree} {l : List α} : AVal.t (.sc (.int .i64 (l.length : Int))) = AVal.t (.sc (.int .i64 ((l.map f).length : Int))) := by simp
theorem quo_nn {a b : Int} (h : 0 ≤ a ∧ 0 < b ∧ a ≤ 9223372036854775807) : AVal.t (.sc (.int .i64 (a / b))) = AVal.t (.sc (.int .i64 (IntKind.i64.wrap (a.tdiv b)))) := by
  obtain ⟨h1, h2, h3⟩ := h
  rw [Int.tdiv_eq_ediv_of_nonneg h1]
  have := Int.ediv_nonneg h1 (Int.le_of_lt h2)
  have := Int.ediv_le_self b h1
  exact nw ⟨by omega, by omega⟩
theorem rem_nn {a b : Int} (h : 0 ≤ a) : AVal.t (.sc (.int .i64 (a % b))) = AVal.t (.sc (.int .i64 (a.tmod b))) := by
  rw [Int.tmod_eq_emod_of_nonneg h]
theorem elt_nat {α : Type} [Inhabited α] {f : α → Tree} {l : List α} {k : Nat} (h : k < l.length) : (l.map f)[k]? = some (f (l.getD k default)) := by
  simp [List.getElem?_eq_getElem h, List.getD]
theorem eptr_eq {id n i j k : Nat} (h : i = j) : AVal.eptr id n i k = AVal.eptr id n j k := by rw [h]
theorem max_if {k : IntKind} {a b : Int} : AVal.t (.sc (.int k (max a b))) = AVal.t (.sc (.int k (if b > a then b else a))) := by
  congr 3; split <;> omega
theorem min_if {k : IntKind} {a b : Int} : AVal.t (.sc (.int k (min a b))) = AVal.t (.sc (.int k (if b < a then b else a))) := by
  congr 3; split <;> omega
theorem row_append {α : Type} {f : α → Tree} {l l' : List α} {ys : List Tree} {id k : Nat} (h : l'.map f = ys) : [(id, Ob.row k false ((l ++ l').map f))] = [(id, Ob.row k false (l.map f ++ ys))] := by
  rw [List.map_append, h]
theorem row_set {α : Type} {f : α → Tree} {l : List α} {x : α} {X : Tree} {id k i : Nat} (h : f x = X) : [(id, Ob.row k false ((l.set i x).map f))] = [(id, Ob.row k false ((l.map f).set i X))] := by
  rw [List.map_set, h]
theorem sl_drop {α : Type} {f : α → Tree} {l : List α} {i k : Nat} : AVal.t (.lst k ((l.drop i).map f)) = AVal.t (.lst k ((l.map f).drop i)) := by rw [List.map_drop]
theorem sl_take {α : Type} {f : α → Tree} {l : List α} {i k : Nat} : AVal.t (.lst k ((l.take i).map f)) = AVal.t (.lst k ((l.map f).take i)) := by rw [List.map_take]
/-! ### Weaker values -/
theorem Weak.of_eq {d v : AVal} (h : v = d) : Weak d v := by subst h; exact fun _ _ _ _ _ h => h
theorem Weak.agg {cs cs' : List Tree} (h : TWs cs cs') : Weak (.t (.agg cs)) (.t (.agg cs')) := by
  obtain ⟨hl, hg⟩ := TWs_get h
  intro st m w ok u hv
  cases hv with
  | t _ _ hT =>
    cases hT with
    | agg _ us hlu hc hr =>
      have pair : ∀ (i : Nat) (T' : Tree), cs'[i]? = some T' → ∃ T, cs[i]? = some T ∧ (T = T' ∨ (T = .sc (.slice none 0 0) ∧ ∃ k, 0 < k ∧ T' = .lst k [])) := by
        intro i T' hi
        have hlt := (List.getElem?_eq_some_iff.1 hi).1
        have h1 : cs[i]? = some cs[i] := List.getElem?_eq_getElem (by omega)
        exact ⟨_, h1, hg i _ T' h1 hi⟩
      refine .t _ _ (.agg cs' us (by omega) (fun T' hT' => ?_) (fun i T' u' hi hu => ?_))
      · obtain ⟨i, hi, e⟩ := List.mem_iff_getElem.1 hT'
        obtain ⟨T, h1, h2⟩ := pair i T' (by rw [List.getElem?_eq_getElem hi, e])
        rcases h2 with rfl | ⟨_, k, _, rfl⟩
        · exact hc _ (List.mem_of_getElem? h1)
        · rfl
      · obtain ⟨T, h1, h2⟩ := pair i T' hi
        have h3 := hr i T u' h1 hu
        rcases h2 with rfl | ⟨rfl, k, hk, rfl⟩
        · exact h3
        · cases h3 with
          | sc => exact .lst k [] none 0 [] hk (fun x hx => by simp at hx) (Nat.le_refl _) (by simp [maxLen]) (fun h => absurd rfl h) (by simp) (fun j T u hT => by simp [flat] at hT)
def AWs : List AVal → List AVal → Prop
  | [], [] => True
  | v :: l, v' :: l' => (v = v' ∨ (v = .t (.sc (.slice none 0 0)) ∧ ∃ k, 0 < k ∧ v' = .t (.lst k []))) ∧ AWs l l'
  | _, _ => False
theorem AWs_get : ∀ {l l' : List AVal}, AWs l l' → l.length = l'.length ∧ ∀ (i : Nat) (T T' : AVal), l[i]? = some T → l'[i]? = some T' → (T = T' ∨ (T = .t (.sc (.slice none 0 0)) ∧ ∃ k, 0 < k ∧ T' = .t (.lst k [])))
  | [], [], _ => ⟨rfl, fun i T T' h => by simp at h⟩
  | T :: l, T' :: l', h => by
    obtain ⟨a, b⟩ := AWs_get h.2
    refine ⟨by simp [a], fun i S S' h1 h2 => ?_⟩
    cases i with
    | zero => simp at h1 h2; subst h1; subst h2; exact h.1
    | succ i => exact b i S S' (by simpa using h1) (by simpa using h2)
  | [], _ :: _, h => h.elim
  | _ :: _, [], h => h.elim
theorem Weak.aggv {cs cs' : List AVal} (h : AWs cs cs') : Weak (.agg cs) (.agg cs') := by
  obtain ⟨hl, hg⟩ := AWs_get h
  intro st m w ok u hv
  cases hv with
  | agg _ us hlu hr h1 =>
    refine .agg cs' us (by omega) (fun i v' u' hi hu => ?_) h1
    have hlt := (List.getElem?_eq_some_iff.1 hi).1
    have h2 : cs[i]? = some cs[i] := List.getElem?_eq_getElem (by omega)
    have h3 := hr i _ u' h2 hu
    rcases hg i _ v' h2 hi with e | ⟨e, k, hk, e'⟩
    · rw [← e]; exact h3
    · rw [e'] ; rw [e] at h3
      exact nil_lst hk _ _ _ _ _ h3
theorem tw_nil {k : Nat} (hk : 0 < k) : (Tree.sc (.slice none 0 0) = Tree.lst k [] ∨ (Tree.sc (.slice none 0 0) = .sc (.slice none 0 0) ∧ ∃ k', 0 < k' ∧ Tree.lst k [] = .lst k' [])) := .inr ⟨rfl, k, hk, rfl⟩
theorem aw_nil {k : Nat} (hk : 0 < k) : (AVal.t (.sc (.slice none 0 0)) = AVal.t (.lst k []) ∨ (AVal.t (.sc (.slice none 0 0)) = .t (.sc (.slice none 0 0)) ∧ ∃ k', 0 < k' ∧ AVal.t (Tree.lst k []) = .t (.lst k' []))) := .inr ⟨rfl, k, hk, rfl⟩
end Go.Ab
