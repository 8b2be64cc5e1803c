/- A region of operations, in the order of the text or in any order. -/
import Derived.Test.YtbdbibmbfmlobaaAbExec
set_option linter.unusedVariables false
namespace Go.Ab
variable {P : Program} {w : World} {F : Nat → Prop} {S st : Store} {m : Place}

def SlotsRel (S : Store) (m : Place) (w : World) (ok : Nat → Prop) (sl : List (Nat × AVal)) (tmps : Array Value) : Prop := ∀ t, VRel S m w ok (get sl t) (tmps.getD t undef)

theorem ev_rel {ok : Nat → Prop} {sl : List (Nat × AVal)} {a : Act} {x : Operand} (h : ∀ t, x = .tmp t → VRel S m w ok (get sl t) (a.tmps.getD t undef)) : VRel S m w ok (ev sl x) (a.eval x) := by
  cases x with
  | tmp t => exact h t rfl
  | func f => exact .fn f [] [] rfl (fun i v u h => by simp at h)
  | global g => exact .junk _
  | const v =>
    cases v with
    | agg cs =>
      simp only [ev, Act.eval]
      cases hh : cs.toList.all Value.oneCell' with
      | false => exact .junk _
      | true =>
        have h1 : ∀ u ∈ cs.toList, u.oneCell' = true := fun u hu => List.all_eq_true.1 hh u hu
        have hT : TRep w ok (.agg (cs.toList.map .sc)) (.agg cs.toList.toArray) := by
          refine .agg _ _ (by simp) (fun T hT => ?_) (fun i T u hT hu => ?_)
          · obtain ⟨v, _, rfl⟩ := List.mem_map.1 hT; rfl
          · simp only [List.getElem?_map, Option.map_eq_some_iff] at hT
            obtain ⟨v, hv, rfl⟩ := hT
            rw [hu] at hv; cases hv
            exact .sc _ (h1 _ (List.mem_of_getElem? hu))
        simpa using VRel.t (st := S) (m := m) _ _ hT
    | tuple _ => exact .junk _
    | _ => exact .t _ _ (.sc _ rfl)

theorem reqs_all {ρ : Eval} : ∀ {l : List Operand}, All (reqs ρ l) → ∀ x ∈ l, ∀ c v, ρ x = .cond c v → c = true
  | [], _, x, hx, _, _, _ => by simp at hx
  | y :: l, h, x, hx, c, v, he => by
    simp only [reqs] at h
    simp only [List.mem_cons] at hx
    rcases hx with rfl | hx
    · rw [he] at h
      exact h.1
    · split at h
      · exact reqs_all h.2 x hx c v he
      · exact reqs_all h x hx c v he

theorem bare_rel {ok : Nat → Prop} {v : AVal} {u : Value} (h : VRel S m w ok v u) (hc : ∀ c v', v = .cond c v' → c = true) : VRel S m w ok (bare v) u := by
  cases h with
  | cond c v u h1 h0 => exact h1 (hc c v rfl)
  | t T u h => exact .t T u h
  | row id n k fz xs L h1 h2 h3 => exact .row id n k fz xs L h1 h2 h3
  | ptr id off cs b h1 h2 => exact .ptr id off cs b h1 h2
  | eptr id n i sub k fz xs b h1 h2 h3 => exact .eptr id n i sub k fz xs b h1 h2 h3
  | cptr cs b o us h1 h2 h3 h4 h5 => exact .cptr cs b o us h1 h2 h3 h4 h5
  | agg cs us h1 h2 h3 => exact .agg cs us h1 h2 h3
  | fn f cap us h1 h2 => exact .fn f cap us h1 h2
  | tup vs us h1 h2 => exact .tup vs us h1 h2
  | junk u => exact .junk u

theorem exec0_sound {s : St} {o : Oper} {nid : Nat} {c : Orc} {r : Res} (h : exec0 P s o nid c = some r) (hc : All r.cnd) (hag : ∀ id ∈ r.need, s.st id = S id) (hS : SRel F S m w)
    (hfresh : ∀ id, nid ≤ id → id < nid + 8 → S id = none) {a : Act} (hr : ∀ x ∈ o.op.operands.toList, VRel S m w (okB F S m w) (ev s.sl x) (a.eval x)) : Up P F S m w r.wr r.val o a := by
  unfold exec0 at h
  simp only at h
  split at h
  · rename_i g x y hop
    simp only [Option.map_eq_some_iff] at h
    obtain ⟨δ, hδ, rfl⟩ := h
    unfold pickK at hδ
    split at hδ
    rotate_left
    · cases hδ
    rename_i gb xb yb hg hx hy
    simp only [Option.some.injEq] at hδ
    subst hδ
    rw [All_append, All_append] at hc
    obtain ⟨⟨c1, c2⟩, c3⟩ := hc
    have rg := hr g (by simp [hop, Op.operands])
    have rx := hr x (by simp [hop, Op.operands])
    have ry := hr y (by simp [hop, Op.operands])
    have vg := bare_rel rg (fun k v he => by rw [he] at c1; exact c1.1)
    rw [hg] at vg
    have eg := VRel.sc_inv vg
    have val : ∀ (z : AVal) (zb : Bool) (u : Value), VRel S m w (okB F S m w) z u → bare z = .t (.sc (.bool zb)) → (∀ k v, z = .cond k v → k = true) → u = .bool zb := by
      intro z zb u hz hb hk
      have := bare_rel hz hk
      rw [hb] at this
      exact VRel.sc_inv this
    cases gb with
    | true =>
      have ex := val (ev s.sl x) xb _ rx hx (fun k v he => by rw [he] at c2; exact c2.1 rfl)
      refine Up.same hS (v := .bool xb) ?_ (.t _ _ (.sc _ rfl))
      simp [execOp, hop, eg, asBool, ex]
    | false =>
      have ey := val (ev s.sl y) yb _ ry hy (fun k v he => by rw [he] at c3; exact c3.1 rfl)
      refine Up.same hS (v := .bool yb) ?_ (.t _ _ (.sc _ rfl))
      simp [execOp, hop, eg, asBool, ey]
  · rename_i hnp
    simp only [Option.map_eq_some_iff] at h
    obtain ⟨δ, hδ, rfl⟩ := h
    simp only at hc hag
    rw [All_append, All_append, All_append] at hc
    obtain ⟨⟨⟨c1, c2⟩, c3⟩, c4⟩ := hc
    have hwr : c.wr.getD δ.wr = δ.wr := by
      cases hh : c.wr with
      | none => rfl
      | some v => rw [hh] at c4; exact c4.1
    simp only [hwr]
    have hUp : Up P F S m w δ.wr δ.val o a := by
     refine aop_sound (st := only s.st (needOf (ev s.sl) o.op c)) hδ c2 (fun id ob hid => ?_) (fun co hco id hid => ?_) hS hfresh (fun x hx => ?_)
     · obtain ⟨h1, h2⟩ := only_some hid
       rw [← hag id h2]; exact h1
     · have hn : id ∈ needOf (ev s.sl) o.op c := by
         unfold needOf
         simp [hco, hid]
       rw [only_mem hn]; exact hag id hn
     · exact bare_rel (hr x hx) (fun k v he => reqs_all c1 x hx k v he)
    cases hh : c.val with
    | none => exact hUp
    | some v =>
      rw [hh] at c3
      intro next Q hnext
      exact hUp next Q (fun v' w' m' q1 q2 q3 => hnext v' w' m' q1 q2 (c3.1 _ _ _ _ _ q3))


theorem looks_op {ops : List Oper} {o : Oper} {t : Nat} (h : Operand.tmp t ∈ o.op.operands.toList) : t ∈ looks ops o := by
  unfold looks
  exact List.mem_append_left _ (List.mem_filterMap.2 ⟨.tmp t, h, rfl⟩)

theorem yielded_of {ops : List Oper} {tmps : Array Value} {j d : Nat} {g : Bool} (h : slotOf ops j = some d) (hv : tmps.getD d undef = .bool g) : yielded ops.toArray tmps j = some g := by
  unfold yielded slotOf at *
  have e : (ops.toArray[j]?).bind (·.dst) = some d := by simpa using h
  rw [e]
  have : tmps[d]? = some (.bool g) := by
    cases hh : tmps[d]? with
    | none => simp [hh, undef] at hv
    | some v => simp [hh] at hv; rw [hv]
  simp [this]

/-- One operation, carried out or passed over. -/
theorem exec1_wp {ops : List Oper} {s : St} {o : Oper} {nid : Nat} {c : Orc} {r : Res} (h : exec1 P ops s o nid c = some r) (hc : All r.cnd) (hag : ∀ id ∈ r.need, s.st id = S id) (hS : SRel F S m w)
    (hfresh : ∀ id, nid ≤ id → id < nid + 8 → S id = none) {a : Act} (hr : ∀ t ∈ looks ops o, VRel S m w (okB F S m w) (get s.sl t) (a.tmps.getD t undef))
    {K : Act → World → Prop} {Q : Exit → Act → World → Prop}
    (hK : ∀ v w' m', SRel F (app S r.wr) m' w' → FrameExt F S m w (app S r.wr) m' w' → VRel (app S r.wr) m' w' (okB F (app S r.wr) m' w') r.val v → K (a.put o.dst v) w') :
    if Region.wanted o (yielded ops.toArray a.tmps) then o.wp P a w K Q ∨ (o.asks P a w ∧ LetsOut Q) else K (a.put o.dst undef) w := by
  have hops : ∀ x ∈ o.op.operands.toList, VRel S m w (okB F S m w) (ev s.sl x) (a.eval x) := fun x hx => ev_rel (fun t e => by subst e; exact hr t (looks_op hx))
  unfold exec1 at h
  split at h
  · rename_i r0 hg h0
    simp only [Option.some.injEq] at h
    subst h
    have hng : o.guard = none := by
      unfold guardOf at hg
      split at hg
      · assumption
      · split at hg
        · cases hg
        · split at hg <;> cases hg
    rw [if_pos (by simp [Region.wanted, hng])]
    exact .inl (exec0_sound h0 hc hag hS hfresh hops K Q hK)
  · rename_i e r0 hg h0
    simp only [Option.some.injEq] at h
    subst h
    simp only at hc hag hK
    rw [All_append] at hc
    obtain ⟨c1, c2⟩ := hc
    have hmap : ∀ l : List Prop, e = true → All (l.map fun p => e = true → p) → All l := by
      intro l he
      induction l with
      | nil => exact fun _ => trivial
      | cons p l ih => intro h; exact ⟨h.1 he, ih h.2⟩
    -- the guard's outcome
    have hw : Region.wanted o (yielded ops.toArray a.tmps) = e ∨ (e = false ∧ Region.wanted o (yielded ops.toArray a.tmps) = false) := by
      unfold guardOf at hg
      split at hg
      · cases hg
      rename_i j want hgd
      split at hg
      · cases hg
      rename_i d hd
      have hdl : d ∈ looks ops o := by unfold looks; rw [hgd]; simp [hd]
      have hv := hr d hdl
      split at hg
      · rename_i g hget
        simp only [Option.some.injEq] at hg
        rw [hget] at hv
        have hy := yielded_of hd (VRel.sc_inv hv)
        left
        simp only [Region.wanted, hgd, hy]
        rw [← hg]
        cases g <;> cases want <;> rfl
      · rename_i cc g hget
        simp only [Option.some.injEq] at hg
        rw [hget] at hv
        cases hv with
        | cond _ _ _ h1 h0 =>
          cases cc with
          | true =>
            have hy := yielded_of hd (VRel.sc_inv (h1 rfl))
            left
            simp only [Region.wanted, hgd, hy]
            rw [← hg]
            cases g <;> cases want <;> rfl
          | false =>
            have hu := h0 rfl
            right
            refine ⟨by rw [← hg]; rfl, ?_⟩
            have hy : yielded ops.toArray a.tmps j = none := by
              unfold yielded slotOf at *
              have e : (ops.toArray[j]?).bind (·.dst) = some d := by simpa using hd
              rw [e]
              cases hh : a.tmps[d]? with
              | none => simp [hh]
              | some v => simp [hh] at hu; simp [hh, hu, undef]
            simp [Region.wanted, hgd, hy]
      · cases hg
    cases e with
    | true =>
      have hw' : Region.wanted o (yielded ops.toArray a.tmps) = true := by
        rcases hw with h | h
        · exact h
        · cases h.1
      rw [if_pos hw']
      refine .inl (exec0_sound h0 (hmap _ rfl c1) hag hS hfresh hops K Q fun v w' m' k1 k2 k3 => hK v w' m' k1 k2 (.cond true _ v (fun _ => k3) (fun h => by cases h)))
    | false =>
      have hw' : Region.wanted o (yielded ops.toArray a.tmps) = false := by
        rcases hw with h | h
        · exact h
        · exact h.2
      rw [if_neg (by rw [hw']; simp)]
      have hwr : r0.wr = [] := by
        cases hh : r0.wr with
        | nil => rfl
        | cons x l => rw [hh] at c2; exact absurd c2.1 (by simp)
      rw [hwr] at hK
      exact hK undef w m hS (FrameExt.refl F S m w) (.cond false _ _ (fun h => by cases h) (fun _ => rfl))
  · cases h

/-! ### The state of a function -/
structure Rel (F : Nat → Prop) (n : Nat) (s : St) (m : Place) (a : Act) (w : World) : Prop where
  slots : SlotsRel s.st m w (okB F s.st m w) s.sl a.tmps
  size : a.tmps.size = n
  defers : a.defers = []
  srel : SRel F s.st m w
  fresh : ∀ id, s.nx ≤ id → s.st id = none

theorem put_size (a : Act) (d : Option Tmp) (v : Value) : (a.put d v).tmps.size = a.tmps.size := by cases d <;> simp [Act.put]
theorem put_defers (a : Act) (d : Option Tmp) (v : Value) : (a.put d v).defers = a.defers := by cases d <;> rfl
theorem put_getD (a : Act) (d : Option Tmp) (v : Value) (t : Nat) (h : ∀ d', d = some d' → d' < a.tmps.size) : (a.put d v).tmps.getD t undef = if d = some t then v else a.tmps.getD t undef := by
  cases d with
  | none => simp [Act.put]
  | some d =>
    have hd := h d rfl
    by_cases e : d = t
    · subst e
      simp [Act.put, hd]
    · simp [Act.put, e, Array.getElem?_setIfInBounds_ne e]
theorem get_put (sl : List (Nat × AVal)) (d : Option Nat) (v : AVal) (t : Nat) : get (put sl d v) t = if d = some t then v else get sl t := by
  cases d with
  | none => simp [put]
  | some d =>
    simp only [put, get]
    by_cases e : d = t
    · subst e; simp
    · rw [beq_ne e]; simp [e]

theorem SlotsRel.put {ok : Nat → Prop} {sl : List (Nat × AVal)} {a : Act} {o : Oper} {n : Nat} (hd : dstOk n o = true) (hn : a.tmps.size = n) {val : AVal} {v : Value} (h : SlotsRel S m w ok sl a.tmps) (hv : VRel S m w ok val v) :
    SlotsRel S m w ok (Ab.put sl o.dst val) (a.put o.dst v).tmps := by
  intro t
  rw [get_put, put_getD _ _ _ _ (fun d hd' => by
    unfold dstOk at hd
    rw [hd'] at hd
    rw [hn]; exact Nat.lt_of_succ_le (Nat.le_of_ble_eq_true hd))]
  split
  · exact hv
  · exact h t

theorem app_fresh {r : Res} {k : Nat} (h : (r.wr.all fun x => Nat.blt x.1 k) = true) {id : Nat} (hid : k ≤ id) : app S r.wr id = S id := by
  apply app_not
  intro hm
  obtain ⟨x, hx, rfl⟩ := List.mem_map.1 hm
  have h1 := List.all_eq_true.1 h x hx
  have := Nat.lt_of_succ_le (Nat.le_of_ble_eq_true h1)
  omega

/-- In the order of the text. -/
theorem runL_wp {ops : List Oper} {orcs : List (Nat × Orc)} {nx n : Nat} {Q : Exit → Act → World → Prop} : ∀ (rest : List Oper) (i : Nat) (s s' : St) (rs : List Res), runL P ops orcs nx i rest s = some (s', rs) → All (allC rs) →
    (rest.all (dstOk n)) = true → ∀ (m : Place) (a : Act) (w : World), SlotsRel s.st m w (okB F s.st m w) s.sl a.tmps → a.tmps.size = n → a.defers = [] → SRel F s.st m w → (∀ id, nx + 8 * i ≤ id → s.st id = none) →
    (∀ m' a' w', SlotsRel s'.st m' w' (okB F s'.st m' w') s'.sl a'.tmps → a'.tmps.size = n → a'.defers = [] → SRel F s'.st m' w' → (∀ id, nx + 8 * (i + rest.length) ≤ id → s'.st id = none) → FrameExt F s.st m w s'.st m' w' → Q .normal a' w') →
    wpList P ops.toArray Q rest a w
  | [], i, s, s', rs, h, _, _, m, a, w, h1, h2, h3, h4, h5, hQ => by
    simp only [runL, Option.some.injEq, Prod.mk.injEq] at h
    obtain ⟨rfl, rfl⟩ := h
    exact hQ m a w h1 h2 h3 h4 h5 (FrameExt.refl F _ m w)
  | o :: rest, i, s, s', rs, h, hc, hd, m, a, w, h1, h2, h3, h4, h5, hQ => by
    simp only [runL] at h
    split at h
    rotate_left
    · cases h
    rename_i r hr
    cases hk : (r.wr.all fun x => Nat.blt x.1 (nx + 8 * i + 8)) with
    | false => rw [hk] at h; cases h
    | true =>
      rw [hk] at h
      simp only [Bool.not_true, cond_false] at h
      split at h
      rotate_left
      · cases h
      rename_i s2 rs2 hrun
      simp only [Option.some.injEq, Prod.mk.injEq] at h
      obtain ⟨rfl, rfl⟩ := h
      simp only [allC] at hc
      rw [All_append] at hc
      simp only [List.all_cons, Bool.and_eq_true] at hd
      unfold wpList
      refine exec1_wp hr hc.1 (fun _ _ => rfl) h4 (fun id q1 q2 => h5 id (by omega)) (fun t _ => h1 t) (fun v w' m' k1 k2 k3 => ?_)
      refine runL_wp rest (i + 1) _ s2 rs2 hrun hc.2 hd.2 m' _ w' ?_ (by rw [put_size]; exact h2) (by rw [put_defers]; exact h3) k1 (fun id hid => ?_) (fun m'' a'' w'' q1 q2 q3 q4 q5 q6 => ?_)
      · exact SlotsRel.put hd.1 h2 (fun t => k2.val (h1 t)) k3
      · show app s.st r.wr id = none
        rw [app_fresh hk (by omega)]; exact h5 id (by omega)
      · exact hQ m'' a'' w'' q1 q2 q3 q4 (fun id hid => q5 id (by simp only [List.length_cons] at hid; omega)) (k2.trans h4 q6)

theorem keepS_get : ∀ (keys : List Nat) (sl : List (Nat × AVal)) (t : Nat), get (keepS sl keys) t = get sl t ∨ get (keepS sl keys) t = .junk
  | [], sl, t => .inr rfl
  | k :: keys, sl, t => by
    simp only [keepS, get]
    by_cases e : k = t
    · subst e; left; simp
    · rw [beq_ne e]; exact keepS_get keys sl t

theorem SlotsRel.keep {ok : Nat → Prop} {sl : List (Nat × AVal)} {tmps : Array Value} (h : SlotsRel S m w ok sl tmps) (keys : List Nat) : SlotsRel S m w ok (keepS sl keys) tmps := by
  intro t
  rcases keepS_get keys sl t with e | e
  · rw [e]; exact h t
  · rw [e]; exact .junk _

theorem runR_text {n : Nat} {ops : List Oper} {orcs : List (Nat × Orc)} {keys : List Nat} {s s' : St} {C : List Prop} (h : runR P n ops false orcs keys s = some (s', C)) (hC : All C) {m : Place} {a : Act} {w : World} (hs : Rel F n s m a w)
    {Q : Exit → Act → World → Prop} (hQ : ∀ m' a' w', Rel F n s' m' a' w' → FrameExt F s.st m w s'.st m' w' → Q .normal a' w') (id : Nat) : (Code.region id ops.toArray false).wp P Q a w := by
  unfold runR at h
  split at h
  rotate_left
  · cases h
  rename_i s2 rs hrun
  obtain ⟨h1, h2⟩ := bif_some h
  simp only [Bool.and_eq_true] at h1
  simp only [Option.some.injEq, Prod.mk.injEq] at h2
  obtain ⟨rfl, rfl⟩ := h2
  refine wp_region_list ?_
  refine runL_wp ops 0 s s2 rs hrun hC h1.1 m a w hs.slots hs.size hs.defers hs.srel (fun id hid => hs.fresh id (by omega)) (fun m' a' w' q1 q2 q3 q4 q5 q6 => ?_)
  exact hQ m' a' w' ⟨q1.keep keys, q2, q3, q4, fun id hid => q5 id (by simp only at hid; omega)⟩ q6

end Go.Ab
