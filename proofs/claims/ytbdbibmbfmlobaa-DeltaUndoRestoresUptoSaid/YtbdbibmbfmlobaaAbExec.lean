/- An operation, whatever it is, does what the evaluator says. -/
import Derived.Test.YtbdbibmbfmlobaaAbCall
set_option linter.unusedVariables false
namespace Go.Ab
variable {P : Program} {w : World} {F : Nat → Prop} {S st : Store} {m : Place}

theorem Up.of_done {o : Oper} {a : Act} {wr : List (Nat × Ob)} {val : AVal} {r : Result Value} (he : (execOp a.eval o).run P w = r.andThen fun v w' => .ok (.value v) w') (hd : Done F S m w wr val r) :
    Up P F S m w wr val o a := by
  obtain ⟨v, w', m', rfl, h1, h2, h3⟩ := hd
  exact Up.value he h1 h2 h3
theorem Done.of_pure {val : AVal} {wr : List (Nat × Ob)} {r : Result Value} (hS : SRel F S m w) (h : ∃ v, r = .ok v w ∧ VRel S m w (okB F S m w) val v ∧ wr = []) : Done F S m w wr val r := by
  obtain ⟨v, h1, h2, rfl⟩ := h
  exact Done.same hS ⟨v, h1, h2⟩

theorem parts_rel {α : Type} {ps : Array (Nat × Operand)} {ρ : Eval} {a : Act} {ok : Nat → Prop} (hr : ∀ x ∈ (ps.toList.map (·.2)), VRel S m w ok (ρ x) (a.eval x)) :
    (ps.map fun (i, x) => (i, a.eval x)).size = (ps.toList.map fun (i, x) => (i, ρ x)).length ∧
    ∀ (i : Nat) (p : Nat × AVal) (q : Nat × Value), (ps.toList.map fun (i, x) => (i, ρ x))[i]? = some p → (ps.map fun (i, x) => (i, a.eval x))[i]? = some q → p.1 = q.1 ∧ VRel S m w ok p.2 q.2 := by
  refine ⟨by simp, fun i p q hp hq => ?_⟩
  simp only [List.getElem?_map, Option.map_eq_some_iff] at hp
  obtain ⟨x, hx, rfl⟩ := hp
  simp only [Array.getElem?_map, Option.map_eq_some_iff] at hq
  obtain ⟨y, hy, rfl⟩ := hq
  have e : ps.toList[i]? = ps[i]? := by simp
  have hm := List.mem_of_getElem? hx
  rw [e, hy] at hx
  cases hx
  exact ⟨rfl, hr _ (List.mem_map.2 ⟨_, hm, rfl⟩)⟩

theorem args_rel {args : Array Operand} {ρ : Eval} {a : Act} {ok : Nat → Prop} (hr : ∀ x ∈ args.toList, VRel S m w ok (ρ x) (a.eval x)) :
    (args.toList.map a.eval).length = (args.toList.map ρ).length ∧
    ∀ (i : Nat) (v : AVal) (u : Value), (args.toList.map ρ)[i]? = some v → (args.toList.map a.eval)[i]? = some u → VRel S m w ok v u := by
  refine ⟨by simp, fun i v u hv hu => ?_⟩
  simp only [List.getElem?_map, Option.map_eq_some_iff] at hv hu
  obtain ⟨x, hx, rfl⟩ := hv
  obtain ⟨y, hy, rfl⟩ := hu
  rw [hx] at hy; cases hy
  exact hr _ (List.mem_of_getElem? hx)

theorem arr1 {α : Type} {a : Array α} {x : α} (h : a.toList = [x]) : a = #[x] := Array.ext' (by simpa using h)
theorem arr2 {α : Type} {a : Array α} {x y : α} (h : a.toList = [x, y]) : a = #[x, y] := Array.ext' (by simpa using h)

theorem run_enter {f : FuncId} {fn : Func} {c : Code} (hf : P.funcs[f]? = some fn) (hname : (fn.name == "runtime.NumGoroutine") = false) (hb : fn.body = some c) (args : Array Value) (w : World) :
    (callFunc f args).run P w = .ok (.enter f args) w := by
  have h1 : fn.name ≠ "runtime.NumGoroutine" := by simpa using hname
  simp [callFunc, hf, h1, hb]

theorem aop_sound {o : Oper} {ρ : Eval} {nid : Nat} {c : Orc} {δ : Dl} (h : aop P o.op o.type ρ st nid c = some δ) (hc : All δ.cnd) (hst : ∀ id o, st id = some o → S id = some o)
    (hneed : ∀ co, c.call = some co → ∀ id ∈ co.need, st id = S id) (hS : SRel F S m w) (hfresh : ∀ id, nid ≤ id → id < nid + 8 → S id = none) {a : Act}
    (hr : ∀ x ∈ o.op.operands.toList, VRel S m w (okB F S m w) (ρ x) (a.eval x)) : Up P F S m w δ.wr δ.val o a := by
  obtain ⟨dst, op, type, pos, after, guard⟩ := o
  have hid : S nid = none := hfresh nid (Nat.le_refl _) (by omega)
  cases op with
  | move x =>
    have := pure1_some h; subst this
    exact Up.same hS (by simp [execOp]) (hr x (by simp [Op.operands]))
  | assign x =>
    have := pure1_some h; subst this
    exact Up.same hS (by simp [execOp]) (hr x (by simp [Op.operands]))
  | alloc e => exact Up.of_done (by simp [execOp]) (allocK_sound h hS hid)
  | box e x => exact Up.of_done (by simp [execOp]) (boxK_sound (P := P) (e := e) h hS hid (hr x (by simp [Op.operands])))
  | build t ps =>
    have := parts_rel (α := Nat) (ps := ps) (ρ := ρ) (a := a) (fun x hx => hr x (by simpa [Op.operands] using hx))
    exact Up.of_done (by simp [execOp]) (buildK_sound h hS this.1 this.2)
  | buildSlice t len ps =>
    have := parts_rel (α := Nat) (ps := ps) (ρ := ρ) (a := a) (fun x hx => hr x (by simpa [Op.operands] using hx))
    exact Up.of_done (by simp [execOp]) (buildSliceK_sound h hc hst hS hid this.1 this.2)
  | load t x => exact Up.of_done (by simp [execOp]) (Done.of_pure hS (loadK_sound h hc hst hS (hr x (by simp [Op.operands]))))
  | store t x y =>
    obtain ⟨w', m', h1, h2, h3, h4⟩ := storeK_sound h hc hst hS (hr x (by simp [Op.operands])) (hr y (by simp [Op.operands]))
    rw [h4]
    exact Up.skip (by simp [execOp, h1]) h2 h3
  | nilCheck x =>
    have hx := hr x (by simp [Op.operands])
    simp only [aop] at h
    split at h
    · rename_i id off he
      have := pure1_some h; subst this
      rw [he] at hx
      generalize hu : a.eval x = u at hx
      refine Up.same hS (v := u) ?_ hx
      cases hx with
      | ptr _ _ cs b hs hm => simp [execOp, hu]
    · rename_i id n i sub he
      have := pure1_some h; subst this
      rw [he] at hx
      generalize hu : a.eval x = u at hx
      refine Up.same hS (v := u) ?_ hx
      cases hx with
      | eptr _ _ _ _ k fz xs b hs hn hu' => simp [execOp, hu]
    · rename_i cs he
      have := pure1_some h; subst this
      rw [he] at hx
      generalize hu : a.eval x = u at hx
      refine Up.same hS (v := u) ?_ hx
      cases hx with
      | cptr _ b o us h1 h2 h3 h4 h5 => simp [execOp, hu]
    · rename_i f cap he
      have := pure1_some h; subst this
      rw [he] at hx
      generalize hu : a.eval x = u at hx
      refine Up.same hS (v := u) ?_ hx
      cases hx with
      | fn _ _ us h1 h2 => simp [execOp, hu]
    · cases h
  | binOp b t x y yt =>
    refine Up.of_done (r := (do eqGuard b t x y (a.eval x) (a.eval y); binOp b t (a.eval x) (a.eval y)).run P w) ?_ (Done.of_pure hS (binK_sound (ox := x) (oy := y) h hc (hr x (by simp [Op.operands])) (hr y (by simp [Op.operands]))))
    simp only [execOp]
    rw [Sem.run_bind]
    rfl
  | unOp u t x => exact Up.of_done (by simp [execOp]) (Done.of_pure hS (unK_sound (P := P) h (hr x (by simp [Op.operands]))))
  | convert s d x => exact Up.of_done (by simp [execOp]) (Done.of_pure hS (convK_sound h (hr x (by simp [Op.operands]))))
  | makeFunc fn first cap =>
    cases fn with
    | func f =>
      simp only [aop] at h
      obtain ⟨h1, h2⟩ := bif_some h
      have := pure1_some h2; subst this
      have hf : first = #[] := by simpa using h1
      subst hf
      have := args_rel (args := cap) (ρ := ρ) (a := a) (fun x hx => hr x (by simp [Op.operands]; simpa using hx))
      refine Up.same hS (v := .func (.func f) #[] (cap.map a.eval)) (by simp [execOp, Instr.makeFunc]) ?_
      have := VRel.fn (st := S) (m := m) (w := w) (ok := okB F S m w) f (cap.toList.map ρ) (cap.toList.map a.eval) this.1 this.2
      have e : (cap.toList.map a.eval).toArray = cap.map a.eval := by apply Array.ext'; simp
      rw [e] at this
      exact this
    | _ => simp [aop] at h
  | makeSlice t l k => exact Up.of_done (by simp [execOp]) (makeSliceK_sound h hc hS hid (hr l (by simp [Op.operands])) (hr k (by simp [Op.operands])))
  | slice t x lo hi mx =>
    have hx := hr x (by simp [Op.operands])
    have := sliceK_sound (ulo := lo.map a.eval) (uhi := hi.map a.eval) h hc hst hS hx (fun e => by simpa using e) (fun v hv => by
        simp only [Option.map_eq_some_iff] at hv
        obtain ⟨y, rfl, rfl⟩ := hv
        exact ⟨a.eval y, rfl, hr y (by simp [Op.operands])⟩) (fun e => by simpa using e) (fun v hv => by
        simp only [Option.map_eq_some_iff] at hv
        obtain ⟨y, rfl, rfl⟩ := hv
        exact ⟨a.eval y, rfl, hr y (by simp [Op.operands])⟩)
    obtain ⟨hm, hd⟩ := this
    have : mx = none := by simpa using hm
    subst this
    exact Up.of_done (by simp [execOp]) hd
  | fieldAddr s x f => exact Up.of_done (by simp [execOp]) (Done.of_pure hS (fieldAddrK_sound h hS (hr x (by simp [Op.operands]))))
  | field s x f => exact Up.of_done (by simp [execOp]) (Done.of_pure hS (fieldK_sound h (hr x (by simp [Op.operands]))))
  | indexAddr t x i => exact Up.of_done (by simp [execOp]) (Done.of_pure hS (indexAddrK_sound h hc hst hS (hr x (by simp [Op.operands])) (hr i (by simp [Op.operands]))))
  | index t x i => exact Up.of_done (by simp [execOp]) (Done.of_pure hS (indexK_sound h hc (hr x (by simp [Op.operands])) (hr i (by simp [Op.operands]))))
  | extract t i =>
    have hx := hr t (by simp [Op.operands])
    simp only [aop] at h
    split at h
    · rename_i vs he
      simp only [Option.bind_eq_some_iff] at h
      obtain ⟨v, hv, h⟩ := h
      have := pure1_some h; subst this
      rw [he] at hx
      generalize hu : a.eval t = u at hx
      cases hx with
      | tup _ us hl h1 =>
        have hil : i < us.length := by rw [hl]; exact (List.getElem?_eq_some_iff.1 hv).1
        refine Up.same hS (v := us[i]) ?_ (h1 i v _ hv (List.getElem?_eq_getElem hil))
        simp [execOp, Instr.extract, hu, hil]
    · cases h
  | call cl =>
    obtain ⟨callee, args, argTypes⟩ := cl
    cases callee with
    | value f =>
      simp only [aop] at h
      split at h
      rotate_left
      · cases h
      rename_i fid cap co he hco
      have hf := hr f (by simp [Op.operands, Call.operands])
      rw [he] at hf
      generalize hu : a.eval f = uf at hf
      cases hf with
      | fn _ _ us hl h1 =>
        have hargs := args_rel (args := args) (ρ := ρ) (a := a) (fun x hx => hr x (by simp [Op.operands, Call.operands]; right; simpa using hx))
        obtain ⟨hcall, hback⟩ := callK_sound (us := args.toList.map a.eval ++ us) h hc hst (hneed co hco) hS hfresh (by simp [hl]) (fun i v u hv hu' => by
          by_cases hi : i < args.toList.length
          · rw [List.getElem?_append_left (by simpa using hi)] at hv hu'
            exact hargs.2 i v u hv hu'
          · rw [List.getElem?_append_right (by simpa using hi)] at hv hu'
            simp only [List.length_map] at hv hu'
            exact h1 _ v u hv hu')
        unfold callable at hcall
        split at hcall
        rotate_left
        · cases hcall
        rename_i fn hfn
        simp only [Bool.and_eq_true, Bool.not_eq_true'] at hcall
        obtain ⟨code, hcode⟩ := Option.isSome_iff_exists.1 hcall.1
        intro next Q hn
        have hrun : (execOp a.eval ⟨dst, .call ⟨.value f, args, argTypes⟩, type, pos, after, guard⟩).run P w = .ok (.enter fid (args.toList.map a.eval ++ us).toArray) w := by
          have e : args.map a.eval ++ us.toArray = (args.toList.map a.eval ++ us).toArray := by apply Array.ext'; simp
          simp only [execOp, resolve, hu, Deferred.ofValue, Sem.run_bind, Sem.run_pure, Result.andThen_ok, invoke, Array.empty_append, e]
          exact run_enter hfn hcall.2 hcode _ w
        rw [hrun, Oper.upon_enter]
        refine hback.mono ?_
        rintro e w' ⟨v, m', rfl, k1, k2, k3⟩
        exact hn v w' m' k1 k2 k3
    | invoke r mth => simp [aop] at h
    | builtin b =>
      have hargs := args_rel (args := args) (ρ := ρ) (a := a) (fun x hx => hr x (by simp [Op.operands, Call.operands]; simpa using hx))
      cases b with
      | len =>
        simp only [aop] at h
        split at h
        rotate_left
        · cases h
        rename_i x t hx ht
        obtain rfl := arr1 hx
        obtain rfl := arr1 ht
        refine Up.of_done ?_ (Done.of_pure hS (lenK_sound (ty := type) h (hr x (by simp [Op.operands, Call.operands]))))
        simp [execOp, resolve, invoke, builtin]
      | append =>
        simp only [aop] at h
        split at h
        rotate_left
        · cases h
        rename_i s x hx
        obtain rfl := arr2 hx
        refine Up.of_done ?_ (appendK_sound (ty := type) h hc hst hS hid (hr s (by simp [Op.operands, Call.operands])) (hr x (by simp [Op.operands, Call.operands])))
        simp [execOp, resolve, invoke, builtin]
      | max =>
        simp only [aop] at h
        refine Up.of_done ?_ (Done.of_pure hS (minMaxK_sound (P := P) h hargs.1 hargs.2 argTypes type))
        have e : (args.toList.map a.eval).toArray = args.map a.eval := by apply Array.ext'; simp
        rw [e]
        simp [execOp, resolve, invoke, builtin]
      | min =>
        simp only [aop] at h
        refine Up.of_done ?_ (Done.of_pure hS (minMaxK_sound (P := P) h hargs.1 hargs.2 argTypes type))
        have e : (args.toList.map a.eval).toArray = args.map a.eval := by apply Array.ext'; simp
        rw [e]
        simp [execOp, resolve, invoke, builtin]
      | _ => simp [aop] at h
  | _ => simp [aop] at h

end Go.Ab
