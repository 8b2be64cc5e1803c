/- A part of the last text of LawFull_undoOthersStay. -/
import Derived.Test.YtfihplmfjihpeaaGreatDoorM9

namespace Go.Proofs.YtfihplmfjihpeaaGreatDoor.undoOthersStay
open Go.ChangeShapes Go.WideShapes Go.ChangeAt Go.RowKit
open Go Go.Proofs Go.Ab Go.Ch
set_option linter.unusedVariables false
set_option linter.unusedSimpArgs false

theorem own : ownKnob Tryz.prog.godebug = none := by kernel_rfl
theorem laidOut : laidOutB Tryz.prog = true := by kernel_rfl
theorem rdI : RdM Tryz.prog 3 1 (fun z : Int => .sc (.int .i64 z)) (fun _ => 1) := RdM.int Tryz.underlying3 (by kernel_rfl)
set_option maxRecDepth 100000 in
theorem rdIs : RdM Tryz.prog 22 1 (fun l : List Int => .lst 1 (l.map intT)) (fun l => (l.map fun _ : Int => 1).sum + 1) := RdM.slice (f := intT) Tryz.underlying22 (by decide) (by kernel_rfl) rdI

set_option maxRecDepth 100000 in
theorem contract (H : Type) (enc : TypeId × Value → H) (W : World) (base : Nat) (args : Array Value) (ds gs : List (DataW H)) (before : List MemPlace)
    (hval0 : ∀ (j : Nat) t v, Tryz.f3.params[j]? = some t → args[j]? = some v → Value.okWide Tryz.prog W .any base t v)
    (hW : DataW.Whole enc Tryz.prog Tryz.f3.params.toList Rows.undoOthersStaySpec.vars false W args.toList ds gs before) (hT : TabW Tryz.prog W) :
    Calls Tryz.prog 3 args W fun e W' => ∃ v, e = .returned v ∧ Rows.undoOthersStaySpec.post enc Tryz.prog Tryz.f3 false true false false W args v W' := by
  have hval := hval0
  have hW' := hW
  obtain ⟨p, q, hA0, hV, rfl, hfz, hnd⟩ := hW
  have hA : DataW.TrodAll enc Tryz.prog W 0 (fun _ => true) true Tryz.f3.params.toList args.toList ds p := hA0
  rw [Tryz.params3] at hA hval
  obtain ⟨v0, vs0, d0, ds0, p0, q0, hargs, rfl, rfl, h0, r0⟩ := trodAll_cons hA
  obtain ⟨v1, vs1, d1, ds1, p1, q1, rfl, rfl, rfl, h1, r1⟩ := trodAll_cons r0
  obtain ⟨rfl, rfl, rfl⟩ := trodAll_nil r1
  obtain rfl : args = #[v0, v1] := by cases args; simp_all
  obtain ⟨rfl, rfl⟩ := trodVars_none hV
  obtain ⟨a0, len0, cap0, rfl⟩ := okWide_slice Tryz.underlying22 (hval 0 22 v0 rfl rfl)
  obtain ⟨a1, rfl, rfl, rfl, w1⟩ := open_int Tryz.underlying3 (hval 1 3 v1 rfl rfl) h1
  have lt0 : ∀ x ∈ p0, x.block < W.heap.size := by obtain ⟨m, hm⟩ := h0; exact DataW.trod_lt m _ _ _ hm
  have lt1 : ∀ x ∈ ([] : List MemPlace), x.block < W.heap.size := fun x hx => by cases hx
  obtain ⟨x0, t0, b0⟩ := rdIs.arg (fun _ => rfl) h0 rfl
  obtain ⟨x1, t1, b1⟩ := rdI.arg (fun _ => rfl) h1 rfl
  clear hA0 hval0
  refine ((fc_law50 x0 x1).law hT (us := [.slice a0 len0 cap0, .int .i64 a1]) rfl (fun i a u ha hu => ?_)).mono fun e W' ⟨he, bel⟩ => ?_
  · match i with
    | 0 => cases ha; cases hu; exact ⟨_, rfl, t0⟩
    | 1 => cases ha; cases hu; exact ⟨_, rfl, t1⟩
    | i + 2 => cases ha
  subst he
  exact ⟨_, rfl, _, _, _, [], _, [], hW', trodAll_mk1 (shut_bool Tryz.underlying4 _), (trodAll_cons_mk (Below.trod laidOut (by kernel_rfl) (of_decide_eq_true (by kernel_rfl)) h0 bel lt0) (trodAll_cons_mk (Below.trod laidOut (by kernel_rfl) (of_decide_eq_true (by kernel_rfl)) h1 bel lt1) trodAll_mk0)), rfl, bel.frame _, fun h => by cases h⟩

noncomputable def laidWorld (os : Os) : World := World.laidAll Tryz.prog os Rows.undoOthersStayRow.laid
set_option maxRecDepth 100000 in
theorem laid_met (os : Os) : laidMet Tryz.prog Rows.undoOthersStayRow.laid ((laidWorld os).forCall (fun _ _ => 0) ⟨#[], #[.slice none 0 0, .int .i64 0], []⟩).memory :=
  laidMet_laidAll #[.slice none 0 0, .int .i64 0] (by kernel_rfl) (by kernel_rfl)
set_option maxRecDepth 100000 in
theorem reads (os : Os) {H : Type} (enc : TypeId × Value → H) : ∃ places, DataW.whole enc Tryz.prog ((laidWorld os).forCall (fun _ _ => 0) ⟨#[], #[.slice none 0 0, .int .i64 0], []⟩).memory Tryz.f3.params.toList Rows.undoOthersStaySpec.vars false #[Value.slice none 0 0, Value.int .i64 0].toList 8 = some ([.nil, .lit (.int .i64 0)], [], places) :=
  ⟨[], by kernel_rfl⟩
theorem first_eq : Go.Lib.firstData = Rows.laid_unicode_utf8_first := by kernel_rfl
theorem accept_eq : Go.Lib.acceptData = (Rows.laid_unicode_utf8_acceptRanges : DataW Unit) := by kernel_rfl
theorem extra : U8Extra Tryz.prog Tryz.lays260_ren :=
  { n3 := by kernel_rfl, n4 := by kernel_rfl, y3 := by kernel_rfl, y4 := by kernel_rfl, c5 := by kernel_rfl, c119 := by kernel_rfl, c138 := by kernel_rfl }
theorem pow_of {W : World} (h : Go.Lib.VarReads Tryz.prog W "internal/strconv.uint64pow10" Rows.laid_internal_strconv_uint64pow10) : ∃ cs, W.var? Tryz.prog "internal/strconv.uint64pow10" = some cs ∧ cs = (Go.Lib.pow10Tab.map fun z => Value.int .u64 z).toArray := by
  have e : (Rows.laid_internal_strconv_uint64pow10 : DataW Unit) = Go.Lib.tabData .u64 Go.Lib.pow10Tab := by kernel_rfl
  rw [e] at h
  obtain ⟨g, t, cs, fuel, p, hg, ht, hv, hd⟩ := h
  obtain rfl : 4 = g := Option.some.inj ((show Tryz.prog.globalNamed "internal/strconv.uint64pow10" = some 4 by kernel_rfl).symm.trans hg)
  obtain rfl : 430 = t := Option.some.inj ((show (Tryz.prog.globals[4]?).map (·.type) = some 430 by kernel_rfl).symm.trans ht)
  have := Go.Lib.cells_of_tab Tryz.underlying430 Tryz.underlying290 (by kernel_rfl) (by kernel_rfl) hd
  refine ⟨cs, hv, ?_⟩
  rw [← this]
theorem err_of {W : World} {n nm : String} {d : DataW Unit} {g : Nat} (h1 : Tryz.prog.globalNamed n = some g) (h2 : (Tryz.prog.globals[g]?).map (·.type) = some 276) (h : Go.Lib.VarReads Tryz.prog W n (.iface nm d)) : ∃ cs, W.var? Tryz.prog n = some cs ∧ ∃ tp p, cs = #[.iface tp p] := by
  obtain ⟨g', t, cs, fuel, p, hg, ht, hv, hd⟩ := h
  obtain rfl := Option.some.inj (h1.symm.trans hg)
  obtain rfl := Option.some.inj (h2.symm.trans ht)
  obtain ⟨_, u, v, e, _, _⟩ := iface_of_trod Tryz.underlying276 hd
  exact ⟨cs, hv, u, v, by apply Array.ext'; simpa using e⟩
theorem tables {W : World} (hL : laidMetH Tryz.prog Rows.undoOthersStayRow.laid W) : TabW Tryz.prog W := by
  have hL : laidMet Tryz.prog Rows.undoOthersStayRow.laid W := by
    unfold laidMetH at hL
    have e : ((Rows.undoOthersStayRow.laid).filter fun x => x.2.handleName?.isSome) = [] := by kernel_rfl
    rw [e] at hL; exact hL
  have mem : ∀ (n : String) (d : DataW Unit), (Rows.undoOthersStayRow.laid).find? (fun x => x.1 == n) = some (n, d) → (n, d) ∈ Rows.undoOthersStayRow.laid := fun n d h => List.mem_of_find?_eq_some h
  have h4 := Go.Lib.laidMet.reads hL (mem "unicode/utf8.acceptRanges" Rows.laid_unicode_utf8_acceptRanges (by kernel_rfl))
  have h3 := Go.Lib.laidMet.reads hL (mem "unicode/utf8.first" Rows.laid_unicode_utf8_first (by kernel_rfl))
  have hp := Go.Lib.laidMet.reads hL (mem "internal/strconv.uint64pow10" Rows.laid_internal_strconv_uint64pow10 (by kernel_rfl))
  have hs := Go.Lib.laidMet.reads hL (mem "strconv.ErrSyntax" Rows.laid_strconv_ErrSyntax (by kernel_rfl))
  have hr := Go.Lib.laidMet.reads hL (mem "strconv.ErrRange" Rows.laid_strconv_ErrRange (by kernel_rfl))
  rw [← first_eq] at h3
  rw [← accept_eq] at h4
  refine ⟨fun a b ha hb => ?_, fun p hm a ha => ?_⟩
  · obtain rfl : 0 = a := Option.some.inj ((show Tryz.prog.globalNamed "unicode/utf8.first" = some 0 by kernel_rfl).symm.trans ha)
    obtain rfl : 1 = b := Option.some.inj ((show Tryz.prog.globalNamed "unicode/utf8.acceptRanges" = some 1 by kernel_rfl).symm.trans hb)
    exact utf8Tabs_of_readsT (U8Types.of260 Tryz.lays260) extra h3 h4
  · unfold tabVars at hm
    simp only [List.mem_cons, List.not_mem_nil, or_false] at hm
    rcases hm with rfl | rfl | rfl
    · exact pow_of hp
    · exact err_of (g := 2) (by kernel_rfl) (by kernel_rfl) hs
    · exact err_of (g := 3) (by kernel_rfl) (by kernel_rfl) hr
end Go.Proofs.YtfihplmfjihpeaaGreatDoor.undoOthersStay

