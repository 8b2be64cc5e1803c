/- A part of the last text of LawFull_editPairApplies. -/
import Derived.Test.YtipofpnmgbaopaaGreatDoorM10
set_option linter.unusedVariables false
set_option linter.unusedSimpArgs false

namespace Go.Proofs.YtipofpnmgbaopaaGreatDoor.editPairApplies
open Go.ChangeShapes Go.WideShapes Go.ChangeAt Go.RowKit
open Go Go.Proofs Go.Ab Go.Ch

theorem own : ownKnob Tryz.prog.godebug = none := by kernel_rfl
theorem PA : laidOutB Tryz.prog = true := by kernel_rfl
theorem rdI : xU Tryz.prog 3 1 (fun z : Int => .sc (.int .i64 z)) (fun _ => 1) := xU.int Tryz.underlying3 (by kernel_rfl)
set_option maxRecDepth 100000 in
theorem PB : xU Tryz.prog 22 1 (fun l : List Int => .bX 1 (l.map bC)) (fun l => (l.map fun _ : Int => 1).sum + 1) := xU.slice (f := bC) Tryz.underlying22 (by decide) (by kernel_rfl) rdI

set_option maxRecDepth 100000 in
theorem z9n (H : Type) (enc : TypeId × Value -> H) (W : World) (base : Nat) (args : Array Value) (ds gs : List (DataW H)) (before : List MemPlace)
    (Ct : ∀ (j : Nat) t v, Tryz.f3.params[j]? = some t -> args[j]? = some v -> Value.okWide Tryz.prog W .any base t v)
    (hW : DataW.Whole enc Tryz.prog Tryz.f3.params.toList Rows.editPairAppliesSpec.vars false W args.toList ds gs before) (hT : AY Tryz.prog W) :
    Calls Tryz.prog 3 args W fun e W' => ∃ v, e = .returned v /\ Rows.editPairAppliesSpec.post enc Tryz.prog Tryz.f3 false true false false W args v W' := by
  have iG := Ct
  have hW' := hW
  obtain ⟨p, q, Vu, hV, rfl, PC, nN⟩ := hW
  have hA : DataW.TrodAll enc Tryz.prog W 0 (fun _ => true) true Tryz.f3.params.toList args.toList ds p := Vu
  rw [Tryz.params3] at hA iG
  obtain ⟨v0, vs0, d0, ds0, p0, q0, lz, rfl, rfl, h0, r0⟩ := trodAll_cons hA
  obtain ⟨v1, vs1, d1, ds1, p1, q1, rfl, rfl, rfl, h1, r1⟩ := trodAll_cons r0
  obtain ⟨v2, vs2, d2, ds2, p2, q2, rfl, rfl, rfl, h2, r2⟩ := trodAll_cons r1
  obtain ⟨rfl, rfl, rfl⟩ := trodAll_nil r2
  obtain rfl : args = #[v0, v1, v2] := by cases args; simp_all
  obtain ⟨rfl, rfl⟩ := trodVars_none hV
  obtain ⟨a0, Fs, PE, rfl⟩ := okWide_slice Tryz.underlying22 (iG 0 22 v0 rfl rfl)
  obtain ⟨a1, uC, PF, rfl⟩ := okWide_slice Tryz.underlying22 (iG 1 22 v1 rfl rfl)
  obtain ⟨a2, uD, PG, rfl⟩ := okWide_slice Tryz.underlying22 (iG 2 22 v2 rfl rfl)
  have lt0 : ∀ x ∈ p0, x.block < W.heap.size := by obtain ⟨m, hm⟩ := h0; exact DataW.trod_lt m _ _ _ hm
  have lt1 : ∀ x ∈ p1, x.block < W.heap.size := by obtain ⟨m, hm⟩ := h1; exact DataW.trod_lt m _ _ _ hm
  have lt2 : ∀ x ∈ p2, x.block < W.heap.size := by obtain ⟨m, hm⟩ := h2; exact DataW.trod_lt m _ _ _ hm
  obtain ⟨x0, t0, b0⟩ := PB.arg (fun _ => rfl) h0 rfl
  obtain ⟨x1, t1, b1⟩ := PB.arg (fun _ => rfl) h1 rfl
  obtain ⟨x2, t2, b2⟩ := PB.arg (fun _ => rfl) h2 rfl
  clear Vu Ct
  refine ((x5r x0 x1 x2).law hT (us := [.slice a0 Fs PE, .slice a1 uC PF, .slice a2 uD PG]) rfl (fun i a u ha hu => ?_)).mono fun e W' ⟨he, KZ⟩ => ?_
  · match i with
    | 0 => cases ha; cases hu; exact ⟨_, rfl, t0⟩
    | 1 => cases ha; cases hu; exact ⟨_, rfl, t1⟩
    | 2 => cases ha; cases hu; exact ⟨_, rfl, t2⟩
    | i + 3 => cases ha
  subst he
  exact ⟨_, rfl, _, _, _, [], _, [], hW', trodAll_mk1 (shut_bool Tryz.underlying4 _), (trodAll_cons_mk (Below.trod PA (by kernel_rfl) (of_decide_eq_true (by kernel_rfl)) h0 KZ lt0) (trodAll_cons_mk (Below.trod PA (by kernel_rfl) (of_decide_eq_true (by kernel_rfl)) h1 KZ lt1) (trodAll_cons_mk (Below.trod PA (by kernel_rfl) (of_decide_eq_true (by kernel_rfl)) h2 KZ lt2) trodAll_mk0))), rfl, KZ.frame _, fun h => by cases h⟩

noncomputable def PJ (os : Os) : World := World.laidAll Tryz.prog os Rows.editPairAppliesRow.laid
set_option maxRecDepth 100000 in
theorem x5t (os : Os) : laidMet Tryz.prog Rows.editPairAppliesRow.laid ((PJ os).forCall (fun _ _ => 0) ⟨#[], #[.slice none 0 0, .slice none 0 0, .slice none 0 0], []⟩).memory :=
  laidMet_laidAll #[.slice none 0 0, .slice none 0 0, .slice none 0 0] (by kernel_rfl) (by kernel_rfl)
set_option maxRecDepth 100000 in
theorem reads (os : Os) {H : Type} (enc : TypeId × Value -> H) : ∃ places, DataW.whole enc Tryz.prog ((PJ os).forCall (fun _ _ => 0) ⟨#[], #[.slice none 0 0, .slice none 0 0, .slice none 0 0], []⟩).memory Tryz.f3.params.toList Rows.editPairAppliesSpec.vars false #[Value.slice none 0 0, Value.slice none 0 0, Value.slice none 0 0].toList 8 = some ([.nil, .nil, .nil], [], places) :=
  ⟨[], by kernel_rfl⟩
theorem x5u : Go.Lib.firstData = Rows.laid_unicode_utf8_first := by kernel_rfl
theorem x3n : Go.Lib.acceptData = (Rows.laid_unicode_utf8_acceptRanges : DataW Unit) := by kernel_rfl
theorem w17 : U8Extra Tryz.prog Tryz.mu :=
  { n3 := by kernel_rfl, n4 := by kernel_rfl, y3 := by kernel_rfl, y4 := by kernel_rfl, c5 := by kernel_rfl, c119 := by kernel_rfl, c138 := by kernel_rfl }
theorem w0l {W : World} (h : Go.Lib.VarReads Tryz.prog W "internal/strconv.uint64pow10" Rows.laid_internal_strconv_uint64pow10) : ∃ cs, W.var? Tryz.prog "internal/strconv.uint64pow10" = some cs /\ cs = (Go.Lib.pow10Tab.map fun z => Value.int .u64 z).toArray := by
  have e : (Rows.laid_internal_strconv_uint64pow10 : DataW Unit) = Go.Lib.tabData .u64 Go.Lib.pow10Tab := by kernel_rfl
  rw [e] at h
  obtain ⟨g, t, cs, fuel, p, hg, ht, hv, hd⟩ := h
  obtain rfl : 4 = g := Option.some.inj ((show Tryz.prog.globalNamed "internal/strconv.uint64pow10" = some 4 by kernel_rfl).symm.trans hg)
  obtain rfl : 416 = t := Option.some.inj ((show (Tryz.prog.globals[4]?).map (·.type) = some 416 by kernel_rfl).symm.trans ht)
  have := Go.Lib.cells_of_tab Tryz.underlying416 Tryz.underlying350 (by kernel_rfl) (by kernel_rfl) hd
  refine ⟨cs, hv, ?_⟩
  rw [<- this]
theorem Vv {W : World} {n nm : String} {d : DataW Unit} {g : Nat} (h1 : Tryz.prog.globalNamed n = some g) (h2 : (Tryz.prog.globals[g]?).map (·.type) = some 271) (h : Go.Lib.VarReads Tryz.prog W n (.iface nm d)) : ∃ cs, W.var? Tryz.prog n = some cs /\ ∃ tp p, cs = #[.iface tp p] := by
  obtain ⟨g', t, cs, fuel, p, hg, ht, hv, hd⟩ := h
  obtain rfl := Option.some.inj (h1.symm.trans hg)
  obtain rfl := Option.some.inj (h2.symm.trans ht)
  obtain ⟨_, u, v, e, _, _⟩ := iface_of_trod Tryz.underlying271 hd
  exact ⟨cs, hv, u, v, by apply Array.ext'; simpa using e⟩
theorem x6v {W : World} (hL : laidMetH Tryz.prog Rows.editPairAppliesRow.laid W) : AY Tryz.prog W := by
  have hL : laidMet Tryz.prog Rows.editPairAppliesRow.laid W := by
    unfold laidMetH at hL
    have e : ((Rows.editPairAppliesRow.laid).filter fun x => x.2.handleName?.isSome) = [] := by kernel_rfl
    rw [e] at hL; exact hL
  have mem : ∀ (n : String) (d : DataW Unit), (Rows.editPairAppliesRow.laid).find? (fun x => x.1 == n) = some (n, d) -> (n, d) ∈ Rows.editPairAppliesRow.laid := fun n d h => List.mem_of_find?_eq_some h
  have h4 := Go.Lib.laidMet.reads hL (mem "unicode/utf8.acceptRanges" Rows.laid_unicode_utf8_acceptRanges (by kernel_rfl))
  have h3 := Go.Lib.laidMet.reads hL (mem "unicode/utf8.first" Rows.laid_unicode_utf8_first (by kernel_rfl))
  have hp := Go.Lib.laidMet.reads hL (mem "internal/strconv.uint64pow10" Rows.laid_internal_strconv_uint64pow10 (by kernel_rfl))
  have hs := Go.Lib.laidMet.reads hL (mem "strconv.ErrSyntax" Rows.laid_strconv_ErrSyntax (by kernel_rfl))
  have hr := Go.Lib.laidMet.reads hL (mem "strconv.ErrRange" Rows.laid_strconv_ErrRange (by kernel_rfl))
  rw [<- x5u] at h3
  rw [<- x3n] at h4
  refine ⟨fun a b ha hb => ?_, fun p hm a ha => ?_⟩
  · obtain rfl : 0 = a := Option.some.inj ((show Tryz.prog.globalNamed "unicode/utf8.first" = some 0 by kernel_rfl).symm.trans ha)
    obtain rfl : 1 = b := Option.some.inj ((show Tryz.prog.globalNamed "unicode/utf8.acceptRanges" = some 1 by kernel_rfl).symm.trans hb)
    exact utf8Tabs_of_readsT (U8Types.of260 Tryz.AX) w17 h3 h4
  · unfold JL at hm
    simp only [List.mem_cons, List.not_mem_nil, or_false] at hm
    rcases hm with rfl | rfl | rfl
    · exact w0l hp
    · exact Vv (g := 2) (by kernel_rfl) (by kernel_rfl) hs
    · exact Vv (g := 3) (by kernel_rfl) (by kernel_rfl) hr
end Go.Proofs.YtipofpnmgbaopaaGreatDoor.editPairApplies

