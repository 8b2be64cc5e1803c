/- PROVED: OutlineCountsOn returns true for every input: the tied card Rows.OutlineCountsOnCardSaid. The listed variables are tied to the pruned copy of the program. -/
import Derived.Test.YtfhidobmbgmjfaaGreatDoorM1
import Derived.Test.YtfhidobmbgmjfaaGreatDoorM2
import Derived.Test.YtfhidobmbgmjfaaGreatDoorM3
import Derived.Test.YtfhidobmbgmjfaaGreatDoorM4
import Derived.Test.YtfhidobmbgmjfaaGreatDoorM5
import Derived.Deep.DeepWitnessRowRef
import Derived.Lay
import Derived.Test.YtfhidobmbgmjfaaGreatDoorCards
import Derived.Test.YtfhidobmbgmjfaaGreatDoorTie
import Derived.WalkKit
import Derived.ProofKit
import Derived.OpenShut
import Derived.Below
import Derived.Carry
import Derived.ChangeOld
import Derived.Deep.DeepHandedRow
import Derived.Lib.LaidTab
import Derived.Lib.LaidU8T
import Derived.ChangeMaps5

namespace Go.Proofs.YtfhidobmbgmjfaaGreatDoor.outlineCountsOn
open Go.ChangeShapes Go.WideShapes Go.ChangeAt Go.RowKit
open Go Go.Proofs Go.Ab Go.Ch
set_option linter.unusedVariables false
set_option linter.unusedSimpArgs false

theorem own : ownKnob Tryz.prog.godebug = none := by kernel_rfl
theorem laidOut : laidOutB Tryz.prog = true := by kernel_rfl
theorem rdI : RdM Tryz.prog 3 1 (fun z : Int => .sc (.int .i64 z)) (fun _ => 1) := RdM.int Tryz.underlying3 (by kernel_rfl)
set_option maxRecDepth 100000 in
theorem rdIs : RdM Tryz.prog 29 1 (fun l : List Int => .lst 1 (l.map intT)) (fun l => (l.map fun _ : Int => 1).sum + 1) := RdM.slice (f := intT) Tryz.underlying29 (by decide) (by kernel_rfl) rdI

set_option maxRecDepth 100000 in
theorem contract (H : Type) (enc : TypeId × Value → H) (W : World) (base : Nat) (args : Array Value) (ds gs : List (DataW H)) (before : List MemPlace)
    (hval0 : ∀ (j : Nat) t v, Tryz.f6.params[j]? = some t → args[j]? = some v → Value.okWide Tryz.prog W .any base t v)
    (hW : DataW.Whole enc Tryz.prog Tryz.f6.params.toList Rows.outlineCountsOnSpec.vars false W args.toList ds gs before) (hT : TabW Tryz.prog W) :
    Calls Tryz.prog 6 args W fun e W' => ∃ v, e = .returned v ∧ Rows.outlineCountsOnSpec.post enc Tryz.prog Tryz.f6 false true false false W args v W' := by
  have hval := hval0
  have hW' := hW
  obtain ⟨p, q, hA0, hV, rfl, hfz, hnd⟩ := hW
  have hA : DataW.TrodAll enc Tryz.prog W 0 (fun _ => true) true Tryz.f6.params.toList args.toList ds p := hA0
  rw [Tryz.params6] at hA hval
  obtain ⟨v0, vs0, d0, ds0, p0, q0, hargs, rfl, rfl, h0, r0⟩ := trodAll_cons hA
  obtain ⟨rfl, rfl, rfl⟩ := trodAll_nil r0
  obtain rfl : args = #[v0] := by cases args; simp_all
  obtain ⟨rfl, rfl⟩ := trodVars_none hV
  obtain ⟨a0, len0, cap0, rfl⟩ := okWide_slice Tryz.underlying29 (hval 0 29 v0 rfl rfl)
  have lt0 : ∀ x ∈ p0, x.block < W.heap.size := by obtain ⟨m, hm⟩ := h0; exact DataW.trod_lt m _ _ _ hm
  obtain ⟨x0, t0, b0⟩ := rdIs.arg (fun _ => rfl) h0 rfl
  clear hA0 hval0
  refine ((fc_law35 x0).law hT (us := [.slice a0 len0 cap0]) rfl (fun i a u ha hu => ?_)).mono fun e W' ⟨he, bel⟩ => ?_
  · match i with
    | 0 => cases ha; cases hu; exact ⟨_, rfl, t0⟩
    | i + 1 => cases ha
  subst he
  exact ⟨_, rfl, _, _, _, [], _, [], hW', trodAll_mk1 (shut_bool Tryz.underlying4 _), (trodAll_cons_mk (Below.trod laidOut (by kernel_rfl) (of_decide_eq_true (by kernel_rfl)) h0 bel lt0) trodAll_mk0), rfl, bel.frame _, fun h => by cases h⟩

noncomputable def laidWorld (os : Os) : World := World.laidAll Tryz.prog os Rows.outlineCountsOnRow.laid
set_option maxRecDepth 100000 in
theorem laid_met (os : Os) : laidMet Tryz.prog Rows.outlineCountsOnRow.laid ((laidWorld os).forCall (fun _ _ => 0) ⟨#[], #[.slice none 0 0], []⟩).memory :=
  laidMet_laidAll #[.slice none 0 0] (by kernel_rfl) (by kernel_rfl)
set_option maxRecDepth 100000 in
theorem reads (os : Os) {H : Type} (enc : TypeId × Value → H) : ∃ places, DataW.whole enc Tryz.prog ((laidWorld os).forCall (fun _ _ => 0) ⟨#[], #[.slice none 0 0], []⟩).memory Tryz.f6.params.toList Rows.outlineCountsOnSpec.vars false #[Value.slice none 0 0].toList 8 = some ([.nil], [], places) :=
  ⟨[], by kernel_rfl⟩
theorem first_eq : Go.Lib.firstData = Rows.laid_unicode_utf8_first := by kernel_rfl
theorem accept_eq : Go.Lib.acceptData = (Rows.laid_unicode_utf8_acceptRanges : DataW Unit) := by kernel_rfl
theorem extra : U8Extra Tryz.prog Tryz.lays260_ren :=
  { n3 := by kernel_rfl, n4 := by kernel_rfl, y3 := by kernel_rfl, y4 := by kernel_rfl, c5 := by kernel_rfl, c119 := by kernel_rfl, c138 := by kernel_rfl }
theorem pow_of {W : World} (h : Go.Lib.VarReads Tryz.prog W "internal/strconv.uint64pow10" Rows.laid_internal_strconv_uint64pow10) : ∃ cs, W.var? Tryz.prog "internal/strconv.uint64pow10" = some cs ∧ cs = (Go.Lib.pow10Tab.map fun z => Value.int .u64 z).toArray := by
  have e : (Rows.laid_internal_strconv_uint64pow10 : DataW Unit) = Go.Lib.tabData .u64 Go.Lib.pow10Tab := by kernel_rfl
  rw [e] at h
  obtain ⟨g, t, cs, fuel, p, hg, ht, hv, hd⟩ := h
  obtain rfl : 4 = g := Option.some.inj ((show Tryz.prog.globalNamed "internal/strconv.uint64pow10" = some 4 by kernel_rfl).symm.trans hg)
  obtain rfl : 266 = t := Option.some.inj ((show (Tryz.prog.globals[4]?).map (·.type) = some 266 by kernel_rfl).symm.trans ht)
  have := Go.Lib.cells_of_tab Tryz.underlying266 Tryz.underlying235 (by kernel_rfl) (by kernel_rfl) hd
  refine ⟨cs, hv, ?_⟩
  rw [← this]
theorem err_of {W : World} {n nm : String} {d : DataW Unit} {g : Nat} (h1 : Tryz.prog.globalNamed n = some g) (h2 : (Tryz.prog.globals[g]?).map (·.type) = some 168) (h : Go.Lib.VarReads Tryz.prog W n (.iface nm d)) : ∃ cs, W.var? Tryz.prog n = some cs ∧ ∃ tp p, cs = #[.iface tp p] := by
  obtain ⟨g', t, cs, fuel, p, hg, ht, hv, hd⟩ := h
  obtain rfl := Option.some.inj (h1.symm.trans hg)
  obtain rfl := Option.some.inj (h2.symm.trans ht)
  obtain ⟨_, u, v, e, _, _⟩ := iface_of_trod Tryz.underlying168 hd
  exact ⟨cs, hv, u, v, by apply Array.ext'; simpa using e⟩
theorem tables {W : World} (hL : laidMetH Tryz.prog Rows.outlineCountsOnRow.laid W) : TabW Tryz.prog W := by
  have hL : laidMet Tryz.prog Rows.outlineCountsOnRow.laid W := by
    unfold laidMetH at hL
    have e : ((Rows.outlineCountsOnRow.laid).filter fun x => x.2.handleName?.isSome) = [] := by kernel_rfl
    rw [e] at hL; exact hL
  have mem : ∀ (n : String) (d : DataW Unit), (Rows.outlineCountsOnRow.laid).find? (fun x => x.1 == n) = some (n, d) → (n, d) ∈ Rows.outlineCountsOnRow.laid := fun n d h => List.mem_of_find?_eq_some h
  have h4 := Go.Lib.laidMet.reads hL (mem "unicode/utf8.acceptRanges" Rows.laid_unicode_utf8_acceptRanges (by kernel_rfl))
  have h3 := Go.Lib.laidMet.reads hL (mem "unicode/utf8.first" Rows.laid_unicode_utf8_first (by kernel_rfl))
  have hp := Go.Lib.laidMet.reads hL (mem "internal/strconv.uint64pow10" Rows.laid_internal_strconv_uint64pow10 (by kernel_rfl))
  have hs := Go.Lib.laidMet.reads hL (mem "strconv.ErrSyntax" Rows.laid_strconv_ErrSyntax (by kernel_rfl))
  have hr := Go.Lib.laidMet.reads hL (mem "strconv.ErrRange" Rows.laid_strconv_ErrRange (by kernel_rfl))
  rw [← first_eq] at h3
  rw [← accept_eq] at h4
  refine ⟨fun a b ha hb => ?_, fun p hm a ha => ?_⟩
  · obtain rfl : 0 = a := Option.some.inj ((show Tryz.prog.globalNamed "unicode/utf8.first" = some 0 by kernel_rfl).symm.trans ha)
    obtain rfl : 1 = b := Option.some.inj ((show Tryz.prog.globalNamed "unicode/utf8.acceptRanges" = some 1 by kernel_rfl).symm.trans hb)
    exact utf8Tabs_of_readsT (U8Types.of260 Tryz.lays260) extra h3 h4
  · unfold tabVars at hm
    simp only [List.mem_cons, List.not_mem_nil, or_false] at hm
    rcases hm with rfl | rfl | rfl
    · exact pow_of hp
    · exact err_of (g := 2) (by kernel_rfl) (by kernel_rfl) hs
    · exact err_of (g := 3) (by kernel_rfl) (by kernel_rfl) hr
set_option maxRecDepth 100000 in
theorem lifted (os : Os) (started : os.Started) (H : Type) (enc : TypeId × Value → H) :
    ReturnsInHanded {} Tryz.checked os 6 .any ((OpenSpec.ofChange Rows.outlineCountsOnSpec).preRow enc Tryz.prog Tryz.f6 Rows.outlineCountsOnRow.domain false Rows.outlineCountsOnRow.laid) (Rows.outlineCountsOnSpec.post enc Tryz.prog Tryz.f6 false true false false) := by
  obtain ⟨places, hx⟩ := reads os enc
  refine returnsInHanded_of_row (C := Tryz.checked) (F := fun _ _ _ => 0) (s := OpenSpec.ofChange Rows.outlineCountsOnSpec) own started (by kernel_rfl) Tryz.func6
    (witness_row_atRef (enc := enc) (C := Tryz.checked) false (laidWorld os) #[.slice none 0 0] (World.laidAll_os _ _ _) (by kernel_rfl) (by kernel_rfl) (by kernel_rfl)
      (OpenSpec.preRow_of_cond 8 hx (by kernel_rfl) (fun k hk => by cases hk) (by kernel_rfl) (laid_met os))) ?_
  intro W base args ds gs before hval hW _ _ _ hL _ _
  exact contract H enc W base args ds gs before hval hW (tables hL)
set_option maxRecDepth 100000 in
theorem closed : joinedFacts Tryz.pinned.checked.prog 6 Tryz.f6 Rows.outlineCountsOnSpec Rows.outlineCountsOnRow = true := by
  unfold joinedFacts
  rw [frame.mayEnter, frame.liftsNo, frame.made, frame.laid, frame.rowed, frame.noStops, frame.noKnobs, frame.heard, frame.keys]
  kernel_rfl
theorem said : Rows.OutlineCountsOnSaid :=
  OpenClaim.holds_of_wide 6 Tryz.f6 rfl rfl rfl rfl rfl rfl rfl ⟨rfl, rfl, rfl, rfl, rfl⟩ rfl rfl rfl rfl rfl (by kernel_rfl) Tryz.func6 closed
    (of_decide_eq_true (by kernel_rfl)) (by unfold Func.isWrapper; first | (rw [if_pos (by decide +kernel)]; kernel_rfl) | (rw [if_neg (by decide +kernel)]; exact ⟨rfl, rfl⟩))
    (fun os started H enc _ => by rw [OpenClaim.pre_eq_preRow]; exact lifted os started H enc)
theorem plain (f : FuncId) (fn : Func) (hf : Tryz.pinned.checked.prog.funcNamed "chancery/chancerykeep1.OutlineCountsOn" = some f) (hfn : Tryz.pinned.checked.prog.funcs[f]? = some fn) :
    true = Tryz.pinned.checked.prog.looks [] ∧ ∀ (j : Nat) t, fn.params[j]? = some t → Tryz.pinned.checked.prog.wantsStandIn t = false := by
  obtain rfl : f = 6 := Option.some.inj ((show Tryz.prog.funcNamed "chancery/chancerykeep1.OutlineCountsOn" = some 6 by kernel_rfl).symm.trans hf) |>.symm
  obtain rfl : fn = Tryz.f6 := (Option.some.inj (Tryz.func6.symm.trans hfn)).symm
  refine ⟨by kernel_rfl, fun j t ht => ?_⟩
  rw [Tryz.params6] at ht
  have hm := Array.mem_of_getElem? ht
  simp only [List.mem_toArray, List.mem_cons, List.not_mem_nil, or_false] at hm
  rcases hm with rfl
  · exact (show Tryz.prog.wantsStandIn 29 = false by kernel_rfl)
theorem proved : Rows.OutlineCountsOnCardSaid :=
  Claim7.holds_tied_plain_at .later [] _ _ _ _ said (fun _ h => by cases h) (by kernel_rfl) (fun _ h => by cases h) outlineCountsOn_row_tie rfl ⟨rfl, rfl⟩ (by kernel_rfl) rfl plain (by kernel_rfl)
end Go.Proofs.YtfhidobmbgmjfaaGreatDoor.outlineCountsOn

