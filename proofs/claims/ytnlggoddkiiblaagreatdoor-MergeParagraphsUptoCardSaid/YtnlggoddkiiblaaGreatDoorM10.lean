/- A part of the last text of LawUp_mergeParagraphs. -/
import Derived.Test.YtnlggoddkiiblaaGreatDoorM1
import Derived.Test.YtnlggoddkiiblaaGreatDoorM2
import Derived.Test.YtnlggoddkiiblaaGreatDoorM3
import Derived.Test.YtnlggoddkiiblaaGreatDoorM4
import Derived.Test.YtnlggoddkiiblaaGreatDoorM5
import Derived.Test.YtnlggoddkiiblaaGreatDoorM6
import Derived.Test.YtnlggoddkiiblaaGreatDoorM7
import Derived.Test.YtnlggoddkiiblaaGreatDoorM8
import Derived.Test.YtnlggoddkiiblaaGreatDoorM9
import Derived.Lay
import Derived.Test.YtnlggoddkiiblaaGreatDoorCards
import Derived.Test.YtnlggoddkiiblaaGreatDoorTie
import Derived.WalkKit
import Derived.ProofKit
import Derived.OpenShut
import Derived.Below
import Derived.Carry
import Derived.ChangeOld
import Derived.JoinedCond
import Derived.Deep.DeepHandedRow
import Derived.Lib.LaidTab
import Derived.Lib.LaidU8T
import Derived.ChangeMaps5
set_option linter.unusedVariables false
set_option linter.unusedSimpArgs false

namespace Go.Proofs.YtnlggoddkiiblaaGreatDoor.mergeParagraphs
open Go.ChangeShapes Go.WideShapes Go.ChangeAt Go.RowKit
open Go Go.Proofs Go.Ab Go.Ch

theorem own : ownKnob Tryz.prog.godebug = none := by kernel_rfl
theorem y57 : laidOutB Tryz.prog = true := by kernel_rfl
theorem rdStr : RdM Tryz.prog 9 1 (fun s : ByteArray => .sc (.string s)) (fun s => s.size + 1) := RdM.str Tryz.underlying9 (by kernel_rfl)
set_option maxRecDepth 100000 in
theorem z5R (H : Type) (enc : TypeId × Value -> H) (W : World) (base : Nat) (args : Array Value) (ds gs : List (DataW H)) (before : List MemPlace)
    (hval0 : ∀ (j : Nat) t v, Tryz.f3.params[j]? = some t -> args[j]? = some v -> Value.okWide Tryz.prog W .any base t v)
    (hW : DataW.Whole enc Tryz.prog Tryz.f3.params.toList Rows.mergeParagraphsSpec.vars false W args.toList ds gs before) (hsm : Rows.uptoSmall H (ds ++ gs) = true) (hT : TabW Tryz.prog W) :
    Calls Tryz.prog 3 args W fun e W' => ∃ v, e = .returned v /\ Rows.mergeParagraphsSpec.post enc Tryz.prog Tryz.f3 false true false false W args v W' := by
  have hbulk := y2N hsm
  have hval := hval0
  have hW' := hW
  obtain ⟨p, q, hA0, hV, rfl, hfz, hnd⟩ := hW
  have hA : DataW.TrodAll enc Tryz.prog W 0 (fun _ => true) true Tryz.f3.params.toList args.toList ds p := hA0
  rw [Tryz.params3] at hA hval
  obtain ⟨v0, vs0, d0, ds0, p0, q0, hargs, rfl, rfl, h0, r0⟩ := trodAll_cons hA
  obtain ⟨v1, vs1, d1, ds1, p1, q1, rfl, rfl, rfl, h1, r1⟩ := trodAll_cons r0
  obtain ⟨rfl, rfl, rfl⟩ := trodAll_nil r1
  obtain rfl : args = #[v0, v1] := by cases args; simp_all
  obtain ⟨rfl, rfl⟩ := trodVars_none hV
  simp only [Rows.uptoBulkAll, List.cons_append, List.nil_append, List.append_nil] at hbulk
  obtain ⟨a0, rfl, rfl, rfl, w0⟩ := Go.ChangeMaps.open_string Tryz.underlying9 (hval 0 9 v0 rfl rfl) h0
  obtain ⟨a1, rfl, rfl, rfl, w1⟩ := Go.ChangeMaps.open_string Tryz.underlying9 (hval 1 9 v1 rfl rfl) h1
  have lt0 : ∀ x ∈ ([] : List MemPlace), x.block < W.heap.size := fun x hx => by cases hx
  have lt1 : ∀ x ∈ ([] : List MemPlace), x.block < W.heap.size := fun x hx => by cases hx
  obtain ⟨x0, t0, b0⟩ := rdStr.arg (fun _ => rfl) h0 rfl
  obtain ⟨x1, t1, b1⟩ := rdStr.arg (fun _ => rfl) h1 rfl
  clear hA0 hval0
  refine ((y7F x0 x1 (by omega) (by omega)).law hT (us := [.string a0, .string a1]) rfl (fun i a u ha hu => ?_)).mono fun e W' ⟨he, bel⟩ => ?_
  · match i with
    | 0 => cases ha; cases hu; exact ⟨_, rfl, t0⟩
    | 1 => cases ha; cases hu; exact ⟨_, rfl, t1⟩
    | i + 2 => cases ha
  subst he
  exact ⟨_, rfl, _, _, _, [], _, [], hW', trodAll_mk1 (shut_bool Tryz.underlying4 _), (trodAll_cons_mk (Below.trod y57 (by kernel_rfl) (of_decide_eq_true (by kernel_rfl)) h0 bel lt0) (trodAll_cons_mk (Below.trod y57 (by kernel_rfl) (of_decide_eq_true (by kernel_rfl)) h1 bel lt1) trodAll_mk0)), rfl, bel.frame _, fun h => by cases h⟩

noncomputable def z6H (os : Os) : World := World.laidAll Tryz.prog os Rows.mergeParagraphsUptoRow.laid
set_option maxRecDepth 100000 in
theorem y7G (os : Os) : laidMet Tryz.prog Rows.mergeParagraphsUptoRow.laid ((z6H os).forCall (fun _ _ => 0) ⟨#[], #[.string { data := #[] }, .string { data := #[] }], []⟩).memory :=
  laidMet_laidAll #[.string { data := #[] }, .string { data := #[] }] (by kernel_rfl) (by kernel_rfl)
set_option maxRecDepth 100000 in
theorem reads (os : Os) {H : Type} (enc : TypeId × Value -> H) : ∃ places, DataW.whole enc Tryz.prog ((z6H os).forCall (fun _ _ => 0) ⟨#[], #[.string { data := #[] }, .string { data := #[] }], []⟩).memory Tryz.f3.params.toList Rows.mergeParagraphsSpec.vars false #[Value.string { data := #[] }, Value.string { data := #[] }].toList 8 = some ([.lit (.string []), .lit (.string [])], [], places) :=
  ⟨[], by kernel_rfl⟩
theorem y7H : Go.Lib.firstData = Rows.laid_unicode_utf8_first := by kernel_rfl
theorem y58 : Go.Lib.acceptData = (Rows.laid_unicode_utf8_acceptRanges : DataW Unit) := by kernel_rfl
theorem extra : U8Extra Tryz.prog Tryz.lays260_ren :=
  { n3 := by kernel_rfl, n4 := by kernel_rfl, y3 := by kernel_rfl, y4 := by kernel_rfl, c5 := by kernel_rfl, c119 := by kernel_rfl, c138 := by kernel_rfl }
theorem x0o {W : World} (h : Go.Lib.VarReads Tryz.prog W "internal/strconv.uint64pow10" Rows.laid_internal_strconv_uint64pow10) : ∃ cs, W.var? Tryz.prog "internal/strconv.uint64pow10" = some cs /\ cs = (Go.Lib.pow10Tab.map fun z => Value.int .u64 z).toArray := by
  have e : (Rows.laid_internal_strconv_uint64pow10 : DataW Unit) = Go.Lib.tabData .u64 Go.Lib.pow10Tab := by kernel_rfl
  rw [e] at h
  obtain ⟨g, t, cs, fuel, p, hg, ht, hv, hd⟩ := h
  obtain rfl : 4 = g := Option.some.inj ((show Tryz.prog.globalNamed "internal/strconv.uint64pow10" = some 4 by kernel_rfl).symm.trans hg)
  obtain rfl : 421 = t := Option.some.inj ((show (Tryz.prog.globals[4]?).map (·.type) = some 421 by kernel_rfl).symm.trans ht)
  have := Go.Lib.cells_of_tab Tryz.underlying421 Tryz.underlying233 (by kernel_rfl) (by kernel_rfl) hd
  refine ⟨cs, hv, ?_⟩
  rw [<- this]
theorem y8d {W : World} {n nm : String} {d : DataW Unit} {g : Nat} (h1 : Tryz.prog.globalNamed n = some g) (h2 : (Tryz.prog.globals[g]?).map (·.type) = some 307) (h : Go.Lib.VarReads Tryz.prog W n (.iface nm d)) : ∃ cs, W.var? Tryz.prog n = some cs /\ ∃ tp p, cs = #[.iface tp p] := by
  obtain ⟨g', t, cs, fuel, p, hg, ht, hv, hd⟩ := h
  obtain rfl := Option.some.inj (h1.symm.trans hg)
  obtain rfl := Option.some.inj (h2.symm.trans ht)
  obtain ⟨_, u, v, e, _, _⟩ := iface_of_trod Tryz.underlying307 hd
  exact ⟨cs, hv, u, v, by apply Array.ext'; simpa using e⟩
theorem y8e {W : World} (hL : laidMetH Tryz.prog Rows.mergeParagraphsUptoRow.laid W) : TabW Tryz.prog W := by
  have hL : laidMet Tryz.prog Rows.mergeParagraphsUptoRow.laid W := by
    unfold laidMetH at hL
    have e : ((Rows.mergeParagraphsUptoRow.laid).filter fun x => x.2.handleName?.isSome) = [] := by kernel_rfl
    rw [e] at hL; exact hL
  have mem : ∀ (n : String) (d : DataW Unit), (Rows.mergeParagraphsUptoRow.laid).find? (fun x => x.1 == n) = some (n, d) -> (n, d) ∈ Rows.mergeParagraphsUptoRow.laid := fun n d h => List.mem_of_find?_eq_some h
  have h4 := Go.Lib.laidMet.reads hL (mem "unicode/utf8.acceptRanges" Rows.laid_unicode_utf8_acceptRanges (by kernel_rfl))
  have h3 := Go.Lib.laidMet.reads hL (mem "unicode/utf8.first" Rows.laid_unicode_utf8_first (by kernel_rfl))
  have hp := Go.Lib.laidMet.reads hL (mem "internal/strconv.uint64pow10" Rows.laid_internal_strconv_uint64pow10 (by kernel_rfl))
  have hs := Go.Lib.laidMet.reads hL (mem "strconv.ErrSyntax" Rows.laid_strconv_ErrSyntax (by kernel_rfl))
  have hr := Go.Lib.laidMet.reads hL (mem "strconv.ErrRange" Rows.laid_strconv_ErrRange (by kernel_rfl))
  rw [<- y7H] at h3
  rw [<- y58] at h4
  refine ⟨fun a b ha hb => ?_, fun p hm a ha => ?_⟩
  · obtain rfl : 0 = a := Option.some.inj ((show Tryz.prog.globalNamed "unicode/utf8.first" = some 0 by kernel_rfl).symm.trans ha)
    obtain rfl : 1 = b := Option.some.inj ((show Tryz.prog.globalNamed "unicode/utf8.acceptRanges" = some 1 by kernel_rfl).symm.trans hb)
    exact utf8Tabs_of_readsT (U8Types.of260 Tryz.lays260) extra h3 h4
  · unfold z7o at hm
    simp only [List.mem_cons, List.not_mem_nil, or_false] at hm
    rcases hm with rfl | rfl | rfl
    · exact x0o hp
    · exact y8d (g := 2) (by kernel_rfl) (by kernel_rfl) hs
    · exact y8d (g := 3) (by kernel_rfl) (by kernel_rfl) hr
end Go.Proofs.YtnlggoddkiiblaaGreatDoor.mergeParagraphs

