import Derived.Test.YtbdbibmbfmlobaaChDelta7
import Derived.Test.YtbdbibmbfmlobaaDeltaLaws
set_option linter.unusedVariables false
set_option linter.unusedSimpArgs false
set_option maxRecDepth 100000
set_option maxHeartbeats 4000000
open Go Go.Proofs Go.Ab
namespace Go.Ch
theorem fc_deltas  : FC Try.prog 46 [] (app emp []) (.t (.sc (.bool true))) (app emp []) := by
  refine FC.of_sim (fn := Try.f46) (nx := 0) (by kernel_rfl) rfl (by kernel_rfl) rfl ?_
  show Sim _ _ _ _ ⟨[], app emp [], 0⟩ _
  obtain ⟨p1, p2, p3, p4⟩ := probe_facts
  have p5 := probe_dn
  have p6 := ltr_an { data := #[97, 98] } 400000000000
  unfold probeD at *
  refine Sim.seq ?_
  refine Sim.reg (orcs := []) (keys := []) (τ := []) (nx := 8)
    (sl := []) (l := [])
    (C := []) (by kernel_rfl) ?_ ?_
  · -- region 0
    trivial
  refine andThen_normal ?_
  refine Sim.seq ?_
  refine Sim.reg (orcs := [(0, ⟨none, none, none, some (⟨1, [], .t (.lst 3 (List.map elemT (lettersL ({ data := #[97, 98] })))), []⟩)⟩), (1, ⟨none, none, none, some (⟨1, [], .t (.lst 3 (List.map elemT (lettersL ({ data := #[120] })))), []⟩)⟩), (2, ⟨some (.t (.agg [.sc (.int .i64 1), .sc (.int .i64 0), .lst 2 (List.map attrT []), .lst 3 (List.map elemT (lettersL ({ data := #[120] })))])), none, none, none⟩), (3, ⟨some (.t (.agg [.sc (.int .i64 2), .sc (.int .i64 1), .lst 2 (List.map attrT []), .lst 3 (List.map elemT [])])), none, none, none⟩), (4, ⟨some (.t (.agg [.sc (.int .i64 0), .sc (.int .i64 1), .lst 2 (List.map attrT []), .lst 3 (List.map elemT [])])), none, none, none⟩), (6, ⟨none, none, none, some (⟨1, [], .tup [.t (.lst 3 (List.map elemT (rawD (lettersL ({ data := #[97, 98] })) [({ kind := 1, n := 0, attrs := [], elems := (lettersL ({ data := #[120] })) } : DStep), ({ kind := 2, n := 1, attrs := [], elems := [] } : DStep), ({ kind := 0, n := 1, attrs := [], elems := [] } : DStep)]))), .t (.sc (.int .i64 0))], []⟩)⟩)]) (keys := [1, 2]) (τ := []) (nx := 104)
    (sl := [(1, .t (.lst 3 (List.map elemT (rawD (lettersL ({ data := #[97, 98] })) [({ kind := 1, n := 0, attrs := [], elems := (lettersL ({ data := #[120] })) } : DStep), ({ kind := 2, n := 1, attrs := [], elems := [] } : DStep), ({ kind := 0, n := 1, attrs := [], elems := [] } : DStep)])))), (2, .t (.sc (.int .i64 0)))]) (l := [])
    (C := [callable Try.prog 98 = true, FC Try.prog 98 [.t (.sc (.string ({ data := #[97, 98] })))] emp (.t (.lst 3 (List.map elemT (lettersL ({ data := #[97, 98] }))))) (app emp []), callable Try.prog 98 = true, FC Try.prog 98 [.t (.sc (.string ({ data := #[120] })))] emp (.t (.lst 3 (List.map elemT (lettersL ({ data := #[120] }))))) (app emp []), Weak (.t (.agg [.sc (.int .i64 1), .sc (.int .i64 0), .sc (.slice none 0 0), .lst 3 (List.map elemT (lettersL ({ data := #[120] })))])) (.t (.agg [.sc (.int .i64 1), .sc (.int .i64 0), .lst 2 (List.map attrT []), .lst 3 (List.map elemT (lettersL ({ data := #[120] })))])), Weak (.t (.agg [.sc (.int .i64 2), .sc (.int .i64 1), .sc (.slice none 0 0), .sc (.slice none 0 0)])) (.t (.agg [.sc (.int .i64 2), .sc (.int .i64 1), .lst 2 (List.map attrT []), .lst 3 (List.map elemT [])])), Weak (.t (.agg [.sc (.int .i64 0), .sc (.int .i64 1), .sc (.slice none 0 0), .sc (.slice none 0 0)])) (.t (.agg [.sc (.int .i64 0), .sc (.int .i64 1), .lst 2 (List.map attrT []), .lst 3 (List.map elemT [])])), callable Try.prog 53 = true, (3 : Nat) = (List.map dstepT [({ kind := 1, n := 0, attrs := [], elems := (lettersL ({ data := #[120] })) } : DStep), ({ kind := 2, n := 1, attrs := [], elems := [] } : DStep), ({ kind := 0, n := 1, attrs := [], elems := [] } : DStep)]).length, FC Try.prog 53 [.t (.lst 3 (List.map elemT (lettersL ({ data := #[97, 98] })))), .t (.lst 4 (List.map dstepT [({ kind := 1, n := 0, attrs := [], elems := (lettersL ({ data := #[120] })) } : DStep), ({ kind := 2, n := 1, attrs := [], elems := [] } : DStep), ({ kind := 0, n := 1, attrs := [], elems := [] } : DStep)]))] emp (.tup [.t (.lst 3 (List.map elemT (rawD (lettersL ({ data := #[97, 98] })) [({ kind := 1, n := 0, attrs := [], elems := (lettersL ({ data := #[120] })) } : DStep), ({ kind := 2, n := 1, attrs := [], elems := [] } : DStep), ({ kind := 0, n := 1, attrs := [], elems := [] } : DStep)]))), .t (.sc (.int .i64 0))]) (app emp [])]) (by kernel_rfl) ?_ ?_
  · -- region 1
    refine ⟨(by kernel_rfl), (fc_letters ({ data := #[97, 98] }) (by decide)), (by kernel_rfl), (fc_letters ({ data := #[120] }) (by decide)), (Weak.agg ⟨.inl rfl, ⟨.inl rfl, ⟨tw_nil (by decide), ⟨.inl rfl, trivial⟩⟩⟩⟩), (Weak.agg ⟨.inl rfl, ⟨.inl rfl, ⟨tw_nil (by decide), ⟨tw_nil (by decide), trivial⟩⟩⟩⟩), (Weak.agg ⟨.inl rfl, ⟨.inl rfl, ⟨tw_nil (by decide), ⟨tw_nil (by decide), trivial⟩⟩⟩⟩), (by kernel_rfl), ?_, (fc_dApply (lettersL ({ data := #[97, 98] })) [({ kind := 1, n := 0, attrs := [], elems := (lettersL ({ data := #[120] })) } : DStep), ({ kind := 2, n := 1, attrs := [], elems := [] } : DStep), ({ kind := 0, n := 1, attrs := [], elems := [] } : DStep)] (by assumption) (by assumption) (by assumption) (by assumption) (by omega)), trivial⟩
    all_goals (first | omega | with_reducible exact fun h => h | (intro hg hq; rw [hg, hq]; rfl) | (intro hq; rw [hq]; done) | (intro hq; rw [hq]; rfl) | ((try intro hg); (try simp [-List.getD_eq_getElem?_getD] at hg); (try simp only [List.length_map]); first | done | omega | rfl | (simp; done) | (simp; omega) | (simp [hg]; done) | (intro hq; simp [hg, hq]; done) | (intro hq; simp [hg, hq]; omega)))
  refine andThen_normal ?_
  refine Sim.seq ?_
  refine Sim.reg (orcs := [(4, ⟨none, none, none, some (⟨1, [], .t (.lst 3 (List.map elemT (lettersL ({ data := #[120, 98] })))), []⟩)⟩), (5, ⟨none, none, none, some (⟨0, [], .t (.sc (.bool (sameF (rawD (lettersL ({ data := #[97, 98] })) [({ kind := 1, n := 0, attrs := [], elems := (lettersL ({ data := #[120] })) } : DStep), ({ kind := 2, n := 1, attrs := [], elems := [] } : DStep), ({ kind := 0, n := 1, attrs := [], elems := [] } : DStep)]) (lettersL ({ data := #[120, 98] }))))), []⟩)⟩)]) (keys := [0]) (τ := []) (nx := 168)
    (sl := [(0, .t (.sc (.bool (true && (sameF (rawD (lettersL ({ data := #[97, 98] })) [({ kind := 1, n := 0, attrs := [], elems := (lettersL ({ data := #[120] })) } : DStep), ({ kind := 2, n := 1, attrs := [], elems := [] } : DStep), ({ kind := 0, n := 1, attrs := [], elems := [] } : DStep)]) (lettersL ({ data := #[120, 98] })))))))]) (l := [])
    (C := [true = true → callable Try.prog 98 = true, true = true → FC Try.prog 98 [.t (.sc (.string ({ data := #[120, 98] })))] emp (.t (.lst 3 (List.map elemT (lettersL ({ data := #[120, 98] }))))) (app emp []), true = true → true = true, true = true → true = true, true = true → callable Try.prog 55 = true, true = true → FC Try.prog 55 [.t (.lst 3 (List.map elemT (rawD (lettersL ({ data := #[97, 98] })) [({ kind := 1, n := 0, attrs := [], elems := (lettersL ({ data := #[120] })) } : DStep), ({ kind := 2, n := 1, attrs := [], elems := [] } : DStep), ({ kind := 0, n := 1, attrs := [], elems := [] } : DStep)]))), .t (.lst 3 (List.map elemT (lettersL ({ data := #[120, 98] }))))] emp (.t (.sc (.bool (sameF (rawD (lettersL ({ data := #[97, 98] })) [({ kind := 1, n := 0, attrs := [], elems := (lettersL ({ data := #[120] })) } : DStep), ({ kind := 2, n := 1, attrs := [], elems := [] } : DStep), ({ kind := 0, n := 1, attrs := [], elems := [] } : DStep)]) (lettersL ({ data := #[120, 98] })))))) emp, true = true → true = true]) (by kernel_rfl) ?_ ?_
  · -- region 2
    refine ⟨(fun hg => by skip; exact (by kernel_rfl)), (fun hg => by skip; exact (fc_letters ({ data := #[120, 98] }) (by decide))), ?_, ?_, (fun hg => by skip; exact (by kernel_rfl)), (fun hg => by skip; exact (fc_sameFlow (rawD (lettersL ({ data := #[97, 98] })) [({ kind := 1, n := 0, attrs := [], elems := (lettersL ({ data := #[120] })) } : DStep), ({ kind := 2, n := 1, attrs := [], elems := [] } : DStep), ({ kind := 0, n := 1, attrs := [], elems := [] } : DStep)]) (lettersL ({ data := #[120, 98] })))), ?_, trivial⟩
    all_goals (first | omega | with_reducible exact fun h => h | (intro hg hq; rw [hg, hq]; rfl) | (intro hq; rw [hq]; done) | (intro hq; rw [hq]; rfl) | ((try intro hg); (try simp [-List.getD_eq_getElem?_getD] at hg); (try simp only [List.length_map]); first | done | omega | rfl | (simp; done) | (simp; omega) | (simp [hg]; done) | (intro hq; simp [hg, hq]; done) | (intro hq; simp [hg, hq]; omega)))
  refine andThen_normal ?_
  refine Sim.ret ?_
  refine Fin.mk2 (.inl rfl) (τ := []) (keys := [0]) (nx := 168) (sl := [(0, .t (.sc (.bool (true && (sameF (rawD (lettersL ({ data := #[97, 98] })) [({ kind := 1, n := 0, attrs := [], elems := (lettersL ({ data := #[120] })) } : DStep), ({ kind := 2, n := 1, attrs := [], elems := [] } : DStep), ({ kind := 0, n := 1, attrs := [], elems := [] } : DStep)]) (lettersL ({ data := #[120, 98] })))))))]) (l := []) (res' := .t (.sc (.bool (true && (sameF (rawD (lettersL ({ data := #[97, 98] })) [({ kind := 1, n := 0, attrs := [], elems := (lettersL ({ data := #[120] })) } : DStep), ({ kind := 2, n := 1, attrs := [], elems := [] } : DStep), ({ kind := 0, n := 1, attrs := [], elems := [] } : DStep)]) (lettersL ({ data := #[120, 98] }))))))) (by kernel_rfl) ?_ (by kernel_rfl) ?_
  · -- end 1, objects
    first | done | rfl
  · -- end 1, result
    have e1 : ((true && (sameF (rawD (lettersL ({ data := #[97, 98] })) [({ kind := 1, n := 0, attrs := [], elems := (lettersL ({ data := #[120] })) } : DStep), ({ kind := 2, n := 1, attrs := [], elems := [] } : DStep), ({ kind := 0, n := 1, attrs := [], elems := [] } : DStep)]) (lettersL ({ data := #[120, 98] })))) : Bool) = true := by
      rw [p4]; simp
    show AVal.t (.sc (.bool (true && (sameF (rawD (lettersL ({ data := #[97, 98] })) [({ kind := 1, n := 0, attrs := [], elems := (lettersL ({ data := #[120] })) } : DStep), ({ kind := 2, n := 1, attrs := [], elems := [] } : DStep), ({ kind := 0, n := 1, attrs := [], elems := [] } : DStep)]) (lettersL ({ data := #[120, 98] })))))) = .t (.sc (.bool true))
    rw [e1]
    try rfl

theorem fc_lawUndo (f : List Elem) (l : List DStep) (raw : List Int) (hsz : SzE f) (hdz : DSz l) (hd : DN 100000000000 l) (ha : AN 100000000000 f) : FC Try.prog 11 [.t (.lst 3 (List.map elemT f)), .t (.lst 4 (List.map dstepT l)), .t (.lst 1 (List.map intT raw))] (app emp []) (.t (.sc (.bool true))) (app emp []) := by
  refine FC.of_sim (fn := Try.f11) (nx := 0) (by kernel_rfl) rfl (by kernel_rfl) rfl ?_
  show Sim _ _ _ _ ⟨[(0, .t (.lst 3 (List.map elemT f))), (1, .t (.lst 4 (List.map dstepT l))), (2, .t (.lst 1 (List.map intT raw)))], app emp [], 0⟩ _
  refine Sim.len (t := 0) (k := 3) rfl (fun hl0 => ?_)
  rw [List.length_map] at hl0
  refine Sim.len (t := 1) (k := 4) rfl (fun hl1 => ?_)
  rw [List.length_map] at hl1
  refine Sim.len (t := 2) (k := 1) rfl (fun hl2 => ?_)
  rw [List.length_map] at hl2
  have hd4 := hd.mono (n := 400000000000) (by decide)
  have tx := tag_x
  have htl : (f.take 60).length = min 60 f.length := List.length_take
  refine Sim.seq ?_
  refine Sim.reg (orcs := []) (keys := [0, 1, 2]) (τ := []) (nx := 8)
    (sl := [(0, .t (.lst 3 (List.map elemT f))), (1, .t (.lst 4 (List.map dstepT l))), (2, .t (.lst 1 (List.map intT raw)))]) (l := [])
    (C := []) (by kernel_rfl) ?_ ?_
  · -- region 0
    trivial
  refine andThen_normal ?_
  refine Sim.seq ?_
  refine Sim.seq ?_
  refine Sim.reg (orcs := [(0, ⟨none, none, none, some (⟨0, [], .t (.sc (.bool true)), []⟩)⟩)]) (keys := [0, 1, 2, 14]) (τ := []) (nx := 24)
    (sl := [(0, .t (.lst 3 (List.map elemT f))), (1, .t (.lst 4 (List.map dstepT l))), (2, .t (.lst 1 (List.map intT raw))), (14, .t (.sc (.bool false)))]) (l := [])
    (C := [callable Try.prog 46 = true, FC Try.prog 46 [] emp (.t (.sc (.bool true))) emp]) (by kernel_rfl) ?_ ?_
  · -- region 1
    exact ⟨(by kernel_rfl), (fc_deltas), trivial⟩
  refine andThen_normal ?_
  refine Sim.cond (b := false) (by kernel_rfl) (fun h1 => ?_) (fun h1 => ?_)
  · cases h1
  · skip
    refine Sim.skip ?_
    refine andThen_normal ?_
    refine Sim.seq ?_
    refine Sim.seq ?_
    refine Sim.reg (orcs := [(1, ⟨none, none, none, some (⟨0, [], .t (.sc (.int .i64 (partE f 0))), []⟩)⟩)]) (keys := [0, 1, 2, 17]) (τ := []) (nx := 48)
      (sl := [(0, .t (.lst 3 (List.map elemT f))), (1, .t (.lst 4 (List.map dstepT l))), (2, .t (.lst 1 (List.map intT raw))), (17, .t (.sc (.bool ((partE f 0) != 0))))]) (l := [])
      (C := [callable Try.prog 47 = true, FC Try.prog 47 [.t (.lst 3 (List.map elemT f))] emp (.t (.sc (.int .i64 (partE f 0)))) emp]) (by kernel_rfl) ?_ ?_
    · -- region 3
      exact ⟨(by kernel_rfl), (fc_partError f (by assumption)), trivial⟩
    refine andThen_normal ?_
    refine Sim.cond (b := ((partE f 0) != 0)) (by kernel_rfl) (fun h3 => ?_) (fun h3 => ?_)
    · (try simp only [bne_iff_ne, bne_eq_false_iff_eq, ne_eq] at h3)
      refine Sim.seq ?_
      refine Sim.reg (orcs := []) (keys := [6]) (τ := []) (nx := 56)
        (sl := [(6, .t (.sc (.bool true)))]) (l := [])
        (C := []) (by kernel_rfl) ?_ ?_
      · -- region 4
        trivial
      refine andThen_normal ?_
      refine Sim.ret ?_
      refine andThen_ret ?_
      refine Fin.mk2 (.inl rfl) (τ := []) (keys := [6]) (nx := 56) (sl := [(6, .t (.sc (.bool true)))]) (l := []) (res' := .t (.sc (.bool true))) (by kernel_rfl) ?_ (by kernel_rfl) ?_
      · -- end 1, objects
        first | done | rfl
      · -- end 1, result
        first | done | rfl
    · (try simp only [bne_iff_ne, bne_eq_false_iff_eq, ne_eq] at h3)
      refine Sim.skip ?_
      refine andThen_normal ?_
      refine Sim.seq ?_
      refine Sim.seq ?_
      refine Sim.reg (orcs := [(1, ⟨none, none, none, some (⟨0, [], .t (.sc (.int .i64 (refD l))), []⟩)⟩), (5, ⟨none, none, none, some (⟨0, [], .t (.sc (.int .i64 (oldD l))), []⟩)⟩), (7, ⟨some (.t (.sc (.int .i64 (f.length : Int)))), none, none, none⟩)]) (keys := [0, 1, 2, 27]) (τ := []) (nx := 128)
        (sl := [(0, .t (.lst 3 (List.map elemT f))), (1, .t (.lst 4 (List.map dstepT l))), (2, .t (.lst 1 (List.map intT raw))), (27, .t (.sc (.bool (((refD l) != 0) || ((oldD l) != (f.length : Int))))))]) (l := [])
        (C := [callable Try.prog 51 = true, FC Try.prog 51 [.t (.lst 4 (List.map dstepT l))] emp (.t (.sc (.int .i64 (refD l)))) emp, (!((refD l) != 0)) = true → (!((refD l) != 0)) = true, (!((refD l) != 0)) = true → callable Try.prog 52 = true, (!((refD l) != 0)) = true → FC Try.prog 52 [.t (.lst 4 (List.map dstepT l))] emp (.t (.sc (.int .i64 (oldD l)))) emp, (!((refD l) != 0)) = true → (!((refD l) != 0)) = true, (!((refD l) != 0)) = true → Weak (.t (.sc (.int .i64 ((List.map elemT f).length : Int)))) (.t (.sc (.int .i64 (f.length : Int)))), (!((refD l) != 0)) = true → (!((refD l) != 0)) = true, (!((refD l) != 0)) = true → (!((refD l) != 0)) = true, ((refD l) != 0) = false → (!((refD l) != 0)) = true]) (by kernel_rfl) ?_ ?_
      · -- region 5
        refine ⟨(by kernel_rfl), (fc_refD l (by assumption) (by assumption)), ?_, (fun hg => by (try simp only [Bool.not_eq_true', Bool.not_eq_false', bne_iff_ne, bne_eq_false_iff_eq, ne_eq] at hg); exact (by kernel_rfl)), (fun hg => by (try simp only [Bool.not_eq_true', Bool.not_eq_false', bne_iff_ne, bne_eq_false_iff_eq, ne_eq] at hg); exact (fc_sizeR l (by first | assumption | exact refD_iff.1 hg | exact refD_iff.1 (by simpa using hg)))), ?_, (fun hg => by (try simp only [Bool.not_eq_true', Bool.not_eq_false', bne_iff_ne, bne_eq_false_iff_eq, ne_eq] at hg); exact (Weak.of_eq len_map)), ?_, ?_, ?_, trivial⟩
        all_goals (first | omega | with_reducible exact fun h => h | (intro hg hq; rw [hg, hq]; rfl) | (intro hq; rw [hq]; done) | (intro hq; rw [hq]; rfl) | ((try intro hg); (try simp [-List.getD_eq_getElem?_getD] at hg); (try simp only [List.length_map]); first | done | omega | rfl | (simp; done) | (simp; omega) | (simp [hg]; done) | (intro hq; simp [hg, hq]; done) | (intro hq; simp [hg, hq]; omega)))
      refine andThen_normal ?_
      refine Sim.cond (b := (((refD l) != 0) || ((oldD l) != (f.length : Int)))) (by kernel_rfl) (fun h5 => ?_) (fun h5 => ?_)
      · (try simp only [Bool.or_eq_true, Bool.or_eq_false_iff, bne_iff_ne, bne_eq_false_iff_eq, ne_eq] at h5)
        refine Sim.seq ?_
        refine Sim.seq ?_
        refine Sim.reg (orcs := [(1, ⟨some (.t (.sc (.int .i64 (f.length : Int)))), none, none, none⟩)]) (keys := [0, 2, 30]) (τ := []) (nx := 152)
          (sl := [(0, .t (.lst 3 (List.map elemT f))), (2, .t (.lst 1 (List.map intT raw))), (30, .t (.sc (.bool (decide ((f.length : Int) > 60)))))]) (l := [])
          (C := [Weak (.t (.sc (.int .i64 ((List.map elemT f).length : Int)))) (.t (.sc (.int .i64 (f.length : Int))))]) (by kernel_rfl) ?_ ?_
        · -- region 6
          exact ⟨(Weak.of_eq len_map), trivial⟩
        refine andThen_normal ?_
        refine Sim.cond (b := decide ((f.length : Int) > 60)) (by kernel_rfl) (fun h6 => ?_) (fun h6 => ?_)
        · (try simp only [decide_eq_true_eq, decide_eq_false_iff_not, Int.not_lt, Int.not_le, gt_iff_lt] at h6)
          refine Sim.reg (orcs := [(1, ⟨some (.t (.lst 3 (List.map elemT (f.take 60)))), none, none, none⟩)]) (keys := [0, 2]) (τ := []) (nx := 176)
            (sl := [(0, .t (.lst 3 (List.map elemT (f.take 60)))), (2, .t (.lst 1 (List.map intT raw)))]) (l := [])
            (C := [(0:Int) ≤ 60, 60 ≤ (((List.map elemT f).length : Nat) : Int), Weak (.t (.lst 3 ((List.map elemT f).take 60))) (.t (.lst 3 (List.map elemT (f.take 60))))]) (by kernel_rfl) ?_ ?_
          · -- region 7
            refine ⟨?_, ?_, (Weak.of_eq sl_take), trivial⟩
            all_goals (first | omega | with_reducible exact fun h => h | (intro hg hq; rw [hg, hq]; rfl) | (intro hq; rw [hq]; done) | (intro hq; rw [hq]; rfl) | ((try intro hg); (try simp [-List.getD_eq_getElem?_getD] at hg); (try simp only [List.length_map]); first | done | omega | rfl | (simp; done) | (simp; omega) | (simp [hg]; done) | (intro hq; simp [hg, hq]; done) | (intro hq; simp [hg, hq]; omega)))
          refine andThen_normal ?_
          have hco := change_ok (raw := raw) tx (n := Int.toNat (((f.take 60)).length : Int)) (by omega)
          refine Sim.reg (orcs := [(1, ⟨some (.t (.sc (.int .i64 ((f.take 60).length : Int)))), none, none, none⟩), (3, ⟨none, none, none, some (⟨1, [], .t (.lst 4 (List.map dstepT (doneD (actR (chgX raw ({ data := #[120] }) (Int.toNat ((f.take 60).length : Int))) 0)))), []⟩)⟩)]) (keys := [0, 1]) (τ := []) (nx := 216)
            (sl := [(0, .t (.lst 3 (List.map elemT (f.take 60)))), (1, .t (.lst 4 (List.map dstepT (doneD (actR (chgX raw ({ data := #[120] }) (Int.toNat ((f.take 60).length : Int))) 0)))))]) (l := [])
            (C := [Weak (.t (.sc (.int .i64 ((List.map elemT (f.take 60)).length : Int)))) (.t (.sc (.int .i64 ((f.take 60).length : Int)))), callable Try.prog 48 = true, FC Try.prog 48 [.t (.sc (.int .i64 ((f.take 60).length : Int))), .t (.lst 1 (List.map intT raw)), .t (.sc (.string ({ data := #[120] })))] emp (.t (.lst 4 (List.map dstepT (doneD (actR (chgX raw ({ data := #[120] }) (Int.toNat ((f.take 60).length : Int))) 0))))) (app emp [])]) (by kernel_rfl) ?_ ?_
          · -- region 8
            exact ⟨(Weak.of_eq len_map), (by kernel_rfl), (fc_draw ((f.take 60).length : Int) raw ({ data := #[120] }) (by assumption) (by omega)), trivial⟩
          refine andThen_normal ?_
          refine Sim.seq ?_
          have hq1 : partE (f.take 60) 0 = 0 := by first | omega | exact partE_take (by omega) _
          have hq2 : AN 100000000000 (f.take 60) := by first | exact ha | exact an_take ha _
          have hq3 : DValid (doneD (actR (chgX raw ({ data := #[120] }) (Int.toNat ((f.take 60).length : Int))) 0)) ∧ DN 100000000000 (doneD (actR (chgX raw ({ data := #[120] }) (Int.toNat ((f.take 60).length : Int))) 0)) ∧ oldD (doneD (actR (chgX raw ({ data := #[120] }) (Int.toNat ((f.take 60).length : Int))) 0)) = (((f.take 60)).length : Int) := by first | exact ⟨refD_iff.1 (by omega), hd, by omega⟩ | exact ⟨hco.2.2.2.2.1, hco.2.2.2.2.2.2.1, by have := hco.2.2.2.2.2.1; omega⟩
          obtain ⟨hq4, hq5, hq6⟩ := hq3
          obtain ⟨u1, u2, u3, u4, u5, u6, u7, u8, u9⟩ := undo_law (f := (f.take 60)) (l := (doneD (actR (chgX raw ({ data := #[120] }) (Int.toNat ((f.take 60).length : Int))) 0))) hq1 hq4 hq5 hq2 hq6
          refine Sim.reg (orcs := [(2, ⟨none, none, none, some (⟨1, [], .tup [.t (.lst 3 (List.map elemT (rawD (f.take 60) (doneD (actR (chgX raw ({ data := #[120] }) (Int.toNat ((f.take 60).length : Int))) 0))))), .t (.sc (.int .i64 0))], []⟩)⟩)]) (keys := [0, 1, 7, 8]) (τ := []) (nx := 280)
            (sl := [(0, .t (.lst 3 (List.map elemT (f.take 60)))), (1, .t (.lst 4 (List.map dstepT (doneD (actR (chgX raw ({ data := #[120] }) (Int.toNat ((f.take 60).length : Int))) 0))))), (7, .t (.lst 3 (List.map elemT (rawD (f.take 60) (doneD (actR (chgX raw ({ data := #[120] }) (Int.toNat ((f.take 60).length : Int))) 0)))))), (8, .t (.sc (.int .i64 0)))]) (l := [])
            (C := [callable Try.prog 53 = true, FC Try.prog 53 [.t (.lst 3 (List.map elemT (f.take 60))), .t (.lst 4 (List.map dstepT (doneD (actR (chgX raw ({ data := #[120] }) (Int.toNat ((f.take 60).length : Int))) 0))))] emp (.tup [.t (.lst 3 (List.map elemT (rawD (f.take 60) (doneD (actR (chgX raw ({ data := #[120] }) (Int.toNat ((f.take 60).length : Int))) 0))))), .t (.sc (.int .i64 0))]) (app emp [])]) (by kernel_rfl) ?_ ?_
          · -- region 9
            exact ⟨(by kernel_rfl), (fc_dApply (f.take 60) (doneD (actR (chgX raw ({ data := #[120] }) (Int.toNat ((f.take 60).length : Int))) 0)) (by assumption) (by assumption) (by assumption) (by assumption) (by omega)), trivial⟩
          refine andThen_normal ?_
          refine Sim.seq ?_
          refine Sim.reg (orcs := [(2, ⟨none, none, none, some (⟨1, [], .tup [.t (.lst 4 (List.map dstepT (undoD (f.take 60) (doneD (actR (chgX raw ({ data := #[120] }) (Int.toNat ((f.take 60).length : Int))) 0))))), .t (.sc (.int .i64 0))], []⟩)⟩)]) (keys := [0, 7, 8, 9, 10]) (τ := []) (nx := 344)
            (sl := [(0, .t (.lst 3 (List.map elemT (f.take 60)))), (7, .t (.lst 3 (List.map elemT (rawD (f.take 60) (doneD (actR (chgX raw ({ data := #[120] }) (Int.toNat ((f.take 60).length : Int))) 0)))))), (8, .t (.sc (.int .i64 0))), (9, .t (.lst 4 (List.map dstepT (undoD (f.take 60) (doneD (actR (chgX raw ({ data := #[120] }) (Int.toNat ((f.take 60).length : Int))) 0)))))), (10, .t (.sc (.int .i64 0)))]) (l := [])
            (C := [callable Try.prog 54 = true, FC Try.prog 54 [.t (.lst 3 (List.map elemT (f.take 60))), .t (.lst 4 (List.map dstepT (doneD (actR (chgX raw ({ data := #[120] }) (Int.toNat ((f.take 60).length : Int))) 0))))] emp (.tup [.t (.lst 4 (List.map dstepT (undoD (f.take 60) (doneD (actR (chgX raw ({ data := #[120] }) (Int.toNat ((f.take 60).length : Int))) 0))))), .t (.sc (.int .i64 0))]) (app emp [])]) (by kernel_rfl) ?_ ?_
          · -- region 10
            exact ⟨(by kernel_rfl), (fc_dUndo (f.take 60) (doneD (actR (chgX raw ({ data := #[120] }) (Int.toNat ((f.take 60).length : Int))) 0)) (by assumption) (by assumption) (by assumption) (by assumption) (by omega)), trivial⟩
          refine andThen_normal ?_
          refine Sim.seq ?_
          refine Sim.reg (orcs := [(2, ⟨none, none, none, some (⟨1, [], .tup [.t (.lst 3 (List.map elemT (rawD (rawD (f.take 60) (doneD (actR (chgX raw ({ data := #[120] }) (Int.toNat ((f.take 60).length : Int))) 0))) (undoD (f.take 60) (doneD (actR (chgX raw ({ data := #[120] }) (Int.toNat ((f.take 60).length : Int))) 0)))))), .t (.sc (.int .i64 0))], []⟩)⟩)]) (keys := [0, 8, 10, 11, 12]) (τ := []) (nx := 408)
            (sl := [(0, .t (.lst 3 (List.map elemT (f.take 60)))), (8, .t (.sc (.int .i64 0))), (10, .t (.sc (.int .i64 0))), (11, .t (.lst 3 (List.map elemT (rawD (rawD (f.take 60) (doneD (actR (chgX raw ({ data := #[120] }) (Int.toNat ((f.take 60).length : Int))) 0))) (undoD (f.take 60) (doneD (actR (chgX raw ({ data := #[120] }) (Int.toNat ((f.take 60).length : Int))) 0))))))), (12, .t (.sc (.int .i64 0)))]) (l := [])
            (C := [callable Try.prog 53 = true, FC Try.prog 53 [.t (.lst 3 (List.map elemT (rawD (f.take 60) (doneD (actR (chgX raw ({ data := #[120] }) (Int.toNat ((f.take 60).length : Int))) 0))))), .t (.lst 4 (List.map dstepT (undoD (f.take 60) (doneD (actR (chgX raw ({ data := #[120] }) (Int.toNat ((f.take 60).length : Int))) 0)))))] emp (.tup [.t (.lst 3 (List.map elemT (rawD (rawD (f.take 60) (doneD (actR (chgX raw ({ data := #[120] }) (Int.toNat ((f.take 60).length : Int))) 0))) (undoD (f.take 60) (doneD (actR (chgX raw ({ data := #[120] }) (Int.toNat ((f.take 60).length : Int))) 0)))))), .t (.sc (.int .i64 0))]) (app emp [])]) (by kernel_rfl) ?_ ?_
          · -- region 11
            exact ⟨(by kernel_rfl), (fc_dApply (rawD (f.take 60) (doneD (actR (chgX raw ({ data := #[120] }) (Int.toNat ((f.take 60).length : Int))) 0))) (undoD (f.take 60) (doneD (actR (chgX raw ({ data := #[120] }) (Int.toNat ((f.take 60).length : Int))) 0))) (by assumption) (by assumption) (by assumption) (by assumption) (by omega)), trivial⟩
          refine andThen_normal ?_
          refine Sim.seq ?_
          refine Sim.reg (orcs := [(13, ⟨none, none, none, some (⟨0, [], .t (.sc (.bool (sameF (rawD (rawD (f.take 60) (doneD (actR (chgX raw ({ data := #[120] }) (Int.toNat ((f.take 60).length : Int))) 0))) (undoD (f.take 60) (doneD (actR (chgX raw ({ data := #[120] }) (Int.toNat ((f.take 60).length : Int))) 0)))) (f.take 60)))), []⟩)⟩)]) (keys := [6]) (τ := []) (nx := 536)
            (sl := [(6, .t (.sc (.bool (((true || false) || false) && (sameF (rawD (rawD (f.take 60) (doneD (actR (chgX raw ({ data := #[120] }) (Int.toNat ((f.take 60).length : Int))) 0))) (undoD (f.take 60) (doneD (actR (chgX raw ({ data := #[120] }) (Int.toNat ((f.take 60).length : Int))) 0)))) (f.take 60))))))]) (l := [])
            (C := [true = true → true = true, true = true → true = true, (true || false) = true → (true || false) = true, (true || false) = true → (true || false) = true, ((true || false) || false) = true → ((true || false) || false) = true, ((true || false) || false) = true → ((true || false) || false) = true, ((true || false) || false) = true → callable Try.prog 55 = true, ((true || false) || false) = true → FC Try.prog 55 [.t (.lst 3 (List.map elemT (rawD (rawD (f.take 60) (doneD (actR (chgX raw ({ data := #[120] }) (Int.toNat ((f.take 60).length : Int))) 0))) (undoD (f.take 60) (doneD (actR (chgX raw ({ data := #[120] }) (Int.toNat ((f.take 60).length : Int))) 0)))))), .t (.lst 3 (List.map elemT (f.take 60)))] emp (.t (.sc (.bool (sameF (rawD (rawD (f.take 60) (doneD (actR (chgX raw ({ data := #[120] }) (Int.toNat ((f.take 60).length : Int))) 0))) (undoD (f.take 60) (doneD (actR (chgX raw ({ data := #[120] }) (Int.toNat ((f.take 60).length : Int))) 0)))) (f.take 60))))) emp, ((true || false) || false) = true → ((true || false) || false) = true]) (by kernel_rfl) ?_ ?_
          · -- region 12
            refine ⟨?_, ?_, ?_, ?_, ?_, ?_, (fun hg => by (try simp only [Bool.or_eq_true, Bool.or_eq_false_iff] at hg); exact (by kernel_rfl)), (fun hg => by (try simp only [Bool.or_eq_true, Bool.or_eq_false_iff] at hg); exact (fc_sameFlow (rawD (rawD (f.take 60) (doneD (actR (chgX raw ({ data := #[120] }) (Int.toNat ((f.take 60).length : Int))) 0))) (undoD (f.take 60) (doneD (actR (chgX raw ({ data := #[120] }) (Int.toNat ((f.take 60).length : Int))) 0)))) (f.take 60))), ?_, trivial⟩
            all_goals (first | omega | with_reducible exact fun h => h | (intro hg hq; rw [hg, hq]; rfl) | (intro hq; rw [hq]; done) | (intro hq; rw [hq]; rfl) | ((try intro hg); (try simp [-List.getD_eq_getElem?_getD] at hg); (try simp only [List.length_map]); first | done | omega | rfl | (simp; done) | (simp; omega) | (simp [hg]; done) | (intro hq; simp [hg, hq]; done) | (intro hq; simp [hg, hq]; omega)))
          refine andThen_normal ?_
          refine Sim.ret ?_
          refine Fin.mk2 (.inl rfl) (τ := []) (keys := [6]) (nx := 536) (sl := [(6, .t (.sc (.bool (((true || false) || false) && (sameF (rawD (rawD (f.take 60) (doneD (actR (chgX raw ({ data := #[120] }) (Int.toNat ((f.take 60).length : Int))) 0))) (undoD (f.take 60) (doneD (actR (chgX raw ({ data := #[120] }) (Int.toNat ((f.take 60).length : Int))) 0)))) (f.take 60))))))]) (l := []) (res' := .t (.sc (.bool (((true || false) || false) && (sameF (rawD (rawD (f.take 60) (doneD (actR (chgX raw ({ data := #[120] }) (Int.toNat ((f.take 60).length : Int))) 0))) (undoD (f.take 60) (doneD (actR (chgX raw ({ data := #[120] }) (Int.toNat ((f.take 60).length : Int))) 0)))) (f.take 60)))))) (by kernel_rfl) ?_ (by kernel_rfl) ?_
          · -- end 2, objects
            first | done | rfl
          · -- end 2, result
            have e1 : ((((true || false) || false) && (sameF (rawD (rawD (f.take 60) (doneD (actR (chgX raw ({ data := #[120] }) (Int.toNat ((f.take 60).length : Int))) 0))) (undoD (f.take 60) (doneD (actR (chgX raw ({ data := #[120] }) (Int.toNat ((f.take 60).length : Int))) 0)))) (f.take 60))) : Bool) = true := by
              rw [u9]; simp
            show AVal.t (.sc (.bool (((true || false) || false) && (sameF (rawD (rawD (f.take 60) (doneD (actR (chgX raw ({ data := #[120] }) (Int.toNat ((f.take 60).length : Int))) 0))) (undoD (f.take 60) (doneD (actR (chgX raw ({ data := #[120] }) (Int.toNat ((f.take 60).length : Int))) 0)))) (f.take 60))))) = .t (.sc (.bool true))
            rw [e1]
            try rfl
        · (try simp only [decide_eq_true_eq, decide_eq_false_iff_not, Int.not_lt, Int.not_le, gt_iff_lt] at h6)
          refine Sim.skip ?_
          refine andThen_normal ?_
          have hco := change_ok (raw := raw) tx (n := Int.toNat ((f).length : Int)) (by omega)
          refine Sim.reg (orcs := [(1, ⟨some (.t (.sc (.int .i64 (f.length : Int)))), none, none, none⟩), (3, ⟨none, none, none, some (⟨1, [], .t (.lst 4 (List.map dstepT (doneD (actR (chgX raw ({ data := #[120] }) (Int.toNat (f.length : Int))) 0)))), []⟩)⟩)]) (keys := [0, 1]) (τ := []) (nx := 192)
            (sl := [(0, .t (.lst 3 (List.map elemT f))), (1, .t (.lst 4 (List.map dstepT (doneD (actR (chgX raw ({ data := #[120] }) (Int.toNat (f.length : Int))) 0)))))]) (l := [])
            (C := [Weak (.t (.sc (.int .i64 ((List.map elemT f).length : Int)))) (.t (.sc (.int .i64 (f.length : Int)))), callable Try.prog 48 = true, FC Try.prog 48 [.t (.sc (.int .i64 (f.length : Int))), .t (.lst 1 (List.map intT raw)), .t (.sc (.string ({ data := #[120] })))] emp (.t (.lst 4 (List.map dstepT (doneD (actR (chgX raw ({ data := #[120] }) (Int.toNat (f.length : Int))) 0))))) (app emp [])]) (by kernel_rfl) ?_ ?_
          · -- region 8
            exact ⟨(Weak.of_eq len_map), (by kernel_rfl), (fc_draw (f.length : Int) raw ({ data := #[120] }) (by assumption) (by omega)), trivial⟩
          refine andThen_normal ?_
          refine Sim.seq ?_
          have hq1 : partE f 0 = 0 := by first | omega | exact partE_take (by omega) _
          have hq2 : AN 100000000000 f := by first | exact ha | exact an_take ha _
          have hq3 : DValid (doneD (actR (chgX raw ({ data := #[120] }) (Int.toNat (f.length : Int))) 0)) ∧ DN 100000000000 (doneD (actR (chgX raw ({ data := #[120] }) (Int.toNat (f.length : Int))) 0)) ∧ oldD (doneD (actR (chgX raw ({ data := #[120] }) (Int.toNat (f.length : Int))) 0)) = ((f).length : Int) := by first | exact ⟨refD_iff.1 (by omega), hd, by omega⟩ | exact ⟨hco.2.2.2.2.1, hco.2.2.2.2.2.2.1, by have := hco.2.2.2.2.2.1; omega⟩
          obtain ⟨hq4, hq5, hq6⟩ := hq3
          obtain ⟨u1, u2, u3, u4, u5, u6, u7, u8, u9⟩ := undo_law (f := f) (l := (doneD (actR (chgX raw ({ data := #[120] }) (Int.toNat (f.length : Int))) 0))) hq1 hq4 hq5 hq2 hq6
          refine Sim.reg (orcs := [(2, ⟨none, none, none, some (⟨1, [], .tup [.t (.lst 3 (List.map elemT (rawD f (doneD (actR (chgX raw ({ data := #[120] }) (Int.toNat (f.length : Int))) 0))))), .t (.sc (.int .i64 0))], []⟩)⟩)]) (keys := [0, 1, 7, 8]) (τ := []) (nx := 256)
            (sl := [(0, .t (.lst 3 (List.map elemT f))), (1, .t (.lst 4 (List.map dstepT (doneD (actR (chgX raw ({ data := #[120] }) (Int.toNat (f.length : Int))) 0))))), (7, .t (.lst 3 (List.map elemT (rawD f (doneD (actR (chgX raw ({ data := #[120] }) (Int.toNat (f.length : Int))) 0)))))), (8, .t (.sc (.int .i64 0)))]) (l := [])
            (C := [callable Try.prog 53 = true, FC Try.prog 53 [.t (.lst 3 (List.map elemT f)), .t (.lst 4 (List.map dstepT (doneD (actR (chgX raw ({ data := #[120] }) (Int.toNat (f.length : Int))) 0))))] emp (.tup [.t (.lst 3 (List.map elemT (rawD f (doneD (actR (chgX raw ({ data := #[120] }) (Int.toNat (f.length : Int))) 0))))), .t (.sc (.int .i64 0))]) (app emp [])]) (by kernel_rfl) ?_ ?_
          · -- region 9
            exact ⟨(by kernel_rfl), (fc_dApply f (doneD (actR (chgX raw ({ data := #[120] }) (Int.toNat (f.length : Int))) 0)) (by assumption) (by assumption) (by assumption) (by assumption) (by omega)), trivial⟩
          refine andThen_normal ?_
          refine Sim.seq ?_
          refine Sim.reg (orcs := [(2, ⟨none, none, none, some (⟨1, [], .tup [.t (.lst 4 (List.map dstepT (undoD f (doneD (actR (chgX raw ({ data := #[120] }) (Int.toNat (f.length : Int))) 0))))), .t (.sc (.int .i64 0))], []⟩)⟩)]) (keys := [0, 7, 8, 9, 10]) (τ := []) (nx := 320)
            (sl := [(0, .t (.lst 3 (List.map elemT f))), (7, .t (.lst 3 (List.map elemT (rawD f (doneD (actR (chgX raw ({ data := #[120] }) (Int.toNat (f.length : Int))) 0)))))), (8, .t (.sc (.int .i64 0))), (9, .t (.lst 4 (List.map dstepT (undoD f (doneD (actR (chgX raw ({ data := #[120] }) (Int.toNat (f.length : Int))) 0)))))), (10, .t (.sc (.int .i64 0)))]) (l := [])
            (C := [callable Try.prog 54 = true, FC Try.prog 54 [.t (.lst 3 (List.map elemT f)), .t (.lst 4 (List.map dstepT (doneD (actR (chgX raw ({ data := #[120] }) (Int.toNat (f.length : Int))) 0))))] emp (.tup [.t (.lst 4 (List.map dstepT (undoD f (doneD (actR (chgX raw ({ data := #[120] }) (Int.toNat (f.length : Int))) 0))))), .t (.sc (.int .i64 0))]) (app emp [])]) (by kernel_rfl) ?_ ?_
          · -- region 10
            exact ⟨(by kernel_rfl), (fc_dUndo f (doneD (actR (chgX raw ({ data := #[120] }) (Int.toNat (f.length : Int))) 0)) (by assumption) (by assumption) (by assumption) (by assumption) (by omega)), trivial⟩
          refine andThen_normal ?_
          refine Sim.seq ?_
          refine Sim.reg (orcs := [(2, ⟨none, none, none, some (⟨1, [], .tup [.t (.lst 3 (List.map elemT (rawD (rawD f (doneD (actR (chgX raw ({ data := #[120] }) (Int.toNat (f.length : Int))) 0))) (undoD f (doneD (actR (chgX raw ({ data := #[120] }) (Int.toNat (f.length : Int))) 0)))))), .t (.sc (.int .i64 0))], []⟩)⟩)]) (keys := [0, 8, 10, 11, 12]) (τ := []) (nx := 384)
            (sl := [(0, .t (.lst 3 (List.map elemT f))), (8, .t (.sc (.int .i64 0))), (10, .t (.sc (.int .i64 0))), (11, .t (.lst 3 (List.map elemT (rawD (rawD f (doneD (actR (chgX raw ({ data := #[120] }) (Int.toNat (f.length : Int))) 0))) (undoD f (doneD (actR (chgX raw ({ data := #[120] }) (Int.toNat (f.length : Int))) 0))))))), (12, .t (.sc (.int .i64 0)))]) (l := [])
            (C := [callable Try.prog 53 = true, FC Try.prog 53 [.t (.lst 3 (List.map elemT (rawD f (doneD (actR (chgX raw ({ data := #[120] }) (Int.toNat (f.length : Int))) 0))))), .t (.lst 4 (List.map dstepT (undoD f (doneD (actR (chgX raw ({ data := #[120] }) (Int.toNat (f.length : Int))) 0)))))] emp (.tup [.t (.lst 3 (List.map elemT (rawD (rawD f (doneD (actR (chgX raw ({ data := #[120] }) (Int.toNat (f.length : Int))) 0))) (undoD f (doneD (actR (chgX raw ({ data := #[120] }) (Int.toNat (f.length : Int))) 0)))))), .t (.sc (.int .i64 0))]) (app emp [])]) (by kernel_rfl) ?_ ?_
          · -- region 11
            exact ⟨(by kernel_rfl), (fc_dApply (rawD f (doneD (actR (chgX raw ({ data := #[120] }) (Int.toNat (f.length : Int))) 0))) (undoD f (doneD (actR (chgX raw ({ data := #[120] }) (Int.toNat (f.length : Int))) 0))) (by assumption) (by assumption) (by assumption) (by assumption) (by omega)), trivial⟩
          refine andThen_normal ?_
          refine Sim.seq ?_
          refine Sim.reg (orcs := [(13, ⟨none, none, none, some (⟨0, [], .t (.sc (.bool (sameF (rawD (rawD f (doneD (actR (chgX raw ({ data := #[120] }) (Int.toNat (f.length : Int))) 0))) (undoD f (doneD (actR (chgX raw ({ data := #[120] }) (Int.toNat (f.length : Int))) 0)))) f))), []⟩)⟩)]) (keys := [6]) (τ := []) (nx := 512)
            (sl := [(6, .t (.sc (.bool (((true || false) || false) && (sameF (rawD (rawD f (doneD (actR (chgX raw ({ data := #[120] }) (Int.toNat (f.length : Int))) 0))) (undoD f (doneD (actR (chgX raw ({ data := #[120] }) (Int.toNat (f.length : Int))) 0)))) f)))))]) (l := [])
            (C := [true = true → true = true, true = true → true = true, (true || false) = true → (true || false) = true, (true || false) = true → (true || false) = true, ((true || false) || false) = true → ((true || false) || false) = true, ((true || false) || false) = true → ((true || false) || false) = true, ((true || false) || false) = true → callable Try.prog 55 = true, ((true || false) || false) = true → FC Try.prog 55 [.t (.lst 3 (List.map elemT (rawD (rawD f (doneD (actR (chgX raw ({ data := #[120] }) (Int.toNat (f.length : Int))) 0))) (undoD f (doneD (actR (chgX raw ({ data := #[120] }) (Int.toNat (f.length : Int))) 0)))))), .t (.lst 3 (List.map elemT f))] emp (.t (.sc (.bool (sameF (rawD (rawD f (doneD (actR (chgX raw ({ data := #[120] }) (Int.toNat (f.length : Int))) 0))) (undoD f (doneD (actR (chgX raw ({ data := #[120] }) (Int.toNat (f.length : Int))) 0)))) f)))) emp, ((true || false) || false) = true → ((true || false) || false) = true]) (by kernel_rfl) ?_ ?_
          · -- region 12
            refine ⟨?_, ?_, ?_, ?_, ?_, ?_, (fun hg => by (try simp only [Bool.or_eq_true, Bool.or_eq_false_iff] at hg); exact (by kernel_rfl)), (fun hg => by (try simp only [Bool.or_eq_true, Bool.or_eq_false_iff] at hg); exact (fc_sameFlow (rawD (rawD f (doneD (actR (chgX raw ({ data := #[120] }) (Int.toNat (f.length : Int))) 0))) (undoD f (doneD (actR (chgX raw ({ data := #[120] }) (Int.toNat (f.length : Int))) 0)))) f)), ?_, trivial⟩
            all_goals (first | omega | with_reducible exact fun h => h | (intro hg hq; rw [hg, hq]; rfl) | (intro hq; rw [hq]; done) | (intro hq; rw [hq]; rfl) | ((try intro hg); (try simp [-List.getD_eq_getElem?_getD] at hg); (try simp only [List.length_map]); first | done | omega | rfl | (simp; done) | (simp; omega) | (simp [hg]; done) | (intro hq; simp [hg, hq]; done) | (intro hq; simp [hg, hq]; omega)))
          refine andThen_normal ?_
          refine Sim.ret ?_
          refine Fin.mk2 (.inl rfl) (τ := []) (keys := [6]) (nx := 512) (sl := [(6, .t (.sc (.bool (((true || false) || false) && (sameF (rawD (rawD f (doneD (actR (chgX raw ({ data := #[120] }) (Int.toNat (f.length : Int))) 0))) (undoD f (doneD (actR (chgX raw ({ data := #[120] }) (Int.toNat (f.length : Int))) 0)))) f)))))]) (l := []) (res' := .t (.sc (.bool (((true || false) || false) && (sameF (rawD (rawD f (doneD (actR (chgX raw ({ data := #[120] }) (Int.toNat (f.length : Int))) 0))) (undoD f (doneD (actR (chgX raw ({ data := #[120] }) (Int.toNat (f.length : Int))) 0)))) f))))) (by kernel_rfl) ?_ (by kernel_rfl) ?_
          · -- end 3, objects
            first | done | rfl
          · -- end 3, result
            have e2 : ((((true || false) || false) && (sameF (rawD (rawD f (doneD (actR (chgX raw ({ data := #[120] }) (Int.toNat (f.length : Int))) 0))) (undoD f (doneD (actR (chgX raw ({ data := #[120] }) (Int.toNat (f.length : Int))) 0)))) f)) : Bool) = true := by
              rw [u9]; simp
            show AVal.t (.sc (.bool (((true || false) || false) && (sameF (rawD (rawD f (doneD (actR (chgX raw ({ data := #[120] }) (Int.toNat (f.length : Int))) 0))) (undoD f (doneD (actR (chgX raw ({ data := #[120] }) (Int.toNat (f.length : Int))) 0)))) f)))) = .t (.sc (.bool true))
            rw [e2]
            try rfl
      · (try simp only [Bool.or_eq_true, Bool.or_eq_false_iff, bne_iff_ne, bne_eq_false_iff_eq, ne_eq] at h5)
        refine Sim.skip ?_
        refine andThen_normal ?_
        refine Sim.seq ?_
        have hq1 : partE f 0 = 0 := by first | omega | exact partE_take (by omega) _
        have hq2 : AN 100000000000 f := by first | exact ha | exact an_take ha _
        have hq3 : DValid l ∧ DN 100000000000 l ∧ oldD l = ((f).length : Int) := by first | exact ⟨refD_iff.1 (by omega), hd, by omega⟩ | exact ⟨hco.2.2.2.2.1, hco.2.2.2.2.2.2.1, by have := hco.2.2.2.2.2.1; omega⟩
        obtain ⟨hq4, hq5, hq6⟩ := hq3
        obtain ⟨u1, u2, u3, u4, u5, u6, u7, u8, u9⟩ := undo_law (f := f) (l := l) hq1 hq4 hq5 hq2 hq6
        refine Sim.reg (orcs := [(2, ⟨none, none, none, some (⟨1, [], .tup [.t (.lst 3 (List.map elemT (rawD f l))), .t (.sc (.int .i64 0))], []⟩)⟩)]) (keys := [0, 1, 7, 8]) (τ := []) (nx := 192)
          (sl := [(0, .t (.lst 3 (List.map elemT f))), (1, .t (.lst 4 (List.map dstepT l))), (7, .t (.lst 3 (List.map elemT (rawD f l)))), (8, .t (.sc (.int .i64 0)))]) (l := [])
          (C := [callable Try.prog 53 = true, FC Try.prog 53 [.t (.lst 3 (List.map elemT f)), .t (.lst 4 (List.map dstepT l))] emp (.tup [.t (.lst 3 (List.map elemT (rawD f l))), .t (.sc (.int .i64 0))]) (app emp [])]) (by kernel_rfl) ?_ ?_
        · -- region 9
          exact ⟨(by kernel_rfl), (fc_dApply f l (by assumption) (by assumption) (by assumption) (by assumption) (by omega)), trivial⟩
        refine andThen_normal ?_
        refine Sim.seq ?_
        refine Sim.reg (orcs := [(2, ⟨none, none, none, some (⟨1, [], .tup [.t (.lst 4 (List.map dstepT (undoD f l))), .t (.sc (.int .i64 0))], []⟩)⟩)]) (keys := [0, 7, 8, 9, 10]) (τ := []) (nx := 256)
          (sl := [(0, .t (.lst 3 (List.map elemT f))), (7, .t (.lst 3 (List.map elemT (rawD f l)))), (8, .t (.sc (.int .i64 0))), (9, .t (.lst 4 (List.map dstepT (undoD f l)))), (10, .t (.sc (.int .i64 0)))]) (l := [])
          (C := [callable Try.prog 54 = true, FC Try.prog 54 [.t (.lst 3 (List.map elemT f)), .t (.lst 4 (List.map dstepT l))] emp (.tup [.t (.lst 4 (List.map dstepT (undoD f l))), .t (.sc (.int .i64 0))]) (app emp [])]) (by kernel_rfl) ?_ ?_
        · -- region 10
          exact ⟨(by kernel_rfl), (fc_dUndo f l (by assumption) (by assumption) (by assumption) (by assumption) (by omega)), trivial⟩
        refine andThen_normal ?_
        refine Sim.seq ?_
        refine Sim.reg (orcs := [(2, ⟨none, none, none, some (⟨1, [], .tup [.t (.lst 3 (List.map elemT (rawD (rawD f l) (undoD f l)))), .t (.sc (.int .i64 0))], []⟩)⟩)]) (keys := [0, 8, 10, 11, 12]) (τ := []) (nx := 320)
          (sl := [(0, .t (.lst 3 (List.map elemT f))), (8, .t (.sc (.int .i64 0))), (10, .t (.sc (.int .i64 0))), (11, .t (.lst 3 (List.map elemT (rawD (rawD f l) (undoD f l))))), (12, .t (.sc (.int .i64 0)))]) (l := [])
          (C := [callable Try.prog 53 = true, FC Try.prog 53 [.t (.lst 3 (List.map elemT (rawD f l))), .t (.lst 4 (List.map dstepT (undoD f l)))] emp (.tup [.t (.lst 3 (List.map elemT (rawD (rawD f l) (undoD f l)))), .t (.sc (.int .i64 0))]) (app emp [])]) (by kernel_rfl) ?_ ?_
        · -- region 11
          exact ⟨(by kernel_rfl), (fc_dApply (rawD f l) (undoD f l) (by assumption) (by assumption) (by assumption) (by assumption) (by omega)), trivial⟩
        refine andThen_normal ?_
        refine Sim.seq ?_
        refine Sim.reg (orcs := [(13, ⟨none, none, none, some (⟨0, [], .t (.sc (.bool (sameF (rawD (rawD f l) (undoD f l)) f))), []⟩)⟩)]) (keys := [6]) (τ := []) (nx := 448)
          (sl := [(6, .t (.sc (.bool (((true || false) || false) && (sameF (rawD (rawD f l) (undoD f l)) f)))))]) (l := [])
          (C := [true = true → true = true, true = true → true = true, (true || false) = true → (true || false) = true, (true || false) = true → (true || false) = true, ((true || false) || false) = true → ((true || false) || false) = true, ((true || false) || false) = true → ((true || false) || false) = true, ((true || false) || false) = true → callable Try.prog 55 = true, ((true || false) || false) = true → FC Try.prog 55 [.t (.lst 3 (List.map elemT (rawD (rawD f l) (undoD f l)))), .t (.lst 3 (List.map elemT f))] emp (.t (.sc (.bool (sameF (rawD (rawD f l) (undoD f l)) f)))) emp, ((true || false) || false) = true → ((true || false) || false) = true]) (by kernel_rfl) ?_ ?_
        · -- region 12
          refine ⟨?_, ?_, ?_, ?_, ?_, ?_, (fun hg => by (try simp only [Bool.or_eq_true, Bool.or_eq_false_iff] at hg); exact (by kernel_rfl)), (fun hg => by (try simp only [Bool.or_eq_true, Bool.or_eq_false_iff] at hg); exact (fc_sameFlow (rawD (rawD f l) (undoD f l)) f)), ?_, trivial⟩
          all_goals (first | omega | with_reducible exact fun h => h | (intro hg hq; rw [hg, hq]; rfl) | (intro hq; rw [hq]; done) | (intro hq; rw [hq]; rfl) | ((try intro hg); (try simp [-List.getD_eq_getElem?_getD] at hg); (try simp only [List.length_map]); first | done | omega | rfl | (simp; done) | (simp; omega) | (simp [hg]; done) | (intro hq; simp [hg, hq]; done) | (intro hq; simp [hg, hq]; omega)))
        refine andThen_normal ?_
        refine Sim.ret ?_
        refine Fin.mk2 (.inl rfl) (τ := []) (keys := [6]) (nx := 448) (sl := [(6, .t (.sc (.bool (((true || false) || false) && (sameF (rawD (rawD f l) (undoD f l)) f)))))]) (l := []) (res' := .t (.sc (.bool (((true || false) || false) && (sameF (rawD (rawD f l) (undoD f l)) f))))) (by kernel_rfl) ?_ (by kernel_rfl) ?_
        · -- end 4, objects
          first | done | rfl
        · -- end 4, result
          have e3 : ((((true || false) || false) && (sameF (rawD (rawD f l) (undoD f l)) f)) : Bool) = true := by
            rw [u9]; simp
          show AVal.t (.sc (.bool (((true || false) || false) && (sameF (rawD (rawD f l) (undoD f l)) f)))) = .t (.sc (.bool true))
          rw [e3]
          try rfl
end Go.Ch
